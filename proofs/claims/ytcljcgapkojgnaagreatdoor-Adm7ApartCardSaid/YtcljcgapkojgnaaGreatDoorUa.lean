/- Chapter 10: names' bytes: plain laws. -/
import Derived.Test.YtcljcgapkojgnaaGreatDoorSl
set_option linter.unusedSimpArgs false
set_option linter.unusedVariables false
namespace Go.Sx

def partR1 : List (Nat × Nat) := [(97, 122), (48, 57), (45, 45), (46, 46)]
def partR2 : List (Nat × Nat) := [(97, 122), (48, 57), (45, 45), (46, 46), (47, 47)]
def textR : List (Nat × Nat) := [(32, 126)]

theorem bs_app (a b : ByteArray) : (a ++ b).data.toList = a.data.toList ++ b.data.toList := by
  rw [ByteArray.data_append, Array.toList_append]
theorem bs_sOf (l : List Nat) : (sOf l).data.toList = l.map UInt8.ofNat := rfl
theorem bs_len (s : ByteArray) : s.data.toList.length = s.size := rfl
theorem bs_inj {a b : ByteArray} (h : a.data.toList = b.data.toList) : a = b := by
  cases a; cases b
  congr 1
  exact Array.toList_inj.1 h

theorem get_eq (s : ByteArray) (j : Nat) (h : j < s.data.toList.length) : s.get! j = s.data.toList[j] := by
  obtain ⟨a⟩ := s
  show a[j]! = _
  rw [getElem!_pos a j h]
  rfl

/-- Where only runes below 128 fit, the bytes are asked. -/
theorem ra_mem {p : Nat → Bool} (hp : ∀ r, p r = true → r < 128) (s : ByteArray) : ra p s 0 = true ↔ ∀ b ∈ s.data.toList, p b.toNat = true := by
  rw [ra_bytes hp]
  constructor
  · intro h b hb
    obtain ⟨j, hj, rfl⟩ := List.getElem_of_mem hb
    have := h j (Nat.zero_le _) hj
    rwa [get_eq s j hj] at this
  · intro h j _ hj
    rw [get_eq s j hj]
    exact h _ (List.getElem_mem _)

theorem inR1_lt (r : Nat) (h : inR partR1 r = true) : r < 128 := by
  simp [inR, partR1] at h
  omega
theorem inR2_lt (r : Nat) (h : inR partR2 r = true) : r < 128 := by
  simp [inR, partR2] at h
  omega
theorem inRt_lt (r : Nat) (h : inR textR r = true) : r < 128 := by
  simp [inR, textR] at h
  omega
theorem inR1_t (r : Nat) (h : inR partR1 r = true) : inR textR r = true := by
  simp [inR, partR1] at h
  simp [inR, textR]
  omega
theorem inR2_t (r : Nat) (h : inR partR2 r = true) : inR textR r = true := by
  simp [inR, partR2] at h
  simp [inR, textR]
  omega

theorem no_slash {s : ByteArray} (h : ra (inR partR1) s 0 = true) : (47 : UInt8) ∉ s.data.toList := by
  intro hm
  have := (ra_mem inR1_lt s).1 h _ hm
  simp [inR, partR1] at this

/-- A right text fits. -/
theorem dtn_text {t : ByteArray} {n s : ByteArray} (ht : t.data.toList = 47 :: 47 :: (n.data.toList ++ 47 :: s.data.toList)) (hn : ra (inR partR1) n 0 = true) (hs : ra (inR partR2) s 0 = true) : ra (inR textR) t 0 = true := by
  rw [ra_mem inRt_lt, ht]
  have h1 := (ra_mem inR1_lt n).1 hn
  have h2 := (ra_mem inR2_lt s).1 hs
  intro b hb
  simp only [List.mem_cons, List.mem_append] at hb
  rcases hb with rfl | rfl | hb | rfl | hb
  · rfl
  · rfl
  · exact inR1_t _ (h1 b hb)
  · rfl
  · exact inR2_t _ (h2 b hb)

theorem head_first (k n : Nat) (hn : n ≤ maxNum) : ∃ x l, headL k n = x :: l ∧ k * 32 ≤ x ∧ x ≤ k * 32 + 27 := by
  unfold headL
  rw [if_pos hn]
  repeat' split
  all_goals exact ⟨_, _, rfl, by omega, by omega⟩

/-- Is a name right? -/
def okN (c a b : Int) (n s : ByteArray) : Bool :=
  if c = 0 then decide (n.size = 0) && decide (s.size = 0) && decide (a = 0) && decide (b = 0)
  else if c = 1 then !decide (n.size = 0) && ra (inR partR1) n 0 && decide (n.size ≤ 20) && ra (inR partR2) s 0 && decide (s.size ≤ 20) && decide (a = 0) && decide (b = 0)
  else if c = 2 then decide (n.size = 0) && decide (s.size = 0) && decide (1 ≤ a) && decide (a ≤ 999999999) && decide (0 ≤ b) && decide (b ≤ 999999999)
  else false

/-- A name's bytes. -/
def byL (c a b : Int) (n s : List UInt8) : List UInt8 :=
  if c = 0 then [130, 1, 0]
  else if c = 1 then 130 :: 1 :: ((headL 3 (n.length + s.length + 3)).map UInt8.ofNat ++ (47 :: 47 :: (n ++ 47 :: s)))
  else 130 :: 2 :: 130 :: ((headL 0 a.toNat).map UInt8.ofNat ++ (headL 0 b.toNat).map UInt8.ofNat)
def byN (c a b : Int) (n s : ByteArray) : ByteArray := ⟨(byL c a b n.data.toList s.data.toList).toArray⟩

theorem bs_byN (c a b : Int) (n s : ByteArray) : (byN c a b n s).data.toList = byL c a b n.data.toList s.data.toList := by
  simp [byN]

theorem empty_of {s : ByteArray} (h : s.size = 0) : s.data.toList = [] := List.eq_nil_of_length_eq_zero h

/-- Where a name is one of three. -/
theorem ok_cases {c a b : Int} {n s : ByteArray} (h : okN c a b n s = true) :
    (c = 0 ∧ a = 0 ∧ b = 0 ∧ n.data.toList = [] ∧ s.data.toList = []) ∨
    (c = 1 ∧ a = 0 ∧ b = 0 ∧ ra (inR partR1) n 0 = true ∧ ra (inR partR2) s 0 = true ∧ n.size ≤ 20 ∧ s.size ≤ 20) ∨
    (c = 2 ∧ n.data.toList = [] ∧ s.data.toList = [] ∧ 1 ≤ a ∧ a ≤ 999999999 ∧ 0 ≤ b ∧ b ≤ 999999999) := by
  unfold okN at h
  split at h
  · simp only [Bool.and_eq_true, decide_eq_true_eq] at h
    exact .inl ⟨by assumption, h.1.2, h.2, empty_of h.1.1.1, empty_of h.1.1.2⟩
  split at h
  · simp only [Bool.and_eq_true, decide_eq_true_eq] at h
    exact .inr (.inl ⟨by assumption, h.1.2, h.2, h.1.1.1.1.1.2, h.1.1.1.2, h.1.1.1.1.2, h.1.1.2⟩)
  split at h
  · simp only [Bool.and_eq_true, decide_eq_true_eq] at h
    exact .inr (.inr ⟨by assumption, empty_of h.1.1.1.1.1, empty_of h.1.1.1.1.2, h.1.1.1.2, h.1.1.2, h.1.2, h.2⟩)
  · cases h

theorem name_size {c a b : Int} {n s : ByteArray} (h : okN c a b n s = true) : (byN c a b n s).size ≤ 60 := by
  rw [← bs_len, bs_byN]
  rcases ok_cases h with ⟨rfl, _, _, _, _⟩ | ⟨rfl, _, _, _, _, h1, h2⟩ | ⟨rfl, _, _, _, _, _, _⟩
  · simp [byL]
  · have := headL_len 3 (n.size + s.size + 3)
    have := headL_len 3 (n.data.toList.length + s.data.toList.length + 3)
    have := bs_len n; have := bs_len s
    simp [byL]
    omega
  · have := headL_len 0 a.toNat
    have := headL_len 0 b.toNat
    simp [byL]
    omega

/-- Names' bytes begin one another's just where the names are the same. -/
theorem names_apart {c a b c' a' b' : Int} {n s n' s' : ByteArray} (h : okN c a b n s = true) (h' : okN c' a' b' n' s' = true) :
    byL c a b n.data.toList s.data.toList <+: byL c' a' b' n'.data.toList s'.data.toList ↔ c = c' ∧ a = a' ∧ b = b' ∧ n = n' ∧ s = s' := by
  constructor
  case mpr => rintro ⟨rfl, rfl, rfl, rfl, rfl⟩; exact List.prefix_refl _
  case mp =>
  intro hp
  rcases ok_cases h with ⟨rfl, rfl, rfl, hn, hs⟩ | ⟨rfl, rfl, rfl, hn, hs, ln, ls⟩ | ⟨rfl, hn, hs, a0, a1, b0, b1⟩ <;>
  rcases ok_cases h' with ⟨rfl, rfl, rfl, hn', hs'⟩ | ⟨rfl, rfl, rfl, hn', hs', ln', ls'⟩ | ⟨rfl, hn', hs', a0', a1', b0', b1'⟩
  · exact ⟨rfl, rfl, rfl, bs_inj (by rw [hn, hn']), bs_inj (by rw [hs, hs'])⟩
  · exfalso
    obtain ⟨x, l, e, e1, e2⟩ := head_first 3 (n'.data.toList.length + s'.data.toList.length + 3) (by unfold maxNum; have := bs_len n'; have := bs_len s'; omega)
    simp only [byL, if_true, if_false, show ¬ (1 : Int) = 0 by decide, e, List.map_cons, List.cons_append, List.cons_prefix_cons] at hp
    have := congrArg UInt8.toNat hp.2.2.1
    simp at this
    omega
  · exfalso
    simp [byL] at hp
  · exfalso
    obtain ⟨x, l, e, e1, e2⟩ := head_first 3 (n.data.toList.length + s.data.toList.length + 3) (by unfold maxNum; have := bs_len n; have := bs_len s; omega)
    simp only [byL, if_true, if_false, show ¬ (1 : Int) = 0 by decide, e, List.map_cons, List.cons_append, List.cons_prefix_cons] at hp
    have := congrArg UInt8.toNat hp.2.2.1
    simp at this
    omega
  · simp only [byL, if_true, if_false, show ¬ (1 : Int) = 0 by decide, List.cons_prefix_cons, true_and] at hp
    have en := bs_len n; have es := bs_len s; have en' := bs_len n'; have es' := bs_len s'
    obtain ⟨e, hq⟩ := head_prefix (by decide) (by unfold maxNum; omega) (by unfold maxNum; omega) hp
    simp only [List.cons_prefix_cons, true_and] at hq
    have := hq.eq_of_length (by simp; omega)
    obtain ⟨e1, e2⟩ := cut_at (no_slash hn) (no_slash hn') this
    exact ⟨rfl, rfl, rfl, bs_inj e1, bs_inj e2⟩
  · exfalso
    simp [byL] at hp
  · exfalso
    simp [byL] at hp
  · exfalso
    simp [byL] at hp
  · simp only [byL, if_false, show ¬ (2 : Int) = 0 by decide, show ¬ (2 : Int) = 1 by decide, List.cons_prefix_cons, true_and] at hp
    obtain ⟨e, hq⟩ := head_prefix (by decide) (by unfold maxNum; omega) (by unfold maxNum; omega) hp
    rw [← List.append_nil ((headL 0 b.toNat).map _), ← List.append_nil ((headL 0 b'.toNat).map _)] at hq
    obtain ⟨e', _⟩ := head_prefix (by decide) (by unfold maxNum; omega) (by unfold maxNum; omega) hq
    exact ⟨rfl, by omega, by omega, bs_inj (by rw [hn, hn']), bs_inj (by rw [hs, hs'])⟩
end Go.Sx
/- Chapter 12: bytes of pdus and acks: plain laws. -/
namespace Go.Sx

def hb (k n : Nat) : List UInt8 := (headL k n).map UInt8.ofNat

/-- Is a pdu right; its bytes. -/
def okP (i d : Int) (s : ByteArray) : Bool := decide (0 ≤ i) && decide (i ≤ 281474976710655) && decide (0 ≤ d) && decide (d ≤ 281474976710655) && !decide (s.size = 0) && decide (s.size ≤ 560)
def byP (i d : Int) (s : ByteArray) : List UInt8 := 130 :: 3 :: 131 :: (hb 0 i.toNat ++ (hb 0 d.toNat ++ (hb 2 s.size ++ s.data.toList)))

theorem ok_P {i d : Int} {s : ByteArray} (h : okP i d s = true) : (0 ≤ i ∧ i ≤ 281474976710655) ∧ (0 ≤ d ∧ d ≤ 281474976710655) ∧ s.size ≠ 0 ∧ s.size ≤ 560 := by
  simp only [okP, Bool.and_eq_true, decide_eq_true_eq, Bool.not_eq_true', decide_eq_false_iff_not] at h
  exact ⟨⟨h.1.1.1.1.1, h.1.1.1.1.2⟩, ⟨h.1.1.1.2, h.1.1.2⟩, h.1.2, h.2⟩

theorem pdu_apart {i d i' d' : Int} {s s' : ByteArray} (h : okP i d s = true) (h' : okP i' d' s' = true) : byP i d s = byP i' d' s' ↔ i = i' ∧ d = d' ∧ s = s' := by
  constructor
  case mpr => rintro ⟨rfl, rfl, rfl⟩; rfl
  case mp =>
  intro e
  obtain ⟨⟨a0, a1⟩, ⟨b0, b1⟩, c0, c1⟩ := ok_P h
  obtain ⟨⟨a0', a1'⟩, ⟨b0', b1'⟩, c0', c1'⟩ := ok_P h'
  have hp : byP i d s <+: byP i' d' s' := by rw [e]; exact List.prefix_refl _
  simp only [byP, List.cons_prefix_cons, true_and] at hp
  obtain ⟨e1, hp⟩ := head_prefix (by decide) (by unfold maxNum; omega) (by unfold maxNum; omega) hp
  obtain ⟨e2, hp⟩ := head_prefix (by decide) (by unfold maxNum; omega) (by unfold maxNum; omega) hp
  obtain ⟨e3, hp⟩ := head_prefix (by decide) (by unfold maxNum; omega) (by unfold maxNum; omega) hp
  refine ⟨by omega, by omega, bs_inj (hp.eq_of_length ?_)⟩
  rw [bs_len, bs_len, e3]

/-- Numbers that rise, from a number on. -/
def rise : Int → List Int → Bool
  | _, [] => true
  | last, n :: l => decide (0 ≤ n) && decide (n ≤ 281474976710655) && decide (last < n) && rise n l
/-- Are acks right; their bytes. -/
def okA (r : Int) (L : List Int) : Bool := decide (0 ≤ r) && decide (r ≤ 255) && decide (1 ≤ L.length) && decide (L.length ≤ 20) && rise (-1) L
def nbs : List Int → List UInt8
  | [] => []
  | n :: l => hb 0 n.toNat ++ nbs l
def byA (r : Int) (L : List Int) : List UInt8 := 130 :: 4 :: 130 :: (hb 0 r.toNat ++ (hb 4 L.length ++ nbs L))

theorem nbs_apart : ∀ {L M : List Int} {a b : Int}, L.length = M.length → rise a L = true → rise b M = true → nbs L <+: nbs M → L = M
  | [], [], _, _, _, _, _, _ => rfl
  | [], _ :: _, _, _, hl, _, _, _ => by simp at hl
  | _ :: _, [], _, _, hl, _, _, _ => by simp at hl
  | n :: L, m :: M, a, b, hl, h1, h2, hp => by
    simp only [rise, Bool.and_eq_true, decide_eq_true_eq] at h1 h2
    simp only [nbs] at hp
    obtain ⟨e, hq⟩ := head_prefix (by decide) (by unfold maxNum; omega) (by unfold maxNum; omega) hp
    rw [show n = m by omega, nbs_apart (by simpa using hl) h1.2 h2.2 hq]

theorem acks_apart {r r' : Int} {L M : List Int} (h : okA r L = true) (h' : okA r' M = true) : byA r L = byA r' M ↔ r = r' ∧ L = M := by
  constructor
  case mpr => rintro ⟨rfl, rfl⟩; rfl
  case mp =>
  intro e
  simp only [okA, Bool.and_eq_true, decide_eq_true_eq] at h h'
  have hp : byA r L <+: byA r' M := by rw [e]; exact List.prefix_refl _
  simp only [byA, List.cons_prefix_cons, true_and] at hp
  obtain ⟨e1, hp⟩ := head_prefix (by decide) (by unfold maxNum; omega) (by unfold maxNum; omega) hp
  obtain ⟨e2, hp⟩ := head_prefix (by decide) (by unfold maxNum; omega) (by unfold maxNum; omega) hp
  exact ⟨by omega, nbs_apart e2 h.2 h'.2 hp⟩

theorem pdu_acks (i d : Int) (s : ByteArray) (r : Int) (L : List Int) : byP i d s ≠ byA r L := by
  intro e
  simp [byP, byA] at e
end Go.Sx
/- Chapter 12: the settings of the runs, without the program. -/
namespace Go.Sx

def err12 : List Nat := [0, 2, 3, 4, 5, 8, 9, 10, 13, 14]
def ints12 (l : List Int) : List DV := l.map fun n => .int .i64 (.lit n)
def gl12 : Glob := { l := (6, [DV.iface 138 (.agg [.ptr ⟨.at_ ⟨17, 46, none⟩, .lit 0⟩])]) :: (1, ints12 [1, 4, 8, 16]) :: (7, ints12 [0, 24, 0, 1, 256, 24, 2, 65536, 25, 4, 4294967296, 26, 8, 281474976710656, 27]) :: err12.map fun i => (i, [DV.iface 277 (.ptr ⟨.av i, .lit 0⟩)]), sep := err12 }

/-- errors.Is at sentinels, errors.As at item's errors, abi.NoEscape, bytealg.IndexByteString. -/
def prim12a (f : FuncId) (ds : List DV) (s : St) : Option (DV × St) :=
  if f == 94 then (match ds with | [d] => some (d, s) | _ => none)
  else if f == 166 then (match ds with | [.str a, .int .u8 b] => some (.int .i64 (mk2 .idx a b), s) | _ => none)
  else if f == 28 then (match ds with
    | [.iface t (.ptr ⟨.av i, .lit 0⟩), .iface u (.ptr ⟨.av j, .lit 0⟩)] => if t == 277 && u == 277 && err12.contains i && err12.contains j then some (.bool (.bl (i == j)), s) else none
    | _ => none)
  else if f == 74 then (match ds with
    | [.iface t (.agg [.int .i64 e]), .iface pt (.ptr ⟨.id i, .lit 0⟩)] => if t == 113 && pt == 161 then (match heapGet s.heap i with
      | some (.cells [_] u (.lit 1)) => if u == 113 then some (.bool (.bl true), { s with heap := (i, .cells [.int .i64 e] 113 (.lit 1)) :: s.heap }) else none
      | _ => none) else none
    | _ => none)
  else none
/-- And head.Encode. -/
def prim12 (f : FuncId) (ds : List DV) (s : St) : Option (DV × St) :=
  if f == 48 then (match ds with
    | [.int .i64 (.lit k), .int .i64 n] => if (k == 0 || k == 2 || k == 3 || k == 4) && decideE s.pc (mk2 .le (.lit 0) n) == some true && decideE s.pc (mk2 .le n (.lit 281474976710655)) == some true then some (.tup [.str (mk2 .headE (.lit k) n), .int .i64 (.lit 0)], s) else none
    | _ => none)
  else prim12a f ds s
end Go.Sx
