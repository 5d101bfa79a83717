/- Operations (IX): iterators, lengths, conversions, append. -/
import Derived.Test.YtcljcgapkojgnaaGreatDoorSi
import Derived.Laws.BytesString
set_option linter.unusedSimpArgs false
set_option linter.unusedVariables false
namespace Go.Sx
open Go.RowKit

section
variable {P : Program} {w0 : Fr} {gl : Glob} {ro : Option Nat} {k : K} {s : St} {a : Act} {w : World} {Q : Env → GS → Out → St → Prop} {B : Backs}

theorem nextD_sound (hs : StR w0 gl ro k s a w) {it : DV} {v : Value} (hi : it.is k v) (ty : TypeId) (h : (nextD s it).sat P Q B k.ρ k.G) :
    OpPost w0 gl ro a Q k ((Instr.next v true ty).run P w) := by
  unfold nextD at h
  split at h
  · rename_i r hi
    obtain ⟨ad, rfl, hr⟩ := is_ptr hi
    split at h
    · rename_i i hb
      split at h
      · rename_i e p ho hit
        obtain ⟨hid, ob, hob, sv, n, rfl, hsv, hn⟩ := hs.heap.obj _ _ hit
        have had : ad = some ⟨k.β i, 0, none⟩ := by
          rw [← hr k (K.le.refl k)]
          simp [Ref.den, hb, Base.den, (litNat_isI (k := k) ho).here, add_plain]
        subst had
        have hlt := isB_lt hn (isI_len hsv)
        obtain ⟨p', hp, hh⟩ := sat_branch hs ⟨_, hlt⟩ h
        rcases hh with ⟨h1, h2⟩ | ⟨h1, h2⟩
        · have hlt' := isB_true hlt h1
          simp only [decide_eq_true_eq] at hlt'
          have hlt' : n < sv.size := by omega
          have hst := (hs.withPc hp).upd ((hs.withPc hp).heap.set (i := i) ⟨_, hit, rfl⟩ (o := .siter e (mk2 .add p (mk2 .rwid e p))) (ob := .stringIter sv (n + (Utf8.decode sv n).2)) ⟨sv, _, rfl, hsv, fun k' g => by
            rw [mk2_ii _ _ _ _ (by simp) (by simp)]; simp only [E.ii]; rw [mk2_ii _ _ _ _ (by simp) (by simp)]; simp only [E.ii, hn k' g, hsv k' g]; simp⟩)
          refine ⟨k, _, _, _, _, ?_, K.le.refl k, hst, mk_tup (DV.iss_cons (mk_bool (isB_lit true)) (DV.iss_cons (mk_int hn) (DV.iss_cons (v := .int .i32 (Utf8.decode sv n).1) (mk_int fun k' g => by rw [mk2_ii _ _ _ _ (by simp) (by simp)]; simp only [E.ii, hn k' g, hsv k' g]; simp) DV.iss_nil))), h2⟩
          simp [Instr.next, run_getObj hob, hlt', run_setObj hob, goInt]
        · have hlt' : ¬ n < sv.size := by
            have := hlt.here
            rw [h1.here] at this
            simp only [false_eq_decide_iff] at this
            omega
          exact (post_of (hs.withPc hp) (mk_tup (DV.iss_cons (mk_bool (isB_lit false)) DV.iss_nil)) h2 (by simp [Instr.next, run_getObj hob, hlt'])).to
      · exact (sat_bad h).elim
    · exact (sat_bad h).elim
  · exact (sat_bad h).elim

theorem lenD_sound (hs : StR w0 gl ro k s a w) {t : TypeId} {ts : Array TypeId} (ht : ts[0]? = some t) (ty : TypeId) {x : DV} {v : Value} (hx : x.is k v) (h : (lenD P s t x).sat P Q B k.ρ k.G) :
    OpPostW w0 gl ro a Q k w ((Builtin.len_ ts ty #[v]).run P w) := by
  unfold lenD at h
  split at h
  · rename_i hu
    split at h
    · rename_i e hx
      obtain ⟨sv, rfl, hsv⟩ := is_str hx
      exact post_of hs (mk_int (isI_len hsv)) h (by simp [Builtin.len_, ht, run_underlying hu, goInt])
    · exact (sat_bad h).elim
  · rename_i e hu
    obtain ⟨p, x', hp, hx', h⟩ := sat_withSlice hs hx h
    have hs := hs.withPc hp
    split at h
    · rename_i r n c
      obtain ⟨ad, ln, cp, rfl, hr, hln, hcp⟩ := is_slice hx'
      split at h
      · rename_i hnn
        refine post_of hs (v := .int .i64 ln) (mk_int fun k' hle => ?_) h (by simp [Builtin.len_, ht, run_underlying hu, goInt])
        have h1 := nonneg_sound hs.pc hnn k' hle
        have h2 := hln k' hle
        omega
      · exact (sat_bad h).elim
    · cases nilslice_is hx'
      exact post_of hs (mk_int (isI_lit 0)) h (by simp [Builtin.len_, ht, run_underlying hu, goInt])
    · exact (sat_bad h).elim
  · rename_i k1 e hu
    split at h
    · rename_i hx
      have : v = .map none := by rw [← hx.here]; rfl
      subst this
      exact post_of hs (mk_int (isI_lit 0)) h (by simp [Builtin.len_, ht, run_underlying hu, goInt])
    · rename_i id hx
      cases is_map hx
      split at h
      · rename_i es hes
        obtain ⟨hid, ob, hob, ents, clock, rfl, hk, hv⟩ := hs.heap.obj _ _ hes
        have hl := hk.length
        simp only [List.length_map, Array.length_toList] at hl
        refine post_of hs (mk_int (isI_lit _)) h ?_
        simp [Builtin.len_, ht, run_underlying hu, run_getObj hob, goInt, hl]
      · exact (sat_bad h).elim
    · exact (sat_bad h).elim
  · exact (sat_bad h).elim

theorem isI_max {e f : E} {b c : Int} (h : e.isI k b) (h' : f.isI k c) : (mk2 .imax e f).isI k (if c > b then c else b) := fun k' g => by rw [mk2_ii _ _ _ _ (by simp) (by simp)]; simp [E.ii, h k' g, h' k' g]
theorem isI_min {e f : E} {b c : Int} (h : e.isI k b) (h' : f.isI k c) : (mk2 .imin e f).isI k (if c < b then c else b) := fun k' g => by rw [mk2_ii _ _ _ _ (by simp) (by simp)]; simp [E.ii, h k' g, h' k' g]

theorem maxFrom_sound {t : IntKind} : ∀ {l : List DV} {vs : List Value} {e e' : E} {n : Int}, e.isI k n → DV.iss k l vs → maxFrom .imax t e l = some e' →
    ∃ m, e'.isI k m ∧ ∀ w, (vs.foldlM Builtin.max2 (.int t n)).run P w = .ok (.int t m) w
  | [], vs, e, e', n, he, hl, h => by
    have := hl.length; simp at this; subst this
    simp only [maxFrom, Option.some.injEq] at h; subst h
    exact ⟨n, he, fun w => rfl⟩
  | d :: l, vs, e, e', n, he, hl, h => by
    obtain ⟨v, vs', rfl, hd, hl'⟩ := DV.iss_cons_inv hl
    cases d <;> simp only [maxFrom] at h <;> try (simp at h; done)
    obtain ⟨m, rfl, hm⟩ := is_int hd
    obtain ⟨m', hm', hrun⟩ := maxFrom_sound (isI_max he hm) hl' h
    exact ⟨m', hm', fun w => by simp only [List.foldlM_cons, Sem.run_bind, Builtin.max2, Sem.run_pure, Result.andThen_ok]; exact hrun w⟩

theorem minFrom_sound {t : IntKind} : ∀ {l : List DV} {vs : List Value} {e e' : E} {n : Int}, e.isI k n → DV.iss k l vs → maxFrom .imin t e l = some e' →
    ∃ m, e'.isI k m ∧ ∀ w, (vs.foldlM Builtin.min2 (.int t n)).run P w = .ok (.int t m) w
  | [], vs, e, e', n, he, hl, h => by
    have := hl.length; simp at this; subst this
    simp only [maxFrom, Option.some.injEq] at h; subst h
    exact ⟨n, he, fun w => rfl⟩
  | d :: l, vs, e, e', n, he, hl, h => by
    obtain ⟨v, vs', rfl, hd, hl'⟩ := DV.iss_cons_inv hl
    cases d <;> simp only [maxFrom] at h <;> try (simp at h; done)
    obtain ⟨m, rfl, hm⟩ := is_int hd
    obtain ⟨m', hm', hrun⟩ := minFrom_sound (isI_min he hm) hl' h
    exact ⟨m', hm', fun w => by simp only [List.foldlM_cons, Sem.run_bind, Builtin.min2, Sem.run_pure, Result.andThen_ok]; exact hrun w⟩

theorem iteMin (m x : Int) (h : m ≤ x) [Decidable (m < x)] : (if m < x then m else x) = m := by
  split <;> omega
theorem redMin_sound {pc : List (E × Bool)} (hpc : PcR k pc) {e : E} {n : Int} (h : e.isI k n) : (redMin pc e).isI k n := by
  unfold redMin
  split
  · rename_i a m
    split
    · rename_i hc
      intro k' g
      have h1 := h k' g
      have h2 := decideE_sound hpc (by simpa using hc) k' g
      rw [mk2_bb] at h2
      simp only [E.bb, E.ii] at h1 h2 ⊢
      exact (iteMin m _ (of_decide_eq_true h2)).symm.trans h1
    · exact h
  · exact h

theorem maxsD_sound (hs : StR w0 gl ro k s a w) (ts : Array TypeId) (ty : TypeId) {l : List DV} {vs : List Value} (hl : DV.iss k l vs) (h : (maxsD s .imax l).sat P Q B k.ρ k.G) :
    OpPostW w0 gl ro a Q k w ((Builtin.max_ ts ty vs.toArray).run P w) := by
  unfold maxsD at h
  split at h
  · rename_i t e l' hl
    obtain ⟨v, vs', rfl, hd, hl'⟩ := DV.iss_cons_inv hl
    obtain ⟨n, rfl, hn⟩ := is_int hd
    split at h
    · rename_i e' he
      obtain ⟨m, hm, hrun⟩ := maxFrom_sound (P := P) hn hl' he
      exact post_of hs (mk_int (redMin_sound hs.pc hm)) h (by simp only [Builtin.max_, List.toArray_cons, hrun])
    · exact (sat_bad h).elim
  · exact (sat_bad h).elim

theorem minsD_sound (hs : StR w0 gl ro k s a w) (ts : Array TypeId) (ty : TypeId) {l : List DV} {vs : List Value} (hl : DV.iss k l vs) (h : (maxsD s .imin l).sat P Q B k.ρ k.G) :
    OpPostW w0 gl ro a Q k w ((Builtin.min_ ts ty vs.toArray).run P w) := by
  unfold maxsD at h
  split at h
  · rename_i t e l' hl
    obtain ⟨v, vs', rfl, hd, hl'⟩ := DV.iss_cons_inv hl
    obtain ⟨n, rfl, hn⟩ := is_int hd
    split at h
    · rename_i e' he
      obtain ⟨m, hm, hrun⟩ := minFrom_sound (P := P) hn hl' he
      exact post_of hs (mk_int (redMin_sound hs.pc hm)) h (by simp only [Builtin.min_]; simpa using hrun w)
    · exact (sat_bad h).elim
  · exact (sat_bad h).elim
end
end Go.Sx
/- Operations (X): conversions, append. -/
namespace Go.Sx
open Go.RowKit

section
variable {P : Program} {w0 : Fr} {gl : Glob} {ro : Option Nat} {k : K} {s : St} {a : Act} {w : World} {Q : Env → GS → Out → St → Prop} {B : Backs}

def pushAll (ρ : Env) (acc : ByteArray) (es : List E) : ByteArray := es.foldl (fun b e => b.push (UInt8.ofNat (e.ii ρ).toNat)) acc

theorem sOf_push (l : List Nat) (n : Nat) : sOf (l ++ [n]) = (sOf l).push (UInt8.ofNat n) := by
  simp [sOf, ByteArray.push]

theorem strStep_ss (ρ : Env) (acc e : E) : (strStep acc e).ss ρ = (acc.ss ρ).push (UInt8.ofNat (e.ii ρ).toNat) := by
  unfold strStep
  split
  · split
    · simp only [E.ss, E.ii, sOf_push]; rfl
    · simp only [E.ss, E.ii]
  · simp only [E.ss]

theorem strOf_ss (ρ : Env) : ∀ (es : List E) (acc : E), (es.foldl strStep acc).ss ρ = pushAll ρ (acc.ss ρ) es
  | [], acc => rfl
  | e :: es, acc => by
    simp only [List.foldl_cons]
    rw [strOf_ss ρ es, strStep_ss]
    rfl

theorem intsOf_sound : ∀ {cs : List DV} {es : List E} {vs : List Value}, DV.iss k cs vs → intsOf cs = some es →
    ∃ ns : List Int, vs = ns.map (Value.int .u8) ∧ es.length = ns.length ∧ ∀ k', k.le k' → es.map (·.ii k'.ρ) = ns := by
  intro cs
  induction cs with
  | nil =>
    intro es vs hv h
    have := hv.length; simp at this; subst this
    simp only [intsOf, Option.some.injEq] at h; subst h
    exact ⟨[], rfl, rfl, fun _ _ => rfl⟩
  | cons c cs ih =>
    intro es vs hv h
    obtain ⟨v, vs', rfl, hd, hv'⟩ := DV.iss_cons_inv hv
    unfold intsOf at h
    split at h
    · rename_i heq; simp at heq
    · rename_i e l heq
      simp only [List.cons.injEq] at heq
      obtain ⟨rfl, rfl⟩ := heq
      simp only [Option.map_eq_some_iff] at h
      obtain ⟨es', he, rfl⟩ := h
      obtain ⟨n, rfl, hn⟩ := is_int hd
      obtain ⟨ns, rfl, hl, hns⟩ := ih hv' he
      exact ⟨n :: ns, rfl, by simp [hl], fun k' hle => by simp [hn k' hle, hns k' hle]⟩
    · simp at h

theorem convD_sound (hs : StR w0 gl ro k s a w) {src dst : TypeId} {x : DV} {v : Value} (hx : x.is k v) (h : (convD P gl s src dst x).sat P Q B k.ρ k.G) :
    OpPostW w0 gl ro a Q k w ((convert src dst v).run P w) := by
  unfold convD at h
  split at h
  · rename_i sd kd t e hx hu hd
    obtain ⟨n, rfl, hn⟩ := is_int hx
    exact post_of hs (mk_int (isI_wrap hn)) h (by simp [convert, run_underlying hu, run_underlying hd, Conv.intToInt])
  · rename_i sd e hx hu hd
    obtain ⟨n, rfl, hn⟩ := is_str hx
    exact post_of hs hx h (by simp [convert, run_underlying hu, run_underlying hd])
  · rename_i e hu hd hneg
    split at h
    · rename_i he
      split at h
      · rename_i hx
        cases nilslice_is hx
        refine post_of hs (v := .string .empty) (mk_str fun k' _ => by simp [E.ss, sOf]; rfl) h ?_
        simp [convert, run_underlying hu, run_underlying hd, run_underlying he, Conv.bytesToString]
      · rename_i r n c hx
        obtain ⟨ad, ln, cp, rfl, hr, hln, hcp⟩ := is_slice hx
        split at h
        · rename_i n' hn'
          split at h
          · rename_i cs hcs
            split at h
            · rename_i es hes
              obtain ⟨b, o, vs, hra, hvs, hlen, hc⟩ := readCells_sound hs hcs
              have : ad = some ⟨b, o, none⟩ := by rw [← hr k (K.le.refl k), hra k (K.le.refl k)]
              subst this
              have hlnn : ln = n' := by rw [← hln k (K.le.refl k), (litNat_isI (k := k) hn').here]; simp
              subst hlnn
              obtain ⟨ns, rfl, hl, hns⟩ := intsOf_sound hvs hes
              have hload := run_loadCells (P := P) (ad := ⟨b, o, none⟩) rfl hlen hc
              refine post_of hs (v := .string (ns.foldl (fun r n => r.push (UInt8.ofNat n.toNat)) ByteArray.empty)) (mk_str fun k' hle => ?_) h ?_
              · unfold strOf
                rw [strOf_ss, ← hns k' hle, List.foldl_map]
                rfl
              · simp [convert, run_underlying hu, run_underlying hd, run_underlying he, run_bytesToString (P := P) w _ _ cp ns hload]
            · exact (sat_bad h).elim
          · exact (sat_bad h).elim
        · exact (sat_bad h).elim
      · exact (sat_bad h).elim
    · exact (sat_bad h).elim
  · rename_i hx hu hd
    cases nilptr_is hx
    exact post_of hs hx h (by simp [convert, run_underlying hu, run_underlying hd, Conv.unsafePointer])
  · rename_i hx hu hd
    cases nilptr_is hx
    exact post_of hs hx h (by simp [convert, run_underlying hu, run_underlying hd, Conv.unsafePointer])
  · rename_i t r hx hu hd
    obtain ⟨ad, rfl, hr⟩ := is_ptr hx
    split at h
    · rename_i i off hb ho
      split at h
      · rename_i cs e m hc
        split at h
        · rename_i n hn
          split at h
          · rename_i hcond
            simp only [Bool.and_eq_true, bne_iff_ne, decide_eq_true_eq, Option.isSome_iff_exists] at hcond
            obtain ⟨⟨hne, hlt⟩, hinfo⟩ := hcond
            obtain ⟨hi, ob, hob, vs, rfl, hle, hvs, hm, hone⟩ := hs.heap.obj _ _ hc
            have had : ad = some ⟨k.β i, off, none⟩ := by
              rw [← hr k (K.le.refl k)]
              simp [Ref.den, hb, Base.den, (litNat_isI (k := k) ho).here, add_plain]
            subst had
            have hn' : n = vs.length := by
              have h1 := (litNat_isI (k := k) hn).here
              rw [hm.here] at h1
              omega
            have hsh : w.shape? (k.β i) = some (e, vs.length) := by simp [World.shape?, hob]
            have hge : ¬ vs.length ≤ off := by omega
            exact post_of hs hx h (by simp [convert, run_underlying hu, run_underlying hd, Conv.unsafePointer, Conv.seenAt, viewAt, cellsIn, hsh, run_sizeOf hinfo, hne, hge])
          · exact (sat_bad h).elim
        · exact (sat_bad h).elim
      · exact (sat_bad h).elim
    · exact (sat_bad h).elim
  · rename_i u r hx hu hd
    obtain ⟨ad, rfl, hr⟩ := is_ptr hx
    split at h
    · rename_i i off hb ho
      split at h
      · rename_i cs e m hc
        split at h
        · rename_i n hn
          split at h
          · rename_i hcond
            simp only [Bool.and_eq_true, bne_iff_ne, Option.isSome_iff_exists] at hcond
            obtain ⟨⟨hne, hinfo⟩, hlies⟩ := hcond
            obtain ⟨hi, ob, hob, vs, rfl, hle, hvs, hm, hone⟩ := hs.heap.obj _ _ hc
            have had : ad = some ⟨k.β i, off, none⟩ := by
              rw [← hr k (K.le.refl k)]
              simp [Ref.den, hb, Base.den, (litNat_isI (k := k) ho).here, add_plain]
            subst had
            have hn' : n = vs.length := by
              have h1 := (litNat_isI (k := k) hn).here
              rw [hm.here] at h1
              omega
            subst hn'
            have hsh : w.shape? (k.β i) = some (e, vs.length) := by simp [World.shape?, hob]
            exact post_of hs hx h (by simp [convert, run_underlying hu, run_underlying hd, Conv.unsafePointer, Conv.seenAt, viewAt, variablesAt, hsh, run_sizeOf hinfo, hne, hlies])
          · exact (sat_bad h).elim
        · exact (sat_bad h).elim
      · exact (sat_bad h).elim
    · exact (sat_bad h).elim
  · exact (sat_bad h).elim

/-- A stage with one number and one block more. -/
def K.grown (k : K) (g : Nat) (c : Int) : K := { (k.grow g) with ρ := { k.ρ with i := k.ρ.i ++ [c] } }

theorem appOld_spec {e : TypeId} {esz : Nat} {x : DV} {i : Option Id} {old : List DV} {n : Nat} (h : appOld s e esz x = some (i, old, n)) :
    (x = .nilslice ∧ i = none ∧ old = [] ∧ n = 0) ∨ ∃ id off ne c cs m, x = .slice ⟨.id id, off⟩ ne c ∧ i = some id ∧ litNat off = some 0 ∧ litNat ne = some n ∧ heapGet s.heap id = some (.cells cs e m) ∧
      n * esz ≤ cs.length ∧ old = cs.take (n * esz) ∧ m = mk2 .mul c (.lit esz) ∧ decideE s.pc (mk2 .le (.lit n) c) = some true ∧ decideE s.pc (mk2 .le c maxLenE) = some true := by
  unfold appOld at h
  split at h
  · simp only [Option.some.injEq, Prod.mk.injEq] at h
    obtain ⟨rfl, rfl, rfl⟩ := h
    exact .inl ⟨rfl, rfl, rfl, rfl⟩
  · rename_i id off ne c
    split at h
    · rename_i n' cs e' m ho hn hg
      split at h
      · rename_i hc
        simp only [Bool.and_eq_true, beq_iff_eq, decide_eq_true_eq] at hc
        obtain ⟨⟨⟨⟨rfl, hle⟩, hm⟩, h1⟩, h2⟩ := hc
        simp only [Option.some.injEq, Prod.mk.injEq] at h
        obtain ⟨rfl, rfl, rfl⟩ := h
        exact .inr ⟨id, off, ne, c, cs, m, rfl, rfl, ho, hn, hg, hle, rfl, E.beq_eq hm, h1, h2⟩
      · simp at h
    · simp at h
  · simp at h
end
end Go.Sx
/- Operations (XI): append. -/
namespace Go.Sx
open Go.RowKit

section
variable {P : Program} {w0 : Fr} {gl : Glob} {ro : Option Nat} {k : K} {s : St} {a : Act} {w w' : World} {Q : Env → GS → Out → St → Prop} {B : Backs}

/-- A state with more variables. -/
theorem StR.ext (hs : StR w0 gl ro k s a w) {x : Ext} {c' : Ctr} (hf : Fits x s.ct c') : StR w0 gl ro (k.app x k.G) { s with ct := c' } a w := by
  have hle : k.le (k.app x k.G) := K.le_app k x (fun _ _ h => h)
  have hlate : HeapR w0 (k.app x k.G) s.heap w :=
    hs.heap.later (fun _ _ h => h) (fun b o hb => (hs.heap.g b o hb).1) (fun b o hb => .inl hb) ⟨rfl, rfl, rfl, Nat.le_refl _, fun _ _ => rfl⟩
  exact ⟨hs.nx, hf.ctR hs.ct k.G, hs.pc.mono hle, hs.env.mono hle, hlate, hs.gl.mono hle, hs.marks, hs.marksLt, hs.rnd, hs.rndLt, hs.memo.mono hle⟩

/-- A state with one block more. -/
theorem StR.add (hs : StR w0 gl ro k s a w) {g : Nat} {heap' : List (Id × DO)} (hh : HeapR w0 (k.grow g) heap' w') :
    StR w0 gl ro (k.grow g) { s with heap := heap', nx := s.nx + 1 } a w' := by
  have hle := K.le_grow k g
  refine ⟨?_, hs.ct.grow _, hs.pc.mono hle, hs.env.mono hle, hh, hs.gl.mono hle, ?_, ?_, ?_, ?_, ?_⟩
  · simp [K.grow, hs.nx]
  · rw [hs.marks]
    refine List.map_congr_left fun i hi => ?_
    simp [markOf, hle.β i (hs.marksLt i hi)]
  · exact fun i hi => Nat.lt_of_lt_of_le (hs.marksLt i hi) hle.nx
  · rw [hs.rnd]
    cases hr : s.rnd with
    | none => rfl
    | some i => simp [hle.β i (hs.rndLt i hr)]
  · exact fun i hi => Nat.lt_of_lt_of_le (hs.rndLt i hi) hle.nx
  · exact hs.memo.mono hle

/-- The block that append comes to. -/
theorem app_post (hs : StR w0 gl ro k s a w) {e : TypeId} {esz n m cp g : Nat} {old new : List DV} {ovs nvs : List Value} (hov : DV.iss k old ovs) (hnv : DV.iss k new nvs)
    (hone : ∀ v ∈ ovs ++ nvs, v.oneCell' = true) {row : List Value} {i : Option Id} (hrow : row.take (ovs ++ nvs).length = ovs ++ nvs) (hrl : row.length = cp * esz)
    (hlen : (ovs ++ nvs).length = (n + m) * esz) (hcp : n + m ≤ cp) (hmax : cp ≤ 9223372036854775807)
    (hw : w'.heap[g]? = some (.cells row.toArray e (0, 0))) (hg0 : w0.heap.size ≤ g)
    (hgn : ∀ j, Live (killO s.heap i) j → k.β j ≠ g) (hgG : ∀ o, k.G g ≠ some o) (hgE : ∀ o, w0.ex g ≠ some o) (hsz : w.heap.size ≤ w'.heap.size)
    (h2 : ∀ b, b < w.heap.size → b ≠ g → w'.heap[b]? = w.heap[b]?) (h4 : w'.os = w.os) (h5 : w'.tape = w.tape) (h6 : w'.output = w.output) (hi : ∀ j, i = some j → j < k.nx)
    (h : (retv { s with
              ct := { s.ct with i := s.ct.i + 1 }
              pc := (mk2 .le (.lit ((n + m : Nat) : Int)) (.iv s.ct.i), true) :: (mk2 .le (.iv s.ct.i) maxLenE, true) :: s.pc
              heap := (s.nx, .cells (old ++ new) e (mk2 .mul (.iv s.ct.i) (.lit esz))) :: killO s.heap i
              nx := s.nx + 1 }
            (.slice ⟨.id s.nx, .lit 0⟩ (.lit ((n + m : Nat) : Int)) (.iv s.ct.i))).sat P Q B (k.ρ.app { i := [(cp : Int)] }) k.G) :
    OpPost w0 gl ro a Q k (.ok (.slice (some ⟨g, 0, none⟩) (n + m) cp) w') := by
  have hfit : Fits { i := [(cp : Int)] } s.ct { s.ct with i := s.ct.i + 1 } := ⟨rfl, rfl, rfl, rfl, by simp⟩
  have hle1 : k.le (k.app { i := [(cp : Int)] } k.G) := K.le_app k _ (fun _ _ h => h)
  have hs1 := hs.ext hfit
  generalize hk1 : k.app { i := [(cp : Int)] } k.G = k1 at hs1 hle1
  have hβ : k1.β = k.β := by rw [← hk1]; rfl
  have hnx : k1.nx = k.nx := by rw [← hk1]; rfl
  have hG : k1.G = k.G := by rw [← hk1]; rfl
  have hci : (E.iv s.ct.i).isI k1 cp := by
    intro k' hle
    have hp := hle.ρ.i
    simp only [E.ii]
    rw [getD_prefix hp (by rw [← hk1]; simp [K.app, Env.app, hs.ct.i])]
    rw [← hk1]
    simp [K.app, Env.app, List.getD_eq_getElem?_getD, ← hs.ct.i]
  have hheap : HeapR w0 k1 (killO s.heap i) w := by
    cases i with
    | none => exact hs1.heap
    | some j => exact hs1.heap.kill (by rw [hnx]; exact hi j rfl)
  have hle2 := K.le_grow k1 g
  have hol := hov.length
  have hnl := hnv.length
  have hadd := hheap.add (w' := w') (o := .cells (old ++ new) e (mk2 .mul (.iv s.ct.i) (.lit esz))) (ob := .cells row.toArray e (0, 0)) (g := g)
    ⟨row, rfl, by simp at hlen ⊢; rw [hrl, ← hol, ← hnl, hlen]; exact Nat.mul_le_mul_right _ hcp, by
      have hl' : (old ++ new).length = (ovs ++ nvs).length := by simp [hol, hnl]
      rw [hl', hrow]; exact DV.iss_append (hov.mono (hle1.trans hle2)) (hnv.mono (hle1.trans hle2)), by
      rw [hrl, Int.natCast_mul]; exact isI_mul (hci.mono hle2) (isI_lit _), by
      have hl' : (old ++ new).length = (ovs ++ nvs).length := by simp [hol, hnl]
      rw [hl', hrow]; exact hone⟩ hw hg0 (by rw [hβ]; exact hgn) (by rw [hG]; exact hgG) hgE hsz h2 h4 h5 h6
  have hs2 := hs1.add hadd
  have hnx1 : k1.nx = s.nx := by rw [hnx, hs.nx]
  rw [hnx1] at hs2
  have hpc : PcR (k1.grow g) ((mk2 .le (.lit ((n + m : Nat) : Int)) (.iv s.ct.i), true) :: (mk2 .le (.iv s.ct.i) maxLenE, true) :: s.pc) := by
    refine PcR.cons (PcR.cons hs2.pc ?_) ?_
    · have := isB_le (hci.mono hle2) (isI_lit (k := k1.grow g) 9223372036854775807)
      rw [decide_eq_true (by omega)] at this; exact this
    · have := isB_le (isI_lit (k := k1.grow g) ((n + m : Nat) : Int)) (hci.mono hle2)
      rw [decide_eq_true (by omega)] at this; exact this
  refine ⟨k1.grow g, _, .slice ⟨.id s.nx, .lit 0⟩ (.lit ((n + m : Nat) : Int)) (.iv s.ct.i), _, w', rfl, hle1.trans hle2, hs2.withPc hpc, ?_, ?_⟩
  · intro k' hle
    have := is_new k1 g k' hle
    rw [hnx1] at this
    have e1 : k'.ρ.i.getD s.ct.i 0 = (cp : Int) := hci k' (hle2.trans hle)
    simp only [DV.den, this, E.ii, e1, Int.toNat_natCast]
  · rw [← hk1]; exact h

theorem arr_app (l : List Value) (z : Array Value) : l.toArray ++ z = (l ++ z.toList).toArray := by apply Array.ext'; simp
theorem arr_app2 (l m : List Value) (z : Array Value) : l.toArray ++ m.toArray ++ z = (l ++ m ++ z.toList).toArray := by apply Array.ext'; simp

theorem appendD_sound (hs : StR w0 gl ro k s a w) {t ty : TypeId} {x y : DV} {xv yv : Value} (hx : x.is k xv) (hy : y.is k yv) (h : (appendD P gl s t x y).sat P Q B k.ρ k.G) :
    OpPost w0 gl ro a Q k ((Builtin.append_ #[t, t] ty #[xv, yv]).run P w) := by
  unfold appendD at h
  split at h
  · exact (sat_bad h).elim
  rename_i e he
  have hu := elemT_spec he
  simp only at h
  split at h
  · rename_i z r m c hz
    obtain ⟨i, zv, hi, hzv, _, hzl, hzn⟩ := zeroD_spec hz
    have hcell : P.cellsOf e = i.size := cellsOf_info hi
    split at h
    · exact (sat_bad h).elim
    rename_i hc0
    simp only [Bool.or_eq_true, bne_iff_ne, ne_eq, beq_iff_eq, decide_eq_true_eq, not_or, Decidable.not_not, Nat.not_lt] at hc0
    obtain ⟨⟨hzs, hne⟩, hby⟩ := hc0
    split at h
    · rename_i m' hm'
      split at h
      · rename_i new oi old n hnew hold
        split at h
        · exact (sat_bad h).elim
        rename_i hc1
        simp only [Bool.or_eq_true, Bool.not_eq_true', decide_eq_true_eq, not_or, Bool.not_eq_false, Nat.not_lt] at hc1
        obtain ⟨hone, hsmall⟩ := hc1
        obtain ⟨yad, yl, yc, rfl, hyr, hyl, hyc⟩ := is_slice hy
        obtain ⟨b, o, nvs, hra, hnv, hnl, hnc⟩ := readCells_sound hs hnew
        have : yad = some ⟨b, o, none⟩ := by rw [← hyr k (K.le.refl k), hra k (K.le.refl k)]
        subst this
        have hylm : yl = m' + 1 := by rw [← hyl k (K.le.refl k), (litNat_isI (k := k) hm').here]; simp
        subst hylm
        have hnone := allOne_one hs.ct.one hone hnv
        have hnl' : nvs.length = (m' + 1) * i.size := by rw [hnl, hcell]
        have hnews : ∀ j v, nvs[j]? = some v → w.cell? ((⟨b, o, none⟩ : Addr).add j) = some v := fun j v hj => by rw [add_plain]; exact hnc j v hj
        have hbytes : i.bytes ≤ 65536 := by have : P.bytesOf e = i.bytes := by simp [Program.bytesOf, hi]
                                            omega
        have hbb : (n + (m' + 1)) * i.bytes ≤ 140737488355328 := by
          have : (n + (m' + 1)) * i.bytes ≤ 2000000 * 65536 := Nat.mul_le_mul (by omega) hbytes
          omega
        have hzz : zv.cells.size = i.size := by omega
        simp only [Tr.sat, retv] at h
        have hq : ∀ cp : Nat, n + (m' + 1) ≤ cp → cp ≤ 9223372036854775807 → _ := fun cp h1 h2 => h { i := [(cp : Int)] } ⟨rfl, rfl, rfl, rfl, by simp⟩ (by
          have e0 : (k.ρ.app { i := [(cp : Int)] }).i.getD s.ct.i 0 = cp := by simp [Env.app, List.getD_eq_getElem?_getD, ← hs.ct.i]
          simp only [mk2_bb, E.bb, E.ii, e0, maxLenE, Bool.and_eq_true, decide_eq_true_eq]
          omega)
        rcases appOld_spec hold with ⟨rfl, rfl, rfl, rfl⟩ | ⟨id, off, ne, cE, cs, mE, rfl, rfl, ho, hn, hg, hfit, rfl, rfl, hd1, hd2⟩
        · cases nilslice_is hx
          have hrun := run_append_nil (P := P) w t ty e i zv hu hi hzv ⟨b, o, none⟩ (m' + 1) yc nvs hnl' hnews (by omega) (by omega) (by simp only [Nat.zero_add] at hbb; omega)
          rw [hrun, arr_app]
          have hge := grownCap_ge w (m' + 1) 0 e
          have hmx := grownCap_le_maxLen w (m' + 1) 0 e (by simp only [maxLen]; omega)
          simp only [maxLen] at hmx
          have hzl := size_zeroCells zv.cells (grownCap w (m' + 1) 0 e - (m' + 1))
          generalize Builtin.zeroCells zv.cells (grownCap w (m' + 1) 0 e - (m' + 1)) = zc at hzl
          generalize grownCap w (m' + 1) 0 e = cap at hge hmx hzl
          have hrl : (nvs ++ zc.toList).length = cap * P.cellsOf e := by
            simp only [List.length_append, Array.length_toList, hzl, hnl', hzz, hcell, ← Nat.add_mul]
            congr 1; omega
          have := app_post (k := k) (w' := w.drew.alloc (.cells (nvs ++ zc.toList).toArray e)) (esz := P.cellsOf e) (n := 0) (m := m' + 1) (old := []) (ovs := []) (i := none) (g := w.heap.size) (e := e)
            (row := nvs ++ zc.toList) (Q := Q) (P := P) (B := B)
            hs DV.iss_nil hnv (by simpa using hnone) (by simp) hrl (by simp [hnl]) (by omega) hmx (heap_alloc_new w.drew (.cells (nvs ++ zc.toList).toArray e)) (hs.heap.frame.size)
            (fun j hj e => by obtain ⟨p, hp, _⟩ := hj; have := hs.heap.lt j (hs.heap.obj j p hp).1; omega)
            (fun o hG => by have := (Array.getElem?_eq_some_iff.1 (hs.heap.g _ _ hG).1).1; omega)
            (fun o hE => by have := (Array.getElem?_eq_some_iff.1 (hs.heap.ex _ _ hE).1).1; omega)
            (by simp only [World.size_alloc, World.size_drew]; omega) (fun b hb _ => heap_alloc_old w.drew _ b hb) rfl rfl rfl (by simp)
            (hq _ (by omega) (by omega))
          simpa only [Nat.zero_add] using this
        · obtain ⟨xad, ln, cp, rfl, hxr, hln, hcp⟩ := is_slice hx
          obtain ⟨hid, ob, hob, vs, rfl, hvl, hvs, hmI, hvo⟩ := hs.heap.obj _ _ hg
          have had : xad = some ⟨k.β id, 0, none⟩ := by
            rw [← hxr k (K.le.refl k)]
            simp [Ref.den, Base.den, (litNat_isI (k := k) ho).here, add_plain]
          subst had
          have hlnn : ln = n := by rw [← hln k (K.le.refl k), (litNat_isI (k := k) hn).here]; simp
          subst hlnn
          have hc1 : (ln : Int) ≤ cE.ii k.ρ := by
            have := (decideE_sound hs.pc hd1).here
            rw [mk2_bb] at this
            simp only [E.bb, E.ii] at this
            exact of_decide_eq_true this
          have hc2 : cE.ii k.ρ ≤ 9223372036854775807 := by
            have := (decideE_sound hs.pc hd2).here
            rw [mk2_bb] at this
            simp only [E.bb, E.ii, maxLenE] at this
            exact of_decide_eq_true this
          have hcpk := hcp k (K.le.refl k)
          have hcpi : cE.ii k.ρ = (cp : Int) := by omega
          have hvlen : vs.length = cp * P.cellsOf e := by
            have := hmI.here
            rw [mk2_ii _ _ _ _ (by simp) (by simp)] at this
            simp only [E.ii, hcpi] at this
            exact_mod_cast this.symm
          have hovs : DV.iss k (cs.take (ln * P.cellsOf e)) (vs.take (ln * P.cellsOf e)) := by
            have := DV.iss_take hvs (ln * P.cellsOf e)
            rwa [List.take_take, Nat.min_eq_left hfit] at this
          have hol : (vs.take (ln * P.cellsOf e)).length = ln * P.cellsOf e := by simp; omega
          have hoone : ∀ v ∈ vs.take (ln * P.cellsOf e), v.oneCell' = true := fun v hv => by
            refine hvo v ?_
            have : vs.take (ln * P.cellsOf e) = (vs.take cs.length).take (ln * P.cellsOf e) := by rw [List.take_take, Nat.min_eq_left hfit]
            rw [this] at hv
            exact List.mem_of_mem_take hv
          have hone2 : ∀ v ∈ vs.take (ln * P.cellsOf e) ++ nvs, v.oneCell' = true := fun v hv => by
            rcases List.mem_append.1 hv with hv | hv
            · exact hoone v hv
            · exact hnone v hv
          have hlen2 : (vs.take (ln * P.cellsOf e) ++ nvs).length = (ln + (m' + 1)) * P.cellsOf e := by
            rw [List.length_append, hol, hnl, ← Nat.add_mul]
          have hkill : ∀ j, Live ((id, DO.dead) :: s.heap) j → j ≠ id ∧ Live s.heap j := fun j hj => by
            by_cases hij : id = j
            · subst hij
              obtain ⟨p, hp, hl⟩ := hj
              rw [look_cons', if_pos rfl] at hp
              cases hp; simp [DO.live] at hl
            · exact ⟨fun e => hij e.symm, hj.tail hij⟩
          by_cases hroom : ln + (m' + 1) ≤ cp
          · have hrun := run_append_room (P := P) w t ty e i hu hi (k.β id) ln cp vs.toArray hob ⟨b, o, none⟩ (m' + 1) yc nvs hnl' hnews hnone hroom (by
              rw [hnl', ← Nat.add_mul, ← hcell]; simp only [List.size_toArray, hvlen]; exact Nat.mul_le_mul_right _ hroom)
            rw [hrun]
            have hdl : ln * i.size + nvs.length ≤ vs.length := by rw [hnl', ← Nat.add_mul, ← hcell, hvlen]; exact Nat.mul_le_mul_right _ hroom
            refine app_post (k := k) (esz := P.cellsOf e) (n := ln) (m := m' + 1) (i := some id) (e := e) (ovs := vs.take (ln * P.cellsOf e)) (nvs := nvs) (Q := Q) (P := P) (B := B)
              (row := vs.take (ln * i.size) ++ nvs ++ vs.drop (ln * i.size + nvs.length))
              hs hovs hnv hone2 ?_ ?_ hlen2 hroom (by omega) (setRow_heap w _ _ _ _ _ hob) (hs.heap.own _ hid) ?_ ?_ ?_ (by simp [World.setRow]) (fun b _ hb => setRow_other w _ _ _ hb) rfl rfl rfl (by simp [hid]) (hq _ (by omega) (by omega))
            · rw [hcell]; exact List.take_left
            · rw [← hvlen]
              simp only [List.length_append, List.length_take, List.length_drop]
              omega
            · intro j hj
              obtain ⟨h1, h2⟩ := hkill j hj
              exact fun e => h1 (hs.heap.inj j id h2 ⟨_, hg, rfl⟩ e)
            · intro o hG
              exact (hs.heap.g _ _ hG).2 id ⟨_, hg, rfl⟩ rfl
            · intro o hE
              exact (hs.heap.ex _ _ hE).2.1 id ⟨_, hg, rfl⟩ rfl
          · have hrun := run_append_grow (P := P) w t ty e i zv hu hi hzv ⟨k.β id, 0, none⟩ ln cp (vs.take (ln * P.cellsOf e)) (by rw [hol, hcell]) (fun j v hj => by
                rw [add_plain, Nat.zero_add, cell?_cells hob]
                rw [List.getElem?_take] at hj
                split at hj
                · simpa using hj
                · simp at hj) ⟨b, o, none⟩ (m' + 1) yc nvs hnl' hnews (by omega) (by omega) (growslice_fits (by omega) hbb)
            rw [hrun, arr_app2]
            have hge := grownCap_ge w (ln + (m' + 1)) cp e
            have hmx := grownCap_le_maxLen w (ln + (m' + 1)) cp e (by simp only [maxLen]; omega)
            simp only [maxLen] at hmx
            have hzl := size_zeroCells zv.cells (grownCap w (ln + (m' + 1)) cp e - (ln + (m' + 1)))
            generalize Builtin.zeroCells zv.cells (grownCap w (ln + (m' + 1)) cp e - (ln + (m' + 1))) = zc at hzl
            generalize grownCap w (ln + (m' + 1)) cp e = cap at hge hmx hzl
            refine app_post (k := k) (esz := P.cellsOf e) (n := ln) (m := m' + 1) (i := some id) (e := e) (ovs := vs.take (ln * P.cellsOf e)) (nvs := nvs) (Q := Q) (P := P) (B := B)
              (row := vs.take (ln * P.cellsOf e) ++ nvs ++ zc.toList)
              hs hovs hnv hone2 List.take_left ?_ hlen2 hge hmx (heap_alloc_new w.drew _) hs.heap.frame.size ?_ ?_ ?_ (by simp only [World.size_alloc, World.size_drew]; omega) (fun b hb _ => heap_alloc_old w.drew _ b hb) rfl rfl rfl (by simp [hid]) (hq _ hge hmx)
            · rw [List.length_append, hlen2, Array.length_toList, hzl, hzz, ← hcell, ← Nat.add_mul]
              congr 1; omega
            · intro j hj
              obtain ⟨h1, p, hp, _⟩ := hkill j hj
              have := hs.heap.lt j (hs.heap.obj j p hp).1
              intro e
              have e : k.β j = w.heap.size := e
              omega
            · intro o hG
              have := (Array.getElem?_eq_some_iff.1 (hs.heap.g _ _ hG).1).1
              have h' : w.drew.heap.size < w.heap.size := this
              simp only [World.size_drew] at h'
              omega
            · intro o hE
              have := (Array.getElem?_eq_some_iff.1 (hs.heap.ex _ _ hE).1).1
              have h' : w.drew.heap.size < w.heap.size := this
              simp only [World.size_drew] at h'
              omega
      · exact (sat_bad h).elim
    · rename_i hm0
      split at h
      · cases nilslice_is hx
        obtain ⟨yad, yl, yc, rfl, hyr, hyl, hyc⟩ := is_slice hy
        have hyl0 : yl = 0 := by
          have e1 := hyl k (K.le.refl k)
          rw [(litNat_isI (k := k) hm0).here] at e1
          omega
        subst hyl0
        have hf : (Builtin.firstCells i.size 0 (.slice yad 0 yc)).run P w = .ok #[] w := by
          cases yad with
          | none => rfl
          | some a => simp [Builtin.firstCells, loadCells, loadCellsFrom]
        have hrun : (Builtin.append_ #[t, t] ty #[.slice none 0 0, .slice yad 0 yc]).run P w = .ok (.slice none 0 0) w := by
          simp [Builtin.append_, run_underlying hu, sizeOf, typeInfo, hi, Builtin.lenOf, hf]
        exact (post_of hs hx h hrun).to
      · exact (sat_bad h).elim
    · exact (sat_bad h).elim
  · exact (sat_bad h).elim
end
end Go.Sx
