/- Operations: rows of bytes; strings made of them. -/
import Derived.Test.YtcljcgapkojgnaaGreatDoorSj
import Derived.Lib.AppendStr
import Derived.Lib.UnsafeStr
set_option linter.unusedSimpArgs false
set_option linter.unusedVariables false
namespace Go.Sx
open Go.RowKit

section
variable {P : Program} {w0 : Fr} {gl : Glob} {ro : Option Nat} {k : K} {s : St} {a : Act} {w w' : World} {Q : Env → GS → Out → St → Prop} {B : Backs}

/-- Bytes of a block that the store tells of no more are frozen. -/
theorem HeapR.freeze {heap : List (Id × DO)} (h : HeapR w0 k heap w) {i : Id} (hi : i < k.nx ∧ look i heap = some .dead) (hne : (∀ j, Live heap j → k.β j ≠ k.β i) ∧ (∀ o, k.G (k.β i) ≠ some o) ∧ (∀ o, w0.ex (k.β i) ≠ some o)) (n : Nat) : HeapR w0 k heap (w.freeze ⟨k.β i, 0, none⟩ n) := by
  have hsz : (w.freeze ⟨k.β i, 0, none⟩ n).heap.size = w.heap.size := by
    unfold World.freeze; split <;> simp
  have hold : ∀ b, b ≠ k.β i → (w.freeze ⟨k.β i, 0, none⟩ n).heap[b]? = w.heap[b]? := fun b hb => by
    unfold World.freeze
    split
    · rfl
    · simp only [Array.getElem?_modify]; rw [if_neg (fun e => hb e.symm)]
  refine ⟨fun j o hl => ?_, h.inj, fun j hj => by rw [hsz]; exact h.lt j hj, h.own, fun b o hb => ⟨?_, (h.g b o hb).2⟩, fun b o hb => ⟨?_, (h.ex b o hb).2⟩, ?_⟩
  · obtain ⟨hj, ob, hob, ho⟩ := h.obj j o hl
    by_cases hd : o.live = true
    · exact ⟨hj, ob, by rw [hold _ (hne.1 j ⟨o, hl, hd⟩)]; exact hob, ho⟩
    · have : o = .dead := by cases o <;> simp [DO.live] at hd ⊢
      subst this
      have hlt : k.β j < (w.freeze ⟨k.β i, 0, none⟩ n).heap.size := by rw [hsz]; exact h.lt j hj
      exact ⟨hj, (w.freeze ⟨k.β i, 0, none⟩ n).heap[k.β j], by simp [hlt], trivial⟩
  · rw [hold b (fun e => by subst e; exact hne.2.1 o hb)]; exact (h.g b o hb).1
  · rw [hold b (fun e => by subst e; exact hne.2.2 o hb)]; exact (h.ex b o hb).1
  · exact Lib.below_freeze h.frame (h.own i hi.1) n

theorem strCells_app (x y : ByteArray) : Lib.strCells (x ++ y) = Lib.strCells x ++ Lib.strCells y := by
  simp [Lib.strCells, ByteArray.data_append]

/-- The block that append of a string comes to. -/
theorem appStr_post (hs : StR w0 gl ro k s a w) {e : E} {el : TypeId} {sv : ByteArray} {cp g : Nat} (hsv : e.isS k sv) {row : List Value} {i : Option Id}
    (hrow : row.take sv.size = Lib.strCells sv) (hrl : row.length = cp) (hcp : sv.size ≤ cp) (hmax : cp ≤ 9223372036854775807) (hc0 : cp ≠ 0)
    (hw : w'.heap[g]? = some (.cells row.toArray el (0, 0))) (hg0 : w0.heap.size ≤ g)
    (hgn : ∀ j, Live (killO s.heap i) j → k.β j ≠ g) (hgG : ∀ o, k.G g ≠ some o) (hgE : ∀ o, w0.ex g ≠ some o) (hsz : w.heap.size ≤ w'.heap.size)
    (h2 : ∀ b, b < w.heap.size → b ≠ g → w'.heap[b]? = w.heap[b]?) (h4 : w'.os = w.os) (h5 : w'.tape = w.tape) (h6 : w'.output = w.output) (hi : ∀ j, i = some j → j < k.nx)
    (h : (retv { s with
      ct := { s.ct with i := s.ct.i + 1 }
      pc := (mk2 .le (mk1 .len e) (.iv s.ct.i), true) :: (mk2 .le (.iv s.ct.i) maxLenE, true) :: (mk2 .le (.lit 1) (.iv s.ct.i), true) :: s.pc
      heap := (s.nx, .bytes e el (.iv s.ct.i)) :: killO s.heap i
      nx := s.nx + 1 } (.slice ⟨.id s.nx, .lit 0⟩ (mk1 .len e) (.iv s.ct.i))).sat P Q B (k.ρ.app { i := [(cp : Int)] }) k.G) :
    OpPost w0 gl ro a Q k (.ok (.slice (some ⟨g, 0, none⟩) sv.size cp) w') := by
  have hfit : Fits { i := [(cp : Int)] } s.ct { s.ct with i := s.ct.i + 1 } := ⟨rfl, rfl, rfl, rfl, by simp⟩
  have hle1 : k.le (k.app { i := [(cp : Int)] } k.G) := K.le_app k _ (fun _ _ h => h)
  have hs1 := hs.ext hfit
  generalize hk1 : k.app { i := [(cp : Int)] } k.G = k1 at hs1 hle1
  have hβ : k1.β = k.β := by rw [← hk1]; rfl
  have hnx : k1.nx = k.nx := by rw [← hk1]; rfl
  have hG : k1.G = k.G := by rw [← hk1]; rfl
  have hci : (E.iv s.ct.i).isI k1 cp := by
    intro k' hle
    have hp := hle.ρ.i
    simp only [E.ii]
    rw [getD_prefix hp (by rw [← hk1]; simp [K.app, Env.app, hs.ct.i])]
    rw [← hk1]
    simp [K.app, Env.app, List.getD_eq_getElem?_getD, ← hs.ct.i]
  have hheap : HeapR w0 k1 (killO s.heap i) w := by
    cases i with
    | none => exact hs1.heap
    | some j => exact hs1.heap.kill (by rw [hnx]; exact hi j rfl)
  have hle2 := K.le_grow k1 g
  have hadd := hheap.add (w' := w') (o := .bytes e el (.iv s.ct.i)) (ob := .cells row.toArray el (0, 0)) (g := g)
    ⟨row, sv, rfl, hsv.mono (hle1.trans hle2), by omega, by rw [hrl]; exact hci.mono hle2, hrow⟩ hw hg0 (by rw [hβ]; exact hgn) (by rw [hG]; exact hgG) hgE hsz h2 h4 h5 h6
  have hs2 := hs1.add hadd
  have hnx1 : k1.nx = s.nx := by rw [hnx, hs.nx]
  rw [hnx1] at hs2
  have hpc : PcR (k1.grow g) ((mk2 .le (mk1 .len e) (.iv s.ct.i), true) :: (mk2 .le (.iv s.ct.i) maxLenE, true) :: (mk2 .le (.lit 1) (.iv s.ct.i), true) :: s.pc) := by
    refine PcR.cons (PcR.cons (PcR.cons hs2.pc ?_) ?_) ?_
    · have := isB_le (isI_lit (k := k1.grow g) 1) (hci.mono hle2)
      rw [decide_eq_true (by omega)] at this; exact this
    · have := isB_le (hci.mono hle2) (isI_lit (k := k1.grow g) 9223372036854775807)
      rw [decide_eq_true (by omega)] at this; exact this
    · have := isB_le (isI_len (hsv.mono (hle1.trans hle2))) (hci.mono hle2)
      rw [decide_eq_true (by omega)] at this; exact this
  refine ⟨k1.grow g, _, .slice ⟨.id s.nx, .lit 0⟩ (mk1 .len e) (.iv s.ct.i), _, w', rfl, hle1.trans hle2, hs2.withPc hpc, ?_, ?_⟩
  · intro k' hle
    have := is_new k1 g k' hle
    rw [hnx1] at this
    have e1 : k'.ρ.i.getD s.ct.i 0 = (cp : Int) := hci k' (hle2.trans hle)
    have e2 : (mk1 .len e).ii k'.ρ = (sv.size : Int) := isI_len hsv k' (hle1.trans (hle2.trans hle))
    simp only [DV.den, this, E.ii, e1, e2, Int.toNat_natCast]
  · rw [← hk1]; exact h

theorem appendStrD_sound (hs : StR w0 gl ro k s a w) {t u ty el : TypeId} {x : DV} {e : E} {xv : Value} {sv : ByteArray} (hx : x.is k xv) (hsv : e.isS k sv) (ht : P.underlying t = some (.slice el)) (hu : P.underlying u = some .string)
    (h : (appendStrD P s el x e).sat P Q B k.ρ k.G) : OpPost w0 gl ro a Q k ((Builtin.append_ #[t, u] ty #[xv, .string sv]).run P w) := by
  unfold appendStrD at h
  split at h
  · rename_i z hel hz
    obtain ⟨i, zv, hi, hzv, _, hzl, hzn⟩ := zeroD_spec hz
    have hcell : P.cellsOf el = i.size := cellsOf_info hi
    split at h
    · exact (sat_bad h).elim
    rename_i hc0
    simp only [Bool.not_eq_true', Bool.and_eq_true, beq_iff_eq, Bool.not_eq_false] at hc0
    obtain ⟨⟨hce, hbe⟩, hinc⟩ := hc0
    have hs1 : i.size = 1 := by omega
    have hby : i.bytes = 1 := by
      have : P.bytesOf el = i.bytes := by simp [Program.bytesOf, hi]
      omega
    have hzz : zv.cells.size = 1 := by simpa using hzn.symm
    -- what comes behind
    have next : ∀ {s' : St} {p : List (E × Bool)} {oi : Option Id} {e' : E} {sv' : ByteArray}, PcR k p → s' = { s with pc := p } → e'.isS k sv' → (appStr s' el oi e').sat P Q B k.ρ k.G →
        sv'.size ≤ 1000000 ∧ ∃ p', PcR k p' ∧ ∀ cp : Nat, sv'.size ≤ cp → cp ≤ 9223372036854775807 → cp ≠ 0 → (retv { s with
      ct := { s.ct with i := s.ct.i + 1 }
      pc := (mk2 .le (mk1 .len e') (.iv s.ct.i), true) :: (mk2 .le (.iv s.ct.i) maxLenE, true) :: (mk2 .le (.lit 1) (.iv s.ct.i), true) :: p'
      heap := (s.nx, .bytes e' el (.iv s.ct.i)) :: killO s.heap oi
      nx := s.nx + 1 } (.slice ⟨.id s.nx, .lit 0⟩ (mk1 .len e') (.iv s.ct.i))).sat P Q B (k.ρ.app { i := [(cp : Int)] }) k.G := by
      rintro s' p oi e' sv' hp rfl hsv' h
      unfold appStr at h
      have hB := isB_le (isI_len hsv') (isI_lit (k := k) 1000000)
      obtain ⟨p', hp', hB', h⟩ := sat_oblige (hs.withPc hp) ⟨_, hB⟩ h
      have hle := isB_true hB hB'
      simp only [decide_eq_true_eq] at hle
      refine ⟨by omega, p', hp', fun cp h1 h2 h3 => ?_⟩
      simp only [Tr.sat] at h
      refine h { i := [(cp : Int)] } ⟨rfl, rfl, rfl, rfl, by simp⟩ ?_
      have e0 : (E.iv s.ct.i).ii (k.ρ.app { i := [(cp : Int)] }) = cp := by simp [E.ii, Env.app, List.getD_eq_getElem?_getD, ← hs.ct.i]
      have e1 : (mk1 .len e').ii (k.ρ.app { i := [(cp : Int)] }) = (sv'.size : Int) := isI_len hsv' (k.app { i := [(cp : Int)] } k.G) (K.le_app k _ fun _ _ h => h)
      have b1 : (mk2 .le (mk1 .len e') (.iv s.ct.i)).bb (k.ρ.app { i := [(cp : Int)] }) = true := by rw [mk2_bb]; simp only [E.bb, e0, e1]; exact decide_eq_true (by omega)
      have b2 : (mk2 .le (.iv s.ct.i) maxLenE).bb (k.ρ.app { i := [(cp : Int)] }) = true := by
        rw [mk2_bb]; simp only [E.bb, e0]
        exact decide_eq_true (by show (cp : Int) ≤ 9223372036854775807; omega)
      have b3 : (mk2 .le (.lit 1) (.iv s.ct.i)).bb (k.ρ.app { i := [(cp : Int)] }) = true := by
        rw [mk2_bb]; simp only [E.bb, e0]
        exact decide_eq_true (by show (1 : Int) ≤ cp; omega)
      have hA : ∀ (x y : E) (ρ : Env), (mk2 .and x y).bb ρ = (x.bb ρ && y.bb ρ) := fun x y ρ => by rw [mk2_bb]; rfl
      rw [hA, hA, b1, b2, b3]; rfl
    split at h
    · -- onto nil
      cases nilslice_is hx
      have hB := isB_eqi (isI_len hsv) (isI_lit (k := k) 0)
      obtain ⟨p, hp, hbr⟩ := sat_branch hs ⟨_, hB⟩ h
      rcases hbr with ⟨h1, h2⟩ | ⟨h1, h2⟩
      · have h0 := isB_true hB h1
        have h0 : sv.size = 0 := by simpa using h0
        have hrun : (Builtin.append_ #[t, u] ty #[.slice none 0 0, .string sv]).run P w = .ok (.slice none 0 0) w := by
          have hf := Lib.run_firstCells_string (P := P) w 1 sv
          rw [h0] at hf
          simp [Builtin.append_, run_underlying ht, run_underlying hu, sizeOf, typeInfo, hi, hs1, Builtin.lenOf, h0, hf]
        rw [hrun]
        exact (post_of (hs.withPc hp) (v := .slice none 0 0) (fun k' _ => by simp [DV.den]) h2 rfl).to
      · have h0 : sv.size ≠ 0 := by
          have := hB.here
          rw [h1.here] at this
          simpa using this.symm
        obtain ⟨hsm, p', hp', hq⟩ := next hp rfl hsv h2
        have hrun := run_append_nil_string (P := P) w t u ty el i zv ht hu hi hzv sv (by omega) (by omega) (by rw [hby]; omega)
        rw [hrun]
        have hge := grownCap_ge w sv.size 0 el
        have hmx := grownCap_le_maxLen w sv.size 0 el (by simp only [maxLen]; omega)
        simp only [maxLen] at hmx
        have hzl2 := size_zeroCells zv.cells (grownCap w sv.size 0 el - sv.size)
        generalize Builtin.zeroCells zv.cells (grownCap w sv.size 0 el - sv.size) = zc at hzl2
        generalize grownCap w sv.size 0 el = cap at hge hmx hzl2
        have harr : sv.data.map (fun b => Value.int .u8 b.toNat) ++ zc = (Lib.strCells sv ++ zc.toList).toArray := by apply Array.ext'; simp [Lib.strCells]
        rw [harr]
        refine appStr_post (k := k) (i := none) (hs.withPc hp') hsv (row := Lib.strCells sv ++ zc.toList) ?_ ?_ hge hmx (by omega) (heap_alloc_new w.drew _) hs.heap.frame.size ?_ ?_ ?_
          (by simp only [World.size_alloc, World.size_drew]; omega) (fun b hb _ => heap_alloc_old w.drew _ b hb) rfl rfl rfl (by simp) (hq cap hge hmx (by omega))
        · rw [List.take_append_of_le_length (by rw [Lib.strCells_length]; omega), ← Lib.strCells_length, List.take_length]
        · rw [List.length_append, Lib.strCells_length, Array.length_toList, hzl2, hzz]; omega
        · intro j hj
          obtain ⟨q, hq, _⟩ := hj
          have := hs.heap.lt j (hs.heap.obj j q hq).1
          intro e
          have e : k.β j = w.heap.size := e
          omega
        · intro o hG
          have := (Array.getElem?_eq_some_iff.1 (hs.heap.g _ _ hG).1).1
          have h' : w.drew.heap.size < w.heap.size := this
          simp only [World.size_drew] at h'
          omega
        · intro o hE
          have := (Array.getElem?_eq_some_iff.1 (hs.heap.ex _ _ hE).1).1
          have h' : w.drew.heap.size < w.heap.size := this
          simp only [World.size_drew] at h'
          omega
    · -- onto a row of bytes
      rename_i id off n c
      split at h
      · rename_i eo el' mE ho hg
        split at h
        · rename_i hcond
          simp only [Bool.and_eq_true, beq_iff_eq] at hcond
          obtain ⟨⟨⟨⟨⟨rfl, hn⟩, hm⟩, hinc2⟩, hd1⟩, hd2⟩ := hcond
          have hn := E.beq_eq hn
          have hm := E.beq_eq hm
          subst hn; subst hm
          obtain ⟨xad, ln, cp, rfl, hxr, hln, hcp⟩ := is_slice hx
          obtain ⟨hid, ob, hob, vs, so, rfl, hso, hsl, hmI, hrow⟩ := hs.heap.obj _ _ hg
          have had : xad = some ⟨k.β id, 0, none⟩ := by
            rw [← hxr k (K.le.refl k)]
            simp [Ref.den, Base.den, (litNat_isI (k := k) ho).here, add_plain]
          subst had
          have hlnn : ln = so.size := by rw [← hln k (K.le.refl k), (isI_len hso).here]; simp
          subst hlnn
          have hcpl : cp = vs.length := by rw [← hcp k (K.le.refl k), hmI.here]; simp
          subst hcpl
          have hmx0 : vs.length ≤ 9223372036854775807 := by
            have := (decideE_sound hs.pc hd1).here
            rw [mk2_bb] at this
            simp only [E.bb] at this
            have := of_decide_eq_true this
            rw [hmI.here] at this
            have : (vs.length : Int) ≤ 9223372036854775807 := this
            omega
          have hne0 : vs.length ≠ 0 := by
            have := (decideE_sound hs.pc hd2).here
            rw [mk2_bb] at this
            simp only [E.bb] at this
            have := of_decide_eq_true this
            rw [hmI.here] at this
            have : (1 : Int) ≤ vs.length := this
            omega
          have happ : (mk2 .app eo e).isS k (so ++ sv) := fun k' hle => by
            rw [mk2_ss _ _ _ _ (by simp) (by simp)]
            simp only [E.ss, hso k' hle, hsv k' hle]
          obtain ⟨hsm, p', hp', hq⟩ := next (p := s.pc) hs.pc rfl happ h
          have hsz : (so ++ sv).size = so.size + sv.size := ByteArray.size_append ..
          have hkill : ∀ j, Live ((id, DO.dead) :: s.heap) j → j ≠ id ∧ Live s.heap j := fun j hj => by
            by_cases hij : id = j
            · subst hij
              obtain ⟨p, hp, hl⟩ := hj
              rw [look_cons', if_pos rfl] at hp
              cases hp; simp [DO.live] at hl
            · exact ⟨fun e => hij e.symm, hj.tail hij⟩
          by_cases hroom : so.size + sv.size ≤ vs.length
          · have hrun := Lib.run_append_room_string (P := P) w t u ty el' i ht hu hi hs1 (k.β id) so.size vs.length vs.toArray hob sv hroom (by simpa using hroom)
            rw [hrun, ← hsz]
            refine appStr_post (k := k) (i := some id) (hs.withPc hp') happ (row := vs.take so.size ++ Lib.strCells sv ++ vs.drop (so.size + sv.size)) ?_ ?_ (by omega) hmx0 hne0
              (by rw [hsz]; exact setRow_heap w _ _ _ _ _ hob) (hs.heap.own _ hid) ?_ ?_ ?_ (by simp [World.setRow]) (fun b _ hb => setRow_other w _ _ _ hb) rfl rfl rfl (by simp [hid]) (hq _ (by omega) hmx0 hne0)
            · rw [hrow]
              have e1 : List.map (fun b : UInt8 => Value.int IntKind.u8 (b.toNat : Int)) so.data.toList = Lib.strCells so := rfl
              rw [e1, ← strCells_app, List.take_append_of_le_length (by rw [Lib.strCells_length]; omega), ← Lib.strCells_length (so ++ sv), List.take_length]
            · simp only [List.length_append, List.length_take, List.length_drop, Lib.strCells_length]
              omega
            · intro j hj
              obtain ⟨h1, h2⟩ := hkill j hj
              exact fun e => h1 (hs.heap.inj j id h2 ⟨_, hg, rfl⟩ e)
            · intro o hG
              exact (hs.heap.g _ _ hG).2 id ⟨_, hg, rfl⟩ rfl
            · intro o hE
              exact (hs.heap.ex _ _ hE).2.1 id ⟨_, hg, rfl⟩ rfl
          · have hrun := Lib.run_append_grow_string (P := P) w t u ty el' i zv ht hu hi hzv ⟨k.β id, 0, none⟩ so.size vs.length (Lib.strCells so) (by rw [Lib.strCells_length, hs1]; omega) (fun j v hj => by
                rw [add_plain, Nat.zero_add, cell?_cells hob]
                have e1 : Lib.strCells so = vs.take so.size := hrow.symm
                rw [e1, List.getElem?_take] at hj
                split at hj
                · simpa using hj
                · simp at hj) sv (by omega) (by omega) (growslice_fits (by omega) (by rw [hby]; omega))
            rw [hrun, arr_app2]
            have hge := grownCap_ge w (so.size + sv.size) vs.length el'
            have hmx := grownCap_le_maxLen w (so.size + sv.size) vs.length el' (by simp only [maxLen]; omega)
            simp only [maxLen] at hmx
            have hzl2 := size_zeroCells zv.cells (grownCap w (so.size + sv.size) vs.length el' - (so.size + sv.size))
            generalize Builtin.zeroCells zv.cells (grownCap w (so.size + sv.size) vs.length el' - (so.size + sv.size)) = zc at hzl2
            generalize grownCap w (so.size + sv.size) vs.length el' = cap at hge hmx hzl2
            rw [← hsz]
            refine appStr_post (k := k) (i := some id) (hs.withPc hp') happ (row := Lib.strCells so ++ Lib.strCells sv ++ zc.toList) ?_ ?_ (by omega) hmx (by omega)
              (heap_alloc_new w.drew _) hs.heap.frame.size ?_ ?_ ?_ (by simp only [World.size_alloc, World.size_drew]; omega) (fun b hb _ => heap_alloc_old w.drew _ b hb) rfl rfl rfl (by simp [hid]) (hq _ (by omega) hmx (by omega))
            · rw [← strCells_app, List.take_append_of_le_length (by rw [Lib.strCells_length]; omega), ← Lib.strCells_length (so ++ sv), List.take_length]
            · rw [List.length_append, List.length_append, Lib.strCells_length, Lib.strCells_length, Array.length_toList, hzl2, hzz]; omega
            · intro j hj
              obtain ⟨h1, p, hp, _⟩ := hkill j hj
              have := hs.heap.lt j (hs.heap.obj j p hp).1
              intro e
              have e : k.β j = w.heap.size := e
              omega
            · intro o hG
              have := (Array.getElem?_eq_some_iff.1 (hs.heap.g _ _ hG).1).1
              have h' : w.drew.heap.size < w.heap.size := this
              simp only [World.size_drew] at h'
              omega
            · intro o hE
              have := (Array.getElem?_eq_some_iff.1 (hs.heap.ex _ _ hE).1).1
              have h' : w.drew.heap.size < w.heap.size := this
              simp only [World.size_drew] at h'
              omega
        · exact (sat_bad h).elim
      · exact (sat_bad h).elim
    · exact (sat_bad h).elim
  · exact (sat_bad h).elim

theorem sliceDataD_sound (hs : StR w0 gl ro k s a w) {ts : Array TypeId} {ty : TypeId} {x : DV} {v : Value}
    (h : (match x with
    | .nilslice => retv s .nilptr
    | .slice r _ c => oblige s (mk2 .le (.lit 1) c) fun s => retv s (.ptr r)
    | _ => bad "u.SliceData" : Tr).sat P Q B k.ρ k.G) (hx : x.is k v) : OpPostW w0 gl ro a Q k w ((Builtin.unsafeSliceData_ ts ty #[v]).run P w) := by
  split at h
  · cases nilslice_is hx
    exact post_of hs (v := .pointer none) (fun k' _ => by simp [DV.den]) h (Lib.run_unsafeSliceData_nil w ts ty 0 0)
  · rename_i r n c
    obtain ⟨ad, ln, cp, rfl, hr, hln, hcp⟩ := is_slice hx
    have hB : (mk2 .le (.lit 1) c).isB k (decide (1 ≤ cp)) := fun k' hle => by
      have := hcp k' hle
      rw [mk2_bb]; simp only [E.bb]
      rw [decide_eq_decide]
      show (1 : Int) ≤ c.ii k'.ρ ↔ _
      omega
    obtain ⟨p, hp, hB', h⟩ := sat_oblige hs ⟨_, hB⟩ h
    have hle := isB_true hB hB'
    simp only [decide_eq_true_eq] at hle
    have hbase : (retv { s with pc := p } (.ptr r)).sat P Q B k.ρ k.G := h
    cases ad with
    | none => exact post_of (hs.withPc hp) (v := .pointer none) (mk_ptr hr) h (Lib.run_unsafeSliceData_nil w ts ty ln cp)
    | some p => exact post_of (hs.withPc hp) (mk_ptr hr) h (Lib.run_unsafeSliceData_row w ts ty p ln cp (by omega))
  · exact (sat_bad h).elim

theorem unsafeStringD_sound (hs : StR w0 gl ro k s a w) {pt it ty : TypeId} {x y : DV} {v u : Value} (hx : x.is k v) (hy : y.is k u)
    (h : (unsafeStringD P s pt x y).sat P Q B k.ρ k.G) : OpPost w0 gl ro a Q k ((Builtin.unsafeString_ #[pt, it] ty #[v, u]).run P w) := by
  unfold unsafeStringD at h
  split at h
  · rename_i n
    cases nilptr_is hx
    obtain ⟨m, rfl, hm⟩ := is_int hy
    have hB := isB_eqi hm (isI_lit (k := k) 0)
    obtain ⟨p, hp, hB', h⟩ := sat_oblige hs ⟨_, hB⟩ h
    have h0 := isB_true hB hB'
    have h0 : m = 0 := by simpa using h0
    subst h0
    exact (post_of (hs.withPc hp) (v := .string .empty) (mk_str fun k' _ => by simp [E.ss, sOf]; rfl) h (Lib.run_unsafeString_none w pt it ty none)).to
  · rename_i i off n
    obtain ⟨ad, rfl, hr⟩ := is_ptr hx
    obtain ⟨m, rfl, hm⟩ := is_int hy
    split at h
    · rename_i e el mE t ho hg hpt
      split at h
      · rename_i hc
        simp only [Bool.and_eq_true, beq_iff_eq] at hc
        obtain ⟨⟨⟨rfl, hce⟩, hn⟩, hd⟩ := hc
        have hn := E.beq_eq hn
        subst hn
        obtain ⟨hid, ob, hob, vs, so, rfl, hso, hsl, hmI, hrow⟩ := hs.heap.obj _ _ hg
        have had : ad = some ⟨k.β i, 0, none⟩ := by
          rw [← hr k (K.le.refl k)]
          simp [Ref.den, Base.den, (litNat_isI (k := k) ho).here, add_plain]
        subst had
        have hml : m = (so.size : Int) := by rw [← hm.here, (isI_len hso).here]
        subst hml
        have hmx0 : vs.length ≤ 9223372036854775807 := by
          have := (decideE_sound hs.pc hd).here
          rw [mk2_bb] at this
          simp only [E.bb] at this
          have := of_decide_eq_true this
          rw [hmI.here] at this
          have : (vs.length : Int) ≤ 9223372036854775807 := this
          omega
        have hkill := hs.heap.kill hid
        by_cases h0 : so.size = 0
        · have hso0 : so = .empty := by
            apply ByteArray.ext
            apply Array.eq_empty_of_size_eq_zero
            exact h0
          rw [h0]
          refine ⟨k, .string .empty, .str e, _, w, Lib.run_unsafeString_none w pt it ty _, K.le.refl k, hs.upd hkill, mk_str ?_, h⟩
          rw [← hso0]; exact hso
        · have hrun := Lib.run_unsafeString_row (P := P) w pt it ty t hpt hce (k.β i) vs.length (by simp [World.shape?, hob]) so.data.toList (by
              intro e
              apply h0
              have := congrArg List.length e
              simpa using this) (by simpa using hsl) (by simp; have : so.data.size = so.size := rfl; omega) (fun j x hj => by
              rw [add_plain, Nat.zero_add, cell?_cells hob]
              have hlt : j < so.size := by
                have := (List.getElem?_eq_some_iff.1 hj).1
                simpa using this
              have e1 : (vs.take so.size)[j]? = some (.int .u8 x.toNat) := by rw [hrow, List.getElem?_map, hj]; rfl
              rw [List.getElem?_take, if_pos hlt] at e1
              simpa using e1)
          have e2 : (so.data.toList.length : Int) = (so.size : Int) := by simp
          rw [e2] at hrun
          have e3 : (⟨so.data.toList.toArray⟩ : ByteArray) = so := by apply ByteArray.ext; simp
          rw [e3] at hrun
          refine ⟨k, .string so, .str e, _, _, hrun, K.le.refl k, hs.upd (hkill.freeze (i := i) ⟨hid, by rw [look_cons', if_pos rfl]⟩ ⟨fun j hj => ?_, fun o hG => ?_, fun o hE => ?_⟩ _), mk_str hso, h⟩
          · by_cases hij : i = j
            · subst hij
              obtain ⟨p, hp, hl⟩ := hj
              rw [look_cons', if_pos rfl] at hp
              cases hp; simp [DO.live] at hl
            · exact fun e => hij (hs.heap.inj i j ⟨_, hg, rfl⟩ (hj.tail hij) e.symm)
          · exact (hs.heap.g _ _ hG).2 i ⟨_, hg, rfl⟩ rfl
          · exact (hs.heap.ex _ _ hE).2.1 i ⟨_, hg, rfl⟩ rfl
      · exact (sat_bad h).elim
    · exact (sat_bad h).elim
  · exact (sat_bad h).elim
end
end Go.Sx
