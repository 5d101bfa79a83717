/- Operations (V): indices, slices. -/
import Derived.Test.YtcljcgapkojgnaaGreatDoorSf
import Derived.Laws.Slices
set_option linter.unusedSimpArgs false
set_option linter.unusedVariables false
namespace Go.Sx
open Go.RowKit

section
variable {P : Program} {w0 : Fr} {gl : Glob} {ro : Option Nat} {k : K} {s : St} {a : Act} {w : World} {Q : Env → GS → Out → St → Prop} {B : Backs}

theorem is_raw {j : Nat} {v : Value} (h : (DV.raw j).is k v) : ∀ k', k.le k' → k'.ρ.v.getD j .nilIface = v := fun k' g => by simpa [DV.den] using h k' g

theorem sat_withSlice (hs : StR w0 gl ro k s a w) {x : DV} {v : Value} (hx : x.is k v) {f : St → DV → Tr} (h : (withSlice s x f).sat P Q B k.ρ k.G) :
    ∃ p x', PcR k p ∧ x'.is k v ∧ (f { s with pc := p } x').sat P Q B k.ρ k.G := by
  unfold withSlice at h
  split at h
  · rename_i j
    have hj := is_raw hx
    obtain ⟨p, hp, hc, h⟩ := sat_oblige hs (c := .vv .isSl j) ⟨ovB v .isSl, fun k' hle => by simp only [E.bb, hj k' hle]⟩ h
    refine ⟨p, _, hp, ?_, h⟩
    have hb := hc.here
    simp only [E.bb, hj k (K.le.refl k)] at hb
    intro k' hle
    have hg := hj k' hle
    cases v with
    | slice b n c =>
      have hget : k'.ρ.v[j]? = some (.slice b n c) := by
        rw [List.getD_eq_getElem?_getD] at hg
        cases hv : k'.ρ.v[j]? with
        | none => rw [hv] at hg; simp at hg
        | some u => rw [hv] at hg; simpa using hg
      simp only [DV.den, E.ii, hg, ovI, Ref.den, Base.den, hget, Int.toNat_natCast]
      cases b <;> simp [Addr.add]
    | _ => simp [ovB] at hb
  · exact ⟨s.pc, x, hs.pc, hx, h⟩

theorem isB_bounds {i n : E} {iv nv : Int} (hi : i.isI k iv) (hn : n.isI k nv) : (inBounds i n).isB k (decide (0 ≤ iv) && decide (iv < nv)) :=
  isB_and (isB_le (isI_lit 0) hi) (isB_lt hi hn)

/-- A length as a number: what its expression comes to need not be known below 0. -/
theorem inB_len {i n : E} {iv : Int} {m : Nat} (hi : i.isI k iv) (hn : ∀ k', k.le k' → (n.ii k'.ρ).toNat = m) : ∃ b, (inBounds i n).isB k b ∧ (b = true → 0 ≤ iv ∧ iv < m) := by
  refine ⟨decide (0 ≤ iv ∧ iv < m), fun k' hle => ?_, fun h => of_decide_eq_true h⟩
  unfold inBounds
  rw [mk2_bb]
  simp only [E.bb, mk2_bb, hi k' hle, E.ii]
  have := hn k' hle
  rw [← Bool.decide_and]
  refine decide_eq_decide.2 ⟨fun h => ?_, fun h => ?_⟩ <;> omega

theorem indexAddrD_sound (hs : StR w0 gl ro k s a w) {t : TypeId} {x i : DV} {v iv : Value} (hx : x.is k v) (hi : i.is k iv) (h : (indexAddrD P s t x i).sat P Q B k.ρ k.G) :
    OpPostW w0 gl ro a Q k w ((Instr.indexAt t v iv).run P w) := by
  unfold indexAddrD at h
  split at h
  · rename_i kd ie
    obtain ⟨n, rfl, hn⟩ := is_int hi
    obtain ⟨p, x', hp, hx', h⟩ := sat_withSlice hs hx h
    have hs := hs.withPc hp
    split at h
    · rename_i e r ln cp hu
      obtain ⟨ad, m, c, rfl, hr, hm, hc⟩ := is_slice hx'
      split at h
      · exact (sat_bad h).elim
      rename_i he
      have he : ∃ i, P.info? e = some i := Option.isSome_iff_exists.1 (by simpa [Option.isSome_iff_ne_none] using he)
      obtain ⟨p, hp, hb, h⟩ := sat_oblige hs (isB_hasBase hr) h
      have hs := hs.withPc hp
      obtain ⟨a0, rfl⟩ := hasBase_some hr hb
      obtain ⟨b, hib, hib2⟩ := inB_len hn hm
      obtain ⟨p, hp, hb, h⟩ := sat_oblige hs ⟨b, hib⟩ h
      have hs := hs.withPc hp
      have hb2 := hib2 (isB_true hib hb)
      obtain ⟨h, _, hr'⟩ := sat_plusD hs h hr (isI_mul hn (isI_lit _))
      refine post_of hs (mk_ptr hr') h ?_
      have e1 : (n * (P.cellsOf e : Int)).toNat = n.toNat * P.cellsOf e := by
        obtain ⟨q, rfl⟩ := Int.eq_ofNat_of_zero_le hb2.1
        simp [← Int.natCast_mul]
      simp [Instr.indexAt, asIntOf, run_underlying hu, hb2, run_sizeOf he, e1]
    · rename_i len e r hu
      obtain ⟨ad, rfl, hr⟩ := is_ptr hx'
      split at h
      · exact (sat_bad h).elim
      rename_i he
      have he : ∃ i, P.info? e = some i := Option.isSome_iff_exists.1 (by simpa [Option.isSome_iff_ne_none] using he)
      obtain ⟨p, hp, hb, h⟩ := sat_oblige hs (isB_hasBase hr) h
      have hs := hs.withPc hp
      obtain ⟨a0, rfl⟩ := hasBase_some hr hb
      obtain ⟨p, hp, hb, h⟩ := sat_oblige hs ⟨_, isB_bounds hn (isI_lit _)⟩ h
      have hs := hs.withPc hp
      have hb2 := isB_true (isB_bounds hn (isI_lit _)) hb
      simp only [Bool.and_eq_true, decide_eq_true_eq] at hb2
      obtain ⟨h, _, hr'⟩ := sat_plusD hs h hr (isI_mul hn (isI_lit _))
      refine post_of hs (mk_ptr hr') h ?_
      have e1 : (n * (P.cellsOf e : Int)).toNat = n.toNat * P.cellsOf e := by
        obtain ⟨q, rfl⟩ := Int.eq_ofNat_of_zero_le hb2.1
        simp [← Int.natCast_mul]
      simp [Instr.indexAt, asIntOf, Instr.sureAddr, run_underlying hu, hb2, run_sizeOf he, e1]
    · exact (sat_bad h).elim
  · exact (sat_bad h).elim

theorem indexD_sound (hs : StR w0 gl ro k s a w) {t : TypeId} {x i : DV} {v iv : Value} (hx : x.is k v) (hi : i.is k iv) (h : (indexD P s t x i).sat P Q B k.ρ k.G) :
    OpPostW w0 gl ro a Q k w ((Instr.index t v iv).run P w) := by
  unfold indexD at h
  split at h
  · rename_i kd ie
    obtain ⟨n, rfl, hn⟩ := is_int hi
    split at h
    · rename_i e hu
      obtain ⟨sv, rfl, hsv⟩ := is_str hx
      obtain ⟨p, hp, hb, h⟩ := sat_oblige hs ⟨_, isB_bounds hn (isI_len hsv)⟩ h
      have hb2 := isB_true (isB_bounds hn (isI_len hsv)) hb
      simp only [Bool.and_eq_true, decide_eq_true_eq] at hb2
      have hlt : n.toNat < sv.size := by omega
      refine post_of (hs.withPc hp) (v := .int .u8 ((sv.data[n.toNat]?.getD 0).toNat)) (mk_int fun k' hle => ?_) h ?_
      · rw [mk2_ii _ _ _ _ (by simp) (by simp)]; simp only [E.ii, hsv k' hle, hn k' hle]
      · have hg : sv[n.toNat]? = some sv.data[n.toNat] := by
          rw [getElem?_pos sv n.toNat hlt]; rfl
        have hd : sv.data[n.toNat]? = some sv.data[n.toNat] := Array.getElem?_eq_getElem hlt
        simp [Instr.index, asIntOf, run_underlying hu, hb2.1, hg, hd]
    · rename_i len e l hu
      obtain ⟨vs, rfl, hl⟩ := is_agg hx
      split at h
      · rename_i j hj
        split at h
        · exact (sat_bad h).elim
        · rename_i hlen
          split at h
          · rename_i cs hcs
            split at h
            · rename_i d hd
              have : n = j := by rw [← hn.here, (litNat_isI (k := k) hj).here]
              subst this
              obtain ⟨v, hrun, hv⟩ := run_part (P := P) (w := w) hl hcs hd
              obtain ⟨bb, hb, _, _⟩ := oneOf_sound (P := P) hd (takeAt_iss hcs hl) (.inr trivial)
              obtain ⟨dsc, hds, _⟩ := aggOf_spec hb
              have h1 : (j : Int) < len := by omega
              exact post_of hs hv h (by simp only [Instr.index, asIntOf, Sem.run_bind, Sem.run_pure, Result.andThen_ok, run_underlying hu]; rw [if_pos ⟨by omega, h1⟩]; simp [run_sizeOf (underlying_info hds), hrun])
            · exact (sat_bad h).elim
          · exact (sat_bad h).elim
      · exact (sat_bad h).elim
    · exact (sat_bad h).elim
  · exact (sat_bad h).elim

theorem inCt_stable {c : Ctr} (hc : CtR k c) {k' : K} (hle : k.le k') : ∀ {e : E}, e.inCt c = true → e.ii k'.ρ = e.ii k.ρ ∧ e.bb k'.ρ = e.bb k.ρ ∧ e.ss k'.ρ = e.ss k.ρ := by
  intro e
  induction e with
  | lit n => intro _; exact ⟨rfl, rfl, rfl⟩
  | bl n => intro _; exact ⟨rfl, rfl, rfl⟩
  | sl n => intro _; exact ⟨rfl, rfl, rfl⟩
  | iv i => intro h; simp only [E.inCt, decide_eq_true_eq] at h; exact ⟨by simp only [E.ii]; exact getD_prefix hle.ρ.i (by rw [hc.i]; exact h) _, by simp [E.bb], by simp [E.ss]⟩
  | bv i => intro h; simp only [E.inCt, decide_eq_true_eq] at h; exact ⟨by simp [E.ii], by simp only [E.bb]; exact getD_prefix hle.ρ.b (by rw [hc.b]; exact h) _, by simp [E.ss]⟩
  | sv i => intro h; simp only [E.inCt, decide_eq_true_eq] at h; exact ⟨by simp [E.ii], by simp [E.bb], by simp only [E.ss]; exact getD_prefix hle.ρ.s (by rw [hc.s]; exact h) _⟩
  | vv o i =>
    intro h; simp only [E.inCt, decide_eq_true_eq] at h
    have := getD_prefix hle.ρ.v (by rw [hc.v]; exact h) Value.nilIface
    exact ⟨by simp only [E.ii, this], by simp only [E.bb, this], by simp [E.ss]⟩
  | o1 o a ih =>
    intro h
    obtain ⟨h1, h2, h3⟩ := ih h
    cases o <;> simp [E.ii, E.bb, E.ss, h1, h2, h3]
  | o2 o a b iha ihb =>
    intro h
    simp only [E.inCt, Bool.and_eq_true] at h
    obtain ⟨h1, h2, h3⟩ := iha h.1
    obtain ⟨g1, g2, g3⟩ := ihb h.2
    cases o <;> simp [E.ii, E.bb, E.ss, h1, h2, h3, g1, g2, g3]
  | o3 o a b c iha ihb ihc =>
    intro h
    simp only [E.inCt, Bool.and_eq_true] at h
    obtain ⟨h1, h2, h3⟩ := iha h.1.1
    obtain ⟨g1, g2, g3⟩ := ihb h.1.2
    obtain ⟨f1, f2, f3⟩ := ihc h.2
    cases o <;> simp [E.ii, E.bb, E.ss, h1, h2, h3, g1, g2, g3, f1, f2, f3]

theorem inCt_isI (hs : StR w0 gl ro k s a w) {e : E} (h : e.inCt s.ct = true) : e.isI k (e.ii k.ρ) := fun _ hle => (inCt_stable hs.ct hle h).1

theorem isS_sub {e l h : E} {b : ByteArray} {m n : Int} (he : e.isS k b) (hl : l.isI k m) (hh : h.isI k n) : (mkSub e l h).isS k (b.extract m.toNat n.toNat) :=
  fun k' g => by rw [mkSub_ss, he k' g, hl k' g, hh k' g]

/-- A bound as the machine has it. -/
def OptIs (k : K) (o : Option DV) (v : Option Value) : Prop := match o, v with
  | none, none => True
  | some d, some v => d.is k v
  | _, _ => False

/-- The two bounds of a slice: what is obliged, and the machine's answer. -/
theorem sat_boundsD (hs : StR w0 gl ro k s a w) {lo hi : Option DV} {lv hv : Option Value} (hlo : OptIs k lo lv) (hhi : OptIs k hi hv) {len cap : E} {ln cp : Nat}
    (hlen : ∀ k', k.le k' → (len.ii k'.ρ).toNat = ln) (hcap : ∀ k', k.le k' → (cap.ii k'.ρ).toNat = cp) {f : St → E → E → Tr}
    (h : (boundsD s lo hi len cap f).sat P Q B k.ρ k.G) :
    ∃ (p : List (E × Bool)) (l h' : E) (m n : Int), PcR k p ∧ cap.isI k (cap.ii k.ρ) ∧ l.isI k m ∧ h'.isI k n ∧ 0 ≤ m ∧ m ≤ n ∧ n ≤ cap.ii k.ρ ∧ (f { s with pc := p } l h').sat P Q B k.ρ k.G ∧
      ∀ isSlice, (Instr.sliceBounds isSlice ln cp lv hv none).run P w = .ok (m.toNat, n.toNat, cp) w := by
  unfold boundsD at h
  split at h
  · rename_i l h' hl hh
    split at h
    · exact (sat_bad h).elim
    rename_i hin
    simp only [Bool.not_eq_true', Bool.not_eq_false, Bool.and_eq_true] at hin
    have hlenI := inCt_isI hs hin.1
    have hcapI := inCt_isI hs hin.2
    obtain ⟨m, hm, hmv⟩ : ∃ m : Int, l.isI k m ∧ (lv = none ∧ m = 0 ∨ ∃ t, lv = some (.int t m)) := by
      cases lo with
      | none => cases lv <;> simp [OptIs] at hlo; simp [boundE] at hl; subst hl; exact ⟨0, isI_lit _, .inl ⟨rfl, rfl⟩⟩
      | some d =>
        cases lv with
        | none => simp [OptIs] at hlo
        | some v =>
          cases d <;> simp [boundE] at hl
          subst hl
          obtain ⟨m, rfl, hm⟩ := is_int hlo
          exact ⟨m, hm, .inr ⟨_, rfl⟩⟩
    obtain ⟨n, hn, hnv⟩ : ∃ n : Int, h'.isI k n ∧ (hv = none ∧ n.toNat = ln ∨ ∃ t, hv = some (.int t n)) := by
      cases hi with
      | none =>
        cases hv <;> simp [OptIs] at hhi
        simp [boundE] at hh
        subst hh
        exact ⟨_, hlenI, .inl ⟨rfl, hlen k (K.le.refl k)⟩⟩
      | some d =>
        cases hv with
        | none => simp [OptIs] at hhi
        | some v =>
          cases d <;> simp [boundE] at hh
          subst hh
          obtain ⟨m, rfl, hm⟩ := is_int hhi
          exact ⟨m, hm, .inr ⟨_, rfl⟩⟩
    have hb1 := isB_and (isB_le (isI_lit 0) hn) (isB_le hn hcapI)
    obtain ⟨p, hp, hc, h⟩ := sat_oblige hs ⟨_, hb1⟩ h
    have hs1 := hs.withPc hp
    have h1' := isB_true hb1 hc
    simp only [Bool.and_eq_true, decide_eq_true_eq] at h1'
    have h1 : 0 ≤ n ∧ n ≤ cp := by have := hcap k (K.le.refl k); omega
    have hb2 := isB_and (isB_le (isI_lit 0) hm) (isB_le hm hn)
    obtain ⟨p, hp, hc, h⟩ := sat_oblige hs1 ⟨_, hb2⟩ h
    have h2 := isB_true hb2 hc
    simp only [Bool.and_eq_true, decide_eq_true_eq] at h2
    refine ⟨p, l, h', m, n, hp, hcapI, hm, hn, h2.1, h2.2, h1'.2, h, fun isSlice => ?_⟩
    have hl2 : m ≤ (n.toNat : Int) := by omega
    rcases hnv with ⟨rfl, hnl⟩ | ⟨t, rfl⟩ <;> rcases hmv with ⟨rfl, rfl⟩ | ⟨t', rfl⟩
    · simp [Instr.sliceBounds, hnl]
    · rw [hnl] at hl2 ⊢
      simp [Instr.sliceBounds, Go.run_sliceBound, h2.1, hl2]
    · simp [Instr.sliceBounds, Go.run_sliceBound, h1.1, h1.2]
    · have hsb := Go.run_sliceBound (P := P) w t' m n.toNat .sliceB h2.1 hl2
      simp [Instr.sliceBounds, Go.run_sliceBound, h1.1, h1.2, hsb]
  · exact (sat_bad h).elim

theorem sliceS_sound (hs : StR w0 gl ro k s a w) {t : TypeId} {x : DV} {v : Value} (hx : x.is k v) {lo hi : Option DV} {lv hv : Option Value} (hlo : OptIs k lo lv) (hhi : OptIs k hi hv)
    (ht : P.underlying t = some .string) (h : (sliceS s x lo hi).sat P Q B k.ρ k.G) : OpPostW w0 gl ro a Q k w ((Instr.sliceAt t v lv hv none).run P w) := by
  unfold sliceS at h
  split at h
  · rename_i e
    obtain ⟨sv, rfl, hsv⟩ := is_str hx
    have hL : ∀ k', k.le k' → ((mk1 .len e).ii k'.ρ).toNat = sv.size := fun k' g => by rw [isI_len hsv k' g]; simp
    obtain ⟨p, l, h', m, n, hp, hcI, hm, hn, _, _, _, h, hrun⟩ := sat_boundsD (P := P) hs hlo hhi hL hL h
    exact post_of (hs.withPc hp) (mk_str (isS_sub hsv hm hn)) h (by simp [Instr.sliceAt, run_underlying ht, Instr.slice, hrun])
  · exact (sat_bad h).elim

theorem sliceD_sound (hs : StR w0 gl ro k s a w) {t e : TypeId} {x : DV} {v : Value} (hx : x.is k v) {lo hi : Option DV} {lv hv : Option Value} (hlo : OptIs k lo lv) (hhi : OptIs k hi hv)
    (ht : P.underlying t = some (.slice e)) (he : ∃ i, P.info? e = some i) (h : (sliceD s (P.cellsOf e) x lo hi).sat P Q B k.ρ k.G) :
    OpPostW w0 gl ro a Q k w ((Instr.sliceAt t v lv hv none).run P w) := by
  unfold sliceD at h
  obtain ⟨p, x', hp, hx', h⟩ := sat_withSlice hs hx h
  have hs := hs.withPc hp
  split at h
  · rename_i r n c
    obtain ⟨ad, ln, cp, rfl, hr, hln, hcp⟩ := is_slice hx'
    have hrun0 : ∀ l h : Nat, ((Instr.sliceBounds true ln cp lv hv none).run P w = .ok (l, h, cp) w) →
        (Instr.sliceAt t (.slice ad ln cp) lv hv none).run P w = .ok (.slice (if cp = l then ad else ad.map (·.add (l * P.cellsOf e))) (h - l) (cp - l)) w := by
      intro l h hb
      simp [Instr.sliceAt, run_underlying ht, Instr.slice, hb, run_sizeOf he]
    obtain ⟨p, l, h', m, n', hp, hcI, hm, hn, h0, hmn, hnc, h, hrun⟩ := sat_boundsD (P := P) hs hlo hhi hln hcp h
    have hs := hs.withPc hp
    have hrun1 := hrun0 _ _ (hrun true)
    have hcN := hcp k (K.le.refl k)
    split at h
    · have hm0 : m = 0 := by rw [← hm.here]; simp [E.ii]
      subst hm0
      refine post_of hs (v := .slice ad n'.toNat cp) (fun k' hle => ?_) h ?_
      · simp only [DV.den, hr k' hle, hn k' hle, hcp k' hle]
      · rw [hrun1]
        cases ad <;> simp [Addr.add]
    · obtain ⟨p, hp, hbr⟩ := sat_branch hs ⟨_, isB_eqi hm hcI⟩ h
      have hs := hs.withPc hp
      have hsub : ∀ k', k.le k' → ((mk2 .sub h' l).ii k'.ρ).toNat = n'.toNat - m.toNat ∧ ((mk2 .sub c l).ii k'.ρ).toNat = cp - m.toNat := by
        intro k' hle
        rw [isI_sub hn hm k' hle, isI_sub hcI hm k' hle]
        omega
      rcases hbr with ⟨hc, h⟩ | ⟨hc, h⟩
      · have heq := isB_true (isB_eqi hm hcI) hc
        have heq : m = c.ii k.ρ := by simpa using heq
        refine post_of hs (v := .slice ad (n'.toNat - m.toNat) (cp - m.toNat)) (fun k' hle => ?_) h ?_
        · simp only [DV.den, hr k' hle, hsub k' hle]
        · rw [hrun1, if_pos (by omega)]
      · have heq : (m == c.ii k.ρ) = false := by rw [← (isB_eqi hm hcI).here, hc.here]
        have heq : m ≠ c.ii k.ρ := by simpa using heq
        obtain ⟨h, _, hr'⟩ := sat_plusD hs h hr (isI_mul hm (isI_lit _))
        have e1 : (m * (P.cellsOf e : Int)).toNat = m.toNat * P.cellsOf e := by
          obtain ⟨q, rfl⟩ := Int.eq_ofNat_of_zero_le h0
          simp [← Int.natCast_mul]
        refine post_of hs (v := .slice (ad.map (·.add (m.toNat * P.cellsOf e))) (n'.toNat - m.toNat) (cp - m.toNat)) (fun k' hle => ?_) h ?_
        · simp only [DV.den, hr' k' hle, hsub k' hle, e1]
        · rw [hrun1, if_neg (by omega)]
  · have : v = .slice none 0 0 := by rw [← hx'.here]; rfl
    subst this
    obtain ⟨p, l, h', m, n, hp, hcI, hm, hn, h0, hmn, hnc, h, hrun⟩ := sat_boundsD (P := P) hs hlo hhi (ln := 0) (cp := 0) (fun k' _ => by simp [E.ii]) (fun k' _ => by simp [E.ii]) h
    have hnc : n ≤ 0 := by simpa [E.ii] using hnc
    have e1 : n.toNat = 0 := by omega
    have e2 : m.toNat = 0 := by omega
    refine post_of (hs.withPc hp) (v := .slice none 0 0) (fun k' _ => by simp [DV.den]) h ?_
    have := hrun true
    rw [e1, e2] at this
    simp [Instr.sliceAt, run_underlying ht, Instr.slice, this, run_sizeOf he]
  · exact (sat_bad h).elim
end
end Go.Sx
