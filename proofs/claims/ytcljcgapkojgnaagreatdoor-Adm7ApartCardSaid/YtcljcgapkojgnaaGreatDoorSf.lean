/- Operations (II): build, load, store, places. -/
import Derived.Test.YtcljcgapkojgnaaGreatDoorSd
set_option linter.unusedSimpArgs false
set_option linter.unusedVariables false
namespace Go.Sx
open Go.RowKit

section
variable {P : Program} {w0 : Fr} {gl : Glob} {ro : Option Nat} {k : K} {s : St} {a : Act} {w : World} {Q : Env → GS → Out → St → Prop} {B : Backs}

theorem run_places' (w : World) : ∀ (fs : List Field), (fs.all fun f => (P.info? f.type).isSome) = true →
    (fs.mapM fun f => do pure (f.offset, ← sizeOf f.type) : Sem (List (Nat × Nat))).run P w = .ok (fs.map fun f => (f.offset, P.cellsOf f.type)) w
  | [], _ => by simp
  | f :: fs, h => by
    simp only [List.all_cons, Bool.and_eq_true] at h
    have hf := Option.isSome_iff_exists.1 h.1
    have ih := run_places' w fs h.2
    simp only [List.mapM_cons, Sem.run_bind, run_sizeOf hf, Result.andThen_ok, Sem.run_pure, List.map_cons] at ih ⊢
    rw [ih]; rfl

theorem buildD_sound (hs : StR w0 gl ro k s a w) {t : TypeId} {ps : List (Nat × DV)} {vs : List Value} (hv : DV.iss k (ps.map (·.2)) vs) {parts : Array (Nat × Value)}
    (hp : parts.toList = (ps.map (·.1)).zip vs) (h : (buildD P s t ps).sat P Q B k.ρ k.G) : OpPostW w0 gl ro a Q k w ((Instr.build t parts).run P w) := by
  unfold buildD at h
  split at h
  · exact (sat_bad h).elim
  rename_i ho
  simp only [Bool.not_eq_true', Bool.not_eq_false] at ho
  split at h
  · exact (sat_bad h).elim
  rename_i z hz
  obtain ⟨i, zv, hi, hzv, _, hzl, _⟩ := zeroD_spec hz
  split at h
  · rename_i fs hu
    split at h
    · exact (sat_bad h).elim
    rename_i hall
    split at h
    · rename_i cs hf
      obtain ⟨cv, h1, h2⟩ := fillD_sound hs.ct.one hv (hzl k) hf ho
      refine post_of hs (mk_agg h2) h ?_
      have hm := run_places' (P := P) w fs.toList (by simpa [Option.isSome_iff_ne_none] using hall)
      simp only [Instr.build, Sem.run_bind, run_zeroD hi hzv, Result.andThen_ok, run_underlying hu, Array.mapM_eq_mapM_toList, Sem.run_map]
      rw [hm]
      simp only [Result.andThen_ok, hp]
      have hpl : (fun (x : Nat) => (List.map (fun (f : Field) => (f.offset, P.cellsOf f.type)) fs.toList).toArray[x]?) = (fun i => (fs[i]?).map fun f => (f.offset, P.cellsOf f.type)) := by
        funext x; simp
      rw [hpl, h1]
      simp
    · exact (sat_bad h).elim
  · rename_i e hu
    split at h
    · exact (sat_bad h).elim
    rename_i hall
    split at h
    · rename_i cs hf
      obtain ⟨cv, h1, h2⟩ := fillD_sound hs.ct.one hv (hzl k) hf ho
      refine post_of hs (mk_agg h2) h ?_
      have he : ∃ i, P.info? e = some i := Option.isSome_iff_exists.1 (by simpa [Option.isSome_iff_ne_none] using hall)
      simp [Instr.build, run_zeroD hi hzv, run_underlying hu, run_sizeOf he, hp, h1]
    · exact (sat_bad h).elim
  · exact (sat_bad h).elim

theorem rep_spec {α : Type} (n : Nat) (l : List α) (d : α) : rep n l = (List.range (n * l.length)).map fun i => l.getD (i % l.length) d := by
  induction n with
  | zero => simp [rep]
  | succ n ih =>
    simp only [rep, ih]
    rw [Nat.succ_mul, Nat.add_comm, List.range_add]
    simp only [List.map_append, List.map_map]
    congr 1
    · refine List.ext_getElem? fun i => ?_
      rw [List.getElem?_map]
      rcases Nat.lt_or_ge i l.length with hi | hi
      · simp [hi, Nat.mod_eq_of_lt hi, List.getD_eq_getElem?_getD]
      · simp [hi]
    · refine List.map_congr_left fun i _ => ?_
      simp

theorem rep_iss {n : Nat} {l : List DV} {vs : List Value} (h : DV.iss k l vs) : DV.iss k (rep n l) (rep n vs) := by
  induction n with
  | zero => exact DV.iss_nil
  | succ n ih => exact DV.iss_append h ih

theorem rep_one {n : Nat} {l : List DV} (h : allOne l = true) : allOne (rep n l) = true := by
  induction n with
  | zero => rfl
  | succ n ih => simp only [rep, allOne, List.all_append, Bool.and_eq_true] at *; exact ⟨h, ih⟩

/-- The cells of a row of zeros. -/
theorem zeros_spec (zc : Array Value) (n : Nat) : (Array.range (n * zc.size)).map (fun x => zc[x % zc.size]!) = (rep n zc.toList).toArray := by
  apply Array.ext'
  rw [Array.toList_map, Array.toList_range, rep_spec n zc.toList default]
  simp [List.getD_eq_getElem?_getD, getElem!_def]
  intro i _
  cases zc[i % zc.size]? <;> rfl

theorem run_loadG (hs : StR w0 gl ro k s a w) {t : TypeId} {a0 : Addr} {d : DV} {v : Value} (hd : d.is k v) (hcells : GCells k.G a0 v.cells.toList) (hok : memoOK P t d = true) :
    (Instr.loadAt t (.pointer (some a0))).run P w = .ok v w := by
  have hcell : ∀ (j : Nat) (u : Value), v.cells.toList[j]? = some u → w.cell? (a0.add j) = some u := by
    intro j u hu
    obtain ⟨c, e, fr, hG, hc, hsp⟩ := hcells j u hu
    have := (hs.heap.g _ _ hG).1
    simp [World.cell?, this, hsp, hc]
  have hrun := run_loadCells_list (P := P) w a0 _ hcell
  unfold memoOK at hok
  split at hok
  · rename_i l hagg
    obtain ⟨vs, rfl, hl⟩ := is_agg hd
    obtain ⟨dsc, hds, _⟩ := aggOf_spec hagg
    have hlen := hl.length
    have hok : l.length = P.cellsOf t := by simpa using hok
    have hll : (Value.agg vs.toArray).cells.toList.length = P.cellsOf t := by simp [Value.cells]; omega
    rw [hll] at hrun
    simp [Instr.loadAt, Instr.sureAddr, loadVar, run_isAgg hagg, run_sizeOf (underlying_info hds), hrun, Value.cells]
  · rename_i hagg
    have h1 : v.oneCell' = true := by rw [← hd.here]; exact oneD_one hs.ct.one hok
    have := hcell 0 v (by rw [cells_one h1]; rfl)
    have hz : a0.add 0 = a0 := by simp [Addr.add]
    rw [hz] at this
    simp [Instr.loadAt, Instr.sureAddr, loadVar, run_isAgg hagg, this]
  · simp at hok

/-- Loading from blocks that are known to stay. -/
theorem loadG_sound (hs : StR w0 gl ro k s a w) {t : TypeId} {r : Ref} {sh : Sh} (hag : (∃ l, sh = .agg l ∧ l.length = P.cellsOf t ∧ aggOf P t = some true) ∨ (aggOf P t = some false ∧ (sh.fresh s.ct).1.oneD = true))
    (h : (Tr.load r sh s (retv { s with ct := (sh.fresh s.ct).2, memo := (t, r, (sh.fresh s.ct).1) :: s.memo } (sh.fresh s.ct).1)).sat P Q B k.ρ k.G) {ad : Option Addr} (hr : r.is k ad) :
    OpPostW w0 gl ro a Q k w ((Instr.loadAt t (.pointer ad)).run P w) := by
  simp only [Tr.sat] at h
  obtain ⟨x, hfit, hx, hq⟩ := h
  obtain ⟨a0, ha0, hcells⟩ := hx k.β k.nx
  have : ad = some a0 := by rw [← hr k (K.le.refl k)]; exact ha0
  subst this
  have hle : k.le (k.app x k.G) := K.le_app k x (fun _ _ h => h)
  have hlate : HeapR w0 (k.app x k.G) s.heap w := by
    refine hs.heap.later (fun _ _ h => h) (fun b o hb => (hs.heap.g b o hb).1) (fun b o hb => .inl hb) ?_
    exact ⟨rfl, rfl, rfl, Nat.le_refl _, fun _ _ => rfl⟩
  have hfd := fresh_is hfit hs.ct k.G
  have hs' : StR w0 gl ro (k.app x k.G) { s with ct := (sh.fresh s.ct).2, memo := (t, r, (sh.fresh s.ct).1) :: s.memo } a w :=
    ⟨hs.nx, hfit.ctR hs.ct k.G, hs.pc.mono hle, hs.env.mono hle, hlate, hs.gl.mono hle, hs.marks, hs.marksLt, hs.rnd, hs.rndLt, fun t' r' d' hm => by
      rcases List.mem_cons.1 hm with hm | hm
      · cases hm; exact ⟨a0, _, hr.mono hle, hfd, hcells⟩
      · exact hs.memo.mono hle t' r' d' hm⟩
  refine ⟨_, (sh.fresh s.ct).1.den (k.app x k.G), (sh.fresh s.ct).1, _, ?_, hle, hs', hfd, hq⟩
  have hok : memoOK P t (sh.fresh s.ct).1 = true := by
    rcases hag with ⟨l, rfl, hl, hagg⟩ | ⟨hagg, hone⟩
    · have hlen : ((Sh.agg l).fresh s.ct).1 = .agg (Sh.freshL l s.ct).1 := by simp only [Sh.fresh]
      have hll : ∀ (l : List Sh) (c : Ctr), (Sh.freshL l c).1.length = l.length := by
        intro l
        induction l with
        | nil => intro c; simp [Sh.freshL]
        | cons y l ih => intro c; simp [Sh.freshL, ih]
      rw [hlen]
      simp [memoOK, hagg, hll, hl]
    · simp [memoOK, hagg, hone]
  exact run_loadG hs' hfd hcells hok

theorem Base.beq_eq {a b : Base} (h : a.beq b = true) : a = b := by
  cases a <;> cases b <;> simp_all [Base.beq]

theorem memoGet_spec {t : TypeId} {r : Ref} {d : DV} : ∀ {m : List (TypeId × Ref × DV)}, memoGet t r m = some d → ∃ u q, (u, q, d) ∈ m ∧ u = t ∧ q = r
  | [], h => by simp [memoGet] at h
  | (u, q, d') :: m, h => by
    simp only [memoGet] at h
    split at h
    · rename_i hc
      simp only [Bool.and_eq_true, beq_iff_eq] at hc
      simp only [Option.some.injEq] at h; subst h
      obtain ⟨⟨h1, h2⟩, h3⟩ := hc
      refine ⟨u, q, by simp, h1, ?_⟩
      obtain ⟨qb, qo⟩ := q
      obtain ⟨rb, ro⟩ := r
      simp only at h2 h3
      rw [Base.beq_eq h2, E.beq_eq h3]
    · obtain ⟨u', q', hm, h1⟩ := memoGet_spec h
      exact ⟨u', q', by simp [hm], h1⟩

theorem loadD_sound (hs : StR w0 gl ro k s a w) {t : TypeId} {x : DV} {v : Value} (hx : x.is k v) (h : (loadD P gl s t x).sat P Q B k.ρ k.G) :
    OpPostW w0 gl ro a Q k w ((Instr.loadAt t v).run P w) := by
  unfold loadD at h
  split at h
  · rename_i r
    obtain ⟨ad, rfl, hr⟩ := is_ptr hx
    split at h
    · rename_i cs hcs
      obtain ⟨b, o, vs, hra, hvs, hlen, hc⟩ := readCells_sound hs hcs
      have : ad = some ⟨b, o, none⟩ := by rw [← hr k (K.le.refl k), hra k (K.le.refl k)]
      subst this
      split at h
      · rename_i d hd
        obtain ⟨v, hrun, hv⟩ := run_loadVar (P := P) hd hvs hlen hc
        exact post_of hs hv h (by simp [Instr.loadAt, Instr.sureAddr, hrun])
      · exact (sat_bad h).elim
    · split at h
      · exact (sat_bad h).elim
      split at h
      · rename_i d hm
        split at h
        · rename_i hok
          obtain ⟨t', r', hmem, ht, hrr⟩ := memoGet_spec hm
          obtain ⟨a0, v, h1, h2, h3⟩ := hs.memo _ _ _ hmem
          subst ht; subst hrr
          have : ad = some a0 := by rw [← hr k (K.le.refl k), h1 k (K.le.refl k)]
          subst this
          exact post_of hs h2 h (run_loadG hs h2 h3 hok)
        · exact (sat_bad h).elim
      · split at h
        · rename_i sh hsh hagg
          split at h
          · exact (sat_bad h).elim
          · rename_i hsz
            exact loadG_sound hs (sh := .agg sh) (.inl ⟨sh, rfl, by simpa using hsz, hagg⟩) h hr
        · rename_i sh hsh hagg
          split at h
          · exact (sat_bad h).elim
          · rename_i ho
            exact loadG_sound hs (.inr ⟨hagg, by simpa using ho⟩) h hr
        · exact (sat_bad h).elim
  · exact (sat_bad h).elim
end
end Go.Sx
/- Operations (III): rows, stores, places, slices. -/
namespace Go.Sx
open Go.RowKit

section
variable {P : Program} {w0 : Fr} {gl : Glob} {ro : Option Nat} {k : K} {s : St} {a : Act} {w : World} {Q : Env → GS → Out → St → Prop} {B : Backs}

theorem map_range0 {α : Type} (f : Nat → α) : (Array.range 0).map f = #[] := by apply Array.ext'; simp

theorem elemT_spec {t e : TypeId} (h : elemT P t = some e) : P.underlying t = some (.slice e) := by
  unfold elemT at h
  split at h
  · simp only [Option.some.injEq] at h; subst h; assumption
  · simp at h

theorem buildSliceD_sound (hs : StR w0 gl ro k s a w) {t : TypeId} {n : Nat} {ps : List (Nat × DV)} {vs : List Value} (hv : DV.iss k (ps.map (·.2)) vs) {parts : Array (Nat × Value)}
    (hp : parts.toList = (ps.map (·.1)).zip vs) (h : (buildSliceD P s t n ps).sat P Q B k.ρ k.G) : OpPost w0 gl ro a Q k ((Instr.buildSlice t n parts).run P w) := by
  unfold buildSliceD at h
  split at h
  · exact (sat_bad h).elim
  rename_i ho
  simp only [Bool.not_eq_true', Bool.not_eq_false] at ho
  split at h
  · exact (sat_bad h).elim
  rename_i e he
  have hu := elemT_spec he
  split at h
  · exact (sat_bad h).elim
  rename_i z hz
  obtain ⟨i, zv, hi, hzv, _, hzl, hzn⟩ := zeroD_spec hz
  split at h
  · exact (sat_bad h).elim
  rename_i hsz
  have hsz : z.length = P.cellsOf e := by simpa using hsz
  split at h
  · rename_i cs hf
    split at h
    · rename_i hc
      simp only [Bool.and_eq_true, decide_eq_true_eq] at hc
      obtain ⟨cv, h1, h2⟩ := fillD_sound (cv := (rep n zv.cells.toList).toArray) hs.ct.one hv (by simpa using rep_iss (n := n) (hzl k)) hf ho
      have hst := post_row hs (e := e) (fun k' hle => h2.mono hle) hc.1
      have hzero : (Array.range (n * P.cellsOf e)).map (fun x => zv.cells[x % zv.cells.size]!) = (rep n zv.cells.toList).toArray := by
        have : P.cellsOf e = zv.cells.size := by omega
        rw [this]; exact zeros_spec _ _
      have hrun : (Instr.buildSlice t n parts).run P w = .ok (.slice (some ⟨w.heap.size, 0, none⟩) n n) { w with heap := w.heap.push (.cells cv.toList.toArray e) } := by
        have hlim : ¬ (n * P.cellsOf e > 2 ^ 24) := by omega
        simp only [Instr.buildSlice, Sem.run_bind, run_underlying hu, Result.andThen_ok, run_sizeOf ⟨i, hi⟩, if_neg hlim, Sem.run_pure]
        by_cases hz0 : n * P.cellsOf e = 0
        · simp only [if_pos hz0, Sem.run_bind, Sem.run_pure, Result.andThen_ok]
          have e0 : (rep n zv.cells.toList).toArray = #[] := by rw [← hzero, hz0]; exact map_range0 _
          rw [e0, ← hp] at h1
          rw [hz0]
          have e1 : (Array.range 0).map (fun x => (#[] : Array Value)[x % (#[] : Array Value).size]!) = #[] := map_range0 _
          rw [e1, h1]
          simp [newRow]
        · simp only [if_neg hz0, Sem.run_bind, run_zeroD hi hzv, Result.andThen_ok, Sem.run_pure]
          rw [hzero, hp, h1]
          simp [newRow]
      refine ⟨k.grow w.heap.size, _, .slice ⟨.id s.nx, .lit 0⟩ (.lit n) (.lit n), _, _, hrun, K.le_grow _ _, hst, ?_, h⟩
      rw [← hs.nx]
      intro k' hle
      simp only [DV.den, is_new k _ k' hle, E.ii]
      rfl
    · exact (sat_bad h).elim
  · exact (sat_bad h).elim

theorem buildSliceD_makes (hs : StR w0 gl ro k s a w) {t : TypeId} {n : Nat} {ps : List (Nat × DV)} {vs : List Value} (hv : DV.iss k (ps.map (·.2)) vs) {parts : Array (Nat × Value)}
    (hp : parts.toList = (ps.map (·.1)).zip vs) (h : (buildSliceD P s t n ps).sat P Q B k.ρ k.G) :
    ∃ (e : TypeId) (cs : List DV) (cv : List Value), buildSliceD P s t n ps = retv { s with heap := (s.nx, .row cs e) :: s.heap, nx := s.nx + 1 } (.slice ⟨.id s.nx, .lit 0⟩ (.lit n) (.lit n)) ∧ DV.iss k cs cv ∧ allOne cs = true ∧
      ∀ w' : World, (Instr.buildSlice t n parts).run P w' = .ok (.slice (some ⟨w'.heap.size, 0, none⟩) n n) { w' with heap := w'.heap.push (.cells cv.toArray e) } := by
  unfold buildSliceD at h ⊢
  split at h
  · exact (sat_bad h).elim
  rename_i ho
  rw [if_neg ho]
  simp only [Bool.not_eq_true', Bool.not_eq_false] at ho
  split at h
  · exact (sat_bad h).elim
  rename_i e he
  have hu := elemT_spec he
  split at h
  · exact (sat_bad h).elim
  rename_i z hz
  obtain ⟨i, zv, hi, hzv, _, hzl, hzn⟩ := zeroD_spec hz
  split at h
  · exact (sat_bad h).elim
  rename_i hsz
  simp only [he, hz]
  rw [if_neg hsz]
  have hsz : z.length = P.cellsOf e := by simpa using hsz
  split at h
  · rename_i cs hf
    split at h
    · rename_i hc
      rw [if_pos hc]
      simp only [Bool.and_eq_true, decide_eq_true_eq] at hc
      obtain ⟨cv, h1, h2⟩ := fillD_sound (cv := (rep n zv.cells.toList).toArray) hs.ct.one hv (by simpa using rep_iss (n := n) (hzl k)) hf ho
      have hzero : (Array.range (n * P.cellsOf e)).map (fun x => zv.cells[x % zv.cells.size]!) = (rep n zv.cells.toList).toArray := by
        have : P.cellsOf e = zv.cells.size := by omega
        rw [this]; exact zeros_spec _ _
      refine ⟨e, cs, cv.toList, rfl, h2, hc.1, fun w => ?_⟩
      have hlim : ¬ (n * P.cellsOf e > 2 ^ 24) := by omega
      simp only [Instr.buildSlice, Sem.run_bind, run_underlying hu, Result.andThen_ok, run_sizeOf ⟨i, hi⟩, if_neg hlim, Sem.run_pure]
      by_cases hz0 : n * P.cellsOf e = 0
      · simp only [if_pos hz0, Sem.run_bind, Sem.run_pure, Result.andThen_ok]
        have e0 : (rep n zv.cells.toList).toArray = #[] := by rw [← hzero, hz0]; exact map_range0 _
        rw [e0, ← hp] at h1
        rw [hz0]
        have e1 : (Array.range 0).map (fun x => (#[] : Array Value)[x % (#[] : Array Value).size]!) = #[] := map_range0 _
        rw [e1, h1]
        simp [newRow]
      · simp only [if_neg hz0, Sem.run_bind, run_zeroD hi hzv, Result.andThen_ok, Sem.run_pure]
        rw [hzero, hp, h1]
        simp [newRow]
    · exact (sat_bad h).elim
  · exact (sat_bad h).elim

theorem makeSliceD_sound (hs : StR w0 gl ro k s a w) {t : TypeId} {n c : DV} {nv cv : Value} (hn : n.is k nv) (hc : c.is k cv) (h : (makeSliceD P s t n c).sat P Q B k.ρ k.G) :
    OpPost w0 gl ro a Q k ((Instr.makeSlice t nv cv).run P w) := by
  unfold makeSliceD at h
  split at h
  · rename_i e kn n' kc c' he
    have hu := elemT_spec he
    obtain ⟨ni, rfl, hni⟩ := is_int hn
    obtain ⟨ci, rfl, hci⟩ := is_int hc
    split at h
    · rename_i nn cc z hnn hcc hz
      split at h
      · rename_i hb
        simp only [Bool.and_eq_true, decide_eq_true_eq, beq_iff_eq] at hb
        obtain ⟨⟨⟨hnc, hcm⟩, hby⟩, hsz⟩ := hb
        have e1 : ni = nn := by rw [← hni.here, (litNat_isI (k := k) hnn).here]
        have e2 : ci = cc := by rw [← hci.here, (litNat_isI (k := k) hcc).here]
        subst e1; subst e2
        obtain ⟨i, zv, hi, hzv, ho, hzl, hzn⟩ := zeroD_spec hz
        have hst := post_row hs (e := e) (fun k' _ => rep_iss (n := cc) (hzl k')) (rep_one ho)
        have hbytes : P.bytesOf e = i.bytes := by simp [Program.bytesOf, hi]
        rw [hbytes] at hby
        have hzero : (Array.range (cc * P.cellsOf e)).map (fun x => zv.cells[x % zv.cells.size]!) = (rep cc zv.cells.toList).toArray := by
          have : P.cellsOf e = zv.cells.size := by omega
          rw [this]; exact zeros_spec _ _
        have w1 : IntKind.i64.wrap (nn : Int) = nn := by
          rw [IntKind.wrap_i64]; omega
        have w2 : IntKind.i64.wrap (cc : Int) = cc := by
          rw [IntKind.wrap_i64]; omega
        have hmul : (i.bytes : Int) * cc ≤ 2 ^ 48 := by
          have : i.bytes * cc ≤ 65536 * 1000000 := Nat.mul_le_mul hby hcm
          omega
        have hrun : (Instr.makeSlice t (.int kn nn) (.int kc cc)).run P w = .ok (.slice (some ⟨w.heap.size, 0, none⟩) nn cc) { w with heap := w.heap.push (.cells (rep cc zv.cells.toList).toArray e) } := by
          simp only [Instr.makeSlice, Sem.run_bind, run_underlying hu, Result.andThen_ok, asInt, asIntOf, Sem.run_pure, run_typeInfo hi, w1, w2]
          have c1 : ¬ ((cc : Int) < 0) := by omega
          have c2 : ¬ ((i.bytes : Int) * cc > 2 ^ 48) := by omega
          have c3 : ¬ ((nn : Int) < 0) := by omega
          have c4 : ¬ ((nn : Int) > cc) := by omega
          simp only [c1, c2, c3, c4, decide_false, Bool.or_false, Bool.false_eq_true, if_false, Sem.run_bind, run_askRoom, Result.andThen_ok, run_sizeOf ⟨i, hi⟩, Int.toNat_natCast]
          by_cases hz0 : cc * P.cellsOf e = 0
          · simp only [if_pos hz0, Sem.run_bind, Sem.run_pure, Result.andThen_ok]
            have e0 : (rep cc zv.cells.toList).toArray = #[] := by rw [← hzero, hz0]; exact map_range0 _
            rw [e0, hz0, map_range0]
            simp [newRow]
          · simp only [if_neg hz0, Sem.run_bind, run_zeroD hi hzv, Result.andThen_ok, Sem.run_pure]
            rw [hzero]
            simp [newRow]
        refine ⟨k.grow w.heap.size, _, .slice ⟨.id s.nx, .lit 0⟩ (.lit nn) (.lit cc), _, _, hrun, K.le_grow _ _, hst, ?_, h⟩
        rw [← hs.nx]
        intro k' hle
        simp only [DV.den, is_new k _ k' hle, E.ii]
        rfl
      · exact (sat_bad h).elim
    · exact (sat_bad h).elim
  · exact (sat_bad h).elim
end
end Go.Sx
/- Operations (IV): stores, places, parts, indices, slices. -/
namespace Go.Sx
open Go.RowKit

def OpPostU (w0 : Fr) (gl : Glob) (ro : Option Nat) (a : Act) (Q : Env → GS → Out → St → Prop) (k : K) (r : Result Unit) : Prop :=
  ∃ k' s' w', r = .ok () w' ∧ k.le k' ∧ StR w0 gl ro k' s' a w' ∧ Q k'.ρ k'.G (.val undefD) s'

section
variable {P : Program} {w0 : Fr} {gl : Glob} {ro : Option Nat} {k : K} {s : St} {a : Act} {w : World} {Q : Env → GS → Out → St → Prop} {B : Backs}

theorem take_upd {l new : List Value} {off n : Nat} (h : off + new.length ≤ n) (hn : n ≤ l.length) :
    (l.take off ++ new ++ l.drop (off + new.length)).take n = (l.take n).take off ++ new ++ (l.take n).drop (off + new.length) := by
  have h1 : (l.take off).length = off := by simp; omega
  rw [List.take_append_of_le_length (l₁ := l.take off ++ new ++ l.drop (off + new.length)) (l₂ := []) (by simp; omega) |>.symm]
  simp only [List.append_nil]
  rw [List.take_append, List.take_append, List.take_of_length_le (l := l.take off) (by omega), List.take_of_length_le (l := new) (by omega), List.take_take, List.drop_take]
  congr 1
  · congr 2
    omega
  · congr 1
    simp only [List.length_append, h1]

theorem storeD_sound (hs : StR w0 gl ro k s a w) {t : TypeId} {x v : DV} {xv vv : Value} (hx : x.is k xv) (hv : v.is k vv) (h : (storeD P s t x v).sat P Q B k.ρ k.G) :
    OpPostU w0 gl ro a Q k ((Instr.storeAt t xv vv).run P w) := by
  unfold storeD at h
  split at h
  · rename_i r
    obtain ⟨ad, rfl, hr⟩ := is_ptr hx
    split at h
    · rename_i hc
      simp only [Bool.and_eq_true, beq_iff_eq] at hc
      obtain ⟨⟨hlen, hinfo⟩, hone⟩ := hc
      have hcl := cellsL_sound hs.ct.one hone hv
      have hones := allOne_one hs.ct.one hone hcl
      split at h
      · rename_i s' hw
        unfold writeCells at hw
        split at hw
        · rename_i i off hb ho
          split at hw
          · rename_i cs e m hg
            simp only [Option.map_eq_some_iff] at hw
            obtain ⟨cs', hset, rfl⟩ := hw
            obtain ⟨hfit, rfl⟩ := setAt_spec hset
            obtain ⟨hi, ob, hob, vs, rfl, hle, hvs, hm, hvo⟩ := hs.heap.obj _ _ hg
            have hncl := hcl.length
            have had : ad = some ⟨k.β i, off, none⟩ := by
              rw [← hr k (K.le.refl k)]
              simp [Ref.den, hb, Base.den, (litNat_isI (k := k) ho).here, add_plain]
            subst had
            have hsize : vv.cells.size = P.cellsOf t := by simp at hncl; omega
            have hst := run_storeCells_at (P := P) (k.β i) off e vv.cells.toList 0 vs.toArray w hob (by simp; simp at hncl; omega) hones
            simp only [Nat.add_zero] at hst
            have hrun : (Instr.storeAt t (.pointer (some ⟨k.β i, off, none⟩)) vv).run P w = .ok () (w.setRow (k.β i) (vs.take off ++ vv.cells.toList ++ vs.drop (off + vv.cells.toList.length)).toArray) := by
              simp only [Instr.storeAt, Instr.sureAddr, storeVar, Sem.run_bind, Sem.run_pure, Result.andThen_ok, run_sizeOf (Option.isSome_iff_exists.1 hinfo), hsize, ne_eq, not_true_eq_false, if_false]
              simpa using hst
            refine ⟨k, _, _, hrun, K.le.refl k, ?_, h⟩
            refine hs.upd (hs.heap.upd (ob := .cells (vs.take off ++ vv.cells.toList ++ vs.drop (off + vv.cells.toList.length)).toArray e (0, 0)) ⟨_, hg, rfl⟩ ?_ ?_ ?_ ?_ ?_ ?_ ?_)
            · have hll : (cs.take off ++ v.cellsL ++ cs.drop (off + v.cellsL.length)).length = cs.length := by simp; omega
              refine ⟨_, rfl, ?_, ?_, ?_, ?_⟩
              · simp at hncl; simp; omega
              · rw [hll, take_upd (by rw [hncl]; exact hfit) hle, hncl]
                exact DV.iss_append (DV.iss_append (DV.iss_take hvs _) hcl) (DV.iss_drop hvs _)
              · have : (vs.take off ++ vv.cells.toList ++ vs.drop (off + vv.cells.toList.length)).length = vs.length := by simp at hncl; simp; omega
                rw [this]; exact hm
              · rw [hll, take_upd (by rw [hncl]; exact hfit) hle]
                intro u hu
                simp only [List.mem_append] at hu
                rcases hu with (hu | hu) | hu
                · exact hvo u (List.mem_of_mem_take hu)
                · exact hones u hu
                · exact hvo u (List.mem_of_mem_drop hu)
            · exact setRow_heap w _ _ _ _ _ hob
            · intro b hb; exact setRow_other w _ _ _ hb
            · simp [World.setRow]
            · rfl
            · rfl
            · rfl
          · simp at hw
        · simp at hw
      · exact (sat_bad h).elim
    · exact (sat_bad h).elim
  · exact (sat_bad h).elim

theorem nonneg_sound {pc : List (E × Bool)} (h : PcR k pc) : ∀ {e : E}, nonneg pc e = true → ∀ k', k.le k' → 0 ≤ e.ii k'.ρ := by
  have base : ∀ {e : E}, (decideE pc (.o2 .le (.lit 0) e) == some true) = true → ∀ k', k.le k' → 0 ≤ e.ii k'.ρ := by
    intro e he k' hle
    have := decideE_sound h (by simpa using he) k' hle
    simp only [E.bb, E.ii] at this
    exact of_decide_eq_true this
  intro e
  induction e with
  | lit n => intro g k' _; simpa [nonneg, E.ii] using g
  | o1 o a ih =>
    intro g
    cases o with
    | len => intro k' _; simp [E.ii]
    | _ => exact base g
  | o2 o a b iha ihb =>
    intro g
    cases o with
    | add => intro k' hle; simp only [nonneg, Bool.and_eq_true] at g; simp only [E.ii]; have := iha g.1 k' hle; have := ihb g.2 k' hle; omega
    | mul => intro k' hle; simp only [nonneg, Bool.and_eq_true] at g; simp only [E.ii]; exact Int.mul_nonneg (iha g.1 k' hle) (ihb g.2 k' hle)
    | _ => exact base g
  | vv o j =>
    intro g
    cases o with
    | slen => intro k' _; simp only [E.ii, ovI]; split <;> simp
    | scap => intro k' _; simp only [E.ii, ovI]; split <;> simp
    | _ => exact base g
  | _ => intro g; exact base g

theorem add_add (a : Addr) (m n : Nat) : (a.add m).add n = a.add (m + n) := by
  unfold Addr.add
  by_cases hm : m = 0 <;> by_cases hn : n = 0 <;> simp [hm, hn, Nat.add_assoc]

/-- A place further on. -/
theorem sat_plusD (hs : StR w0 gl ro k s a w) {r : Ref} {n : E} {f : Ref → Tr} (h : (plusD s r n f).sat P Q B k.ρ k.G) {ad : Option Addr} (hr : r.is k ad) {m : Int} (hn : n.isI k m) :
    (f (r.plus n)).sat P Q B k.ρ k.G ∧ 0 ≤ m ∧ (r.plus n).is k (ad.map (·.add m.toNat)) := by
  unfold plusD at h
  split at h
  · rename_i hc
    simp only [Bool.and_eq_true] at hc
    refine ⟨h, by rw [← hn.here]; exact nonneg_sound hs.pc hc.2 k (K.le.refl k), fun k' hle => ?_⟩
    have h1 := nonneg_sound hs.pc hc.1 k' hle
    have h2 := nonneg_sound hs.pc hc.2 k' hle
    have h3 := hn k' hle
    rw [← hr k' hle]
    simp only [Ref.den, Ref.plus, mk2_ii _ _ _ _ (show O2.add ≠ .and by simp) (show O2.add ≠ .or by simp), E.ii, Option.map_map]
    congr 1
    funext x
    simp only [Function.comp, add_add]
    congr 1
    omega
  · exact (sat_bad h).elim

/-- A place that has a block. -/
theorem hasBase_some {r : Ref} {ad : Option Addr} (hr : r.is k ad) (h : (hasBase r).isB k true) : ∃ a, ad = some a := by
  have h0 := hr k (K.le.refl k)
  have hb := h.here
  unfold hasBase at hb
  unfold Ref.den at h0
  cases hbase : r.base with
  | id i => rw [hbase] at h0; simp [Base.den] at h0; exact ⟨_, h0.symm⟩
  | at_ i => rw [hbase] at h0; simp [Base.den] at h0; exact ⟨_, h0.symm⟩
  | av j => rw [hbase] at hb; simp [E.bb] at hb
  | rv j =>
    rw [hbase] at hb h0
    simp only [E.bb, List.getD_eq_getElem?_getD] at hb
    simp only [Base.den] at h0
    cases hv : k.ρ.v[j]? with
    | none => rw [hv] at hb; simp [ovB] at hb
    | some u =>
      rw [hv] at hb h0
      cases u with
      | slice b n c => cases b with
        | none => simp [ovB] at hb
        | some b => simp at h0; exact ⟨_, h0.symm⟩
      | _ => simp [ovB] at hb

theorem isB_hasBase {r : Ref} {ad : Option Addr} (hr : r.is k ad) : ∃ b, (hasBase r).isB k b := by
  unfold hasBase
  cases hbase : r.base with
  | id i => exact ⟨_, isB_lit _⟩
  | at_ i => exact ⟨_, isB_lit _⟩
  | av j => exact ⟨_, isB_lit _⟩
  | rv j =>
    refine ⟨ad.isSome, fun k' hle => ?_⟩
    have h0 := hr k' hle
    rw [← h0]
    simp only [Ref.den, hbase, Base.den, E.bb, List.getD_eq_getElem?_getD]
    cases k'.ρ.v[j]? with
    | none => simp [ovB]
    | some u =>
      cases u with
      | slice b n c => cases b <;> simp [ovB]
      | _ => simp [ovB]

theorem fieldAddrD_sound (hs : StR w0 gl ro k s a w) {t : TypeId} {x : DV} {f : Nat} {v : Value} (hx : x.is k v) (h : (fieldAddrD P s t x f).sat P Q B k.ρ k.G) :
    OpPostW w0 gl ro a Q k w ((Instr.fieldAt t v f).run P w) := by
  unfold fieldAddrD at h
  split at h
  · rename_i r
    obtain ⟨ad, rfl, hr⟩ := is_ptr hx
    split at h
    · rename_i fd hfd
      obtain ⟨fs, hfs, hget⟩ : ∃ fs, P.underlying t = some (.struct fs) ∧ fs[f]? = some fd := by
        simp only [fieldsOf, Option.bind_eq_some_iff] at hfd
        obtain ⟨fs, h1, h2⟩ := hfd
        split at h1
        · simp only [Option.some.injEq] at h1; subst h1; exact ⟨_, by assumption, h2⟩
        · simp at h1
      split at h
      · exact (sat_bad h).elim
      · rename_i hne
        have hne : P.cellsOf fd.type ≠ 0 := by simpa using hne
        have hi : ∃ i, P.info? fd.type = some i := by
          unfold Program.cellsOf at hne
          cases hi : P.info? fd.type with
          | none => simp [hi] at hne
          | some i => exact ⟨i, rfl⟩
        obtain ⟨p, hp, hc, h⟩ := sat_oblige hs (isB_hasBase hr) h
        obtain ⟨a0, rfl⟩ := hasBase_some hr hc
        obtain ⟨h, _, hr'⟩ := sat_plusD (hs.withPc hp) h hr (isI_lit _)
        refine post_of (hs.withPc hp) (mk_ptr hr') h ?_
        simp [Instr.fieldAt, run_underlying hfs, hget, Instr.sureAddr, fieldPlace, run_sizeOf hi, hne]
    · exact (sat_bad h).elim
  · exact (sat_bad h).elim

theorem run_part {t : TypeId} {cs : List DV} {d : DV} {vs : List Value} {off : Nat} {all : List DV} (hall : DV.iss k all vs) (ht : takeAt all off (P.cellsOf t) = some cs) (h : oneOf P t cs = some d) :
    ∃ v, (part t vs.toArray off).run P w = .ok v w ∧ d.is k v := by
  have hcs := takeAt_iss ht hall
  obtain ⟨b, hb, h1, h2⟩ := oneOf_sound (P := P) h hcs (.inr trivial)
  obtain ⟨dsc, hd, _⟩ := aggOf_spec hb
  cases b with
  | true =>
    refine ⟨_, ?_, h1 rfl⟩
    simp only [part, Sem.run_bind, run_isAgg hb, Result.andThen_ok, if_true, run_sizeOf (underlying_info hd), Sem.run_pure]
    congr 2
    apply Array.ext'
    simp [List.extract_eq_take_drop]
  | false =>
    obtain ⟨v, hv, hdv⟩ := h2 rfl
    refine ⟨v, ?_, hdv⟩
    have hget : vs[off]? = some v := by
      have := congrArg (fun l : List Value => l[0]?) hv
      simp only [List.getElem?_take] at this
      split at this
      · simpa using this
      · simp at this
    simp [part, run_isAgg hb, hget]

theorem fieldD_sound (hs : StR w0 gl ro k s a w) {t : TypeId} {x : DV} {f : Nat} {v : Value} (hx : x.is k v) (h : (fieldD P s t x f).sat P Q B k.ρ k.G) :
    OpPostW w0 gl ro a Q k w ((Instr.field t v f).run P w) := by
  unfold fieldD at h
  split at h
  · rename_i l
    obtain ⟨vs, rfl, hl⟩ := is_agg hx
    split at h
    · rename_i fd hfd
      obtain ⟨fs, hfs, hget⟩ : ∃ fs, P.underlying t = some (.struct fs) ∧ fs[f]? = some fd := by
        simp only [fieldsOf, Option.bind_eq_some_iff] at hfd
        obtain ⟨fs, h1, h2⟩ := hfd
        split at h1
        · simp only [Option.some.injEq] at h1; subst h1; exact ⟨_, by assumption, h2⟩
        · simp at h1
      split at h
      · rename_i cs hcs
        split at h
        · rename_i d hd
          obtain ⟨v, hrun, hv⟩ := run_part (P := P) (w := w) hl hcs hd
          exact post_of hs hv h (by simp [Instr.field, run_underlying hfs, hget, asAgg, hrun])
        · exact (sat_bad h).elim
      · exact (sat_bad h).elim
    · exact (sat_bad h).elim
  · exact (sat_bad h).elim
end
end Go.Sx
