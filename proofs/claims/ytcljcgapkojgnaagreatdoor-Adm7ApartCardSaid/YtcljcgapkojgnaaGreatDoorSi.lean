/- Operations (VII): picks, maps, iterators, type assertions, lengths, conversions. -/
import Derived.Test.YtcljcgapkojgnaaGreatDoorSh
set_option linter.unusedSimpArgs false
set_option linter.unusedVariables false
namespace Go.Sx
open Go.RowKit

section
variable {P : Program} {w0 : Fr} {gl : Glob} {ro : Option Nat} {k : K} {s : St} {a : Act} {w : World} {Q : Env → GS → Out → St → Prop} {B : Backs}

theorem gdOpd_sound (hs : StR w0 gl ro k s a w) {pc : List (E × Bool)} (hp : PcR k pc) {x : Operand} {d : DV} (h : gdOpd s pc x = some d) : d.is k (a.eval x) := by
  cases x with
  | tmp t =>
    simp only [gdOpd, Option.map_eq_some_iff] at h
    obtain ⟨d0, h0, rfl⟩ := h
    exact strip_sound hp (St.get_sound hs h0).2
  | _ => exact opd_sound hs h

theorem post_op (hs : StR w0 gl ro k s a w) {x : Operand} (h : (withOp s x (retv s)).sat P Q B k.ρ k.G) : OpPostW w0 gl ro a Q k w (.ok (a.eval x) w) := by
  obtain ⟨d, hd, h⟩ := sat_withOp h
  exact post_of hs (opd_sound hs hd) h rfl

theorem pickD_sound (hs : StR w0 gl ro k s a w) {c x y : Operand} (h : (pickD s c x y).sat P Q B k.ρ k.G) :
    OpPostW w0 gl ro a Q k w ((do pure (if ← asBool (a.eval c) then a.eval x else a.eval y) : Sem Value).run P w) := by
  unfold pickD at h
  obtain ⟨d, hd, h⟩ := sat_withOp h
  have hc := opd_sound hs hd
  split at h
  · rename_i e
    obtain ⟨b, hv, hb⟩ := is_bool hc
    have hrun : (do pure (if ← asBool (a.eval c) then a.eval x else a.eval y) : Sem Value).run P w = .ok (if b then a.eval x else a.eval y) w := by
      rw [hv]; simp [asBool]
    rw [hrun]
    split at h
    · rename_i hdec
      have := isB_true hb (decideE_sound hs.pc hdec)
      subst this
      exact post_op hs h
    · rename_i hdec
      have : b = false := by rw [← hb.here, (decideE_sound hs.pc hdec).here]
      subst this
      exact post_op hs h
    · have ht : b = true → ∀ {d}, gdOpd s (assume e true s.pc) x = some d → d.is k (a.eval x) := fun h1 d h2 => by
        subst h1; exact gdOpd_sound hs (assume_sound hs.pc hb) h2
      have hf : b = false → ∀ {d}, gdOpd s (assume e false s.pc) y = some d → d.is k (a.eval y) := fun h1 d h2 => by
        subst h1; exact gdOpd_sound hs (assume_sound hs.pc hb) h2
      have hbr : ∀ {h : Tr}, h = branch s e (fun s => withOp s x (retv s)) (fun s => withOp s y (retv s)) → h.sat P Q B k.ρ k.G → OpPostW w0 gl ro a Q k w (.ok (if b then a.eval x else a.eval y) w) := by
        intro t ht h
        subst ht
        obtain ⟨p, hp, hh⟩ := sat_branch hs ⟨b, hb⟩ h
        rcases hh with ⟨h1, h2⟩ | ⟨h1, h2⟩
        · have := isB_true hb h1
          subst this
          exact post_op (hs.withPc hp) h2
        · have : b = false := by rw [← hb.here, h1.here]
          subst this
          exact post_op (hs.withPc hp) h2
      split at h
      · rename_i u v hx hy
        cases b with
        | true =>
          obtain ⟨n, hn, hu⟩ := is_bool (ht rfl hx)
          refine post_of hs (v := a.eval x) (by rw [hn]; exact mk_bool fun k' g => by rw [mkIte_bb, hb k' g, hu k' g]; rfl) h rfl
        | false =>
          obtain ⟨n, hn, hu⟩ := is_bool (hf rfl hy)
          refine post_of hs (v := a.eval y) (by rw [hn]; exact mk_bool fun k' g => by rw [mkIte_bb, hb k' g, hu k' g]; rfl) h rfl
      · rename_i t1 u t2 v hx hy
        split at h
        · rename_i hk
          have hk : t1 = t2 := by simpa using hk
          subst hk
          cases b with
          | true =>
            obtain ⟨n, hn, hu⟩ := is_int (ht rfl hx)
            refine post_of hs (v := a.eval x) (by rw [hn]; exact mk_int fun k' g => by simp only [E.ii, hb k' g, hu k' g]; rfl) h rfl
          | false =>
            obtain ⟨n, hn, hu⟩ := is_int (hf rfl hy)
            refine post_of hs (v := a.eval y) (by rw [hn]; exact mk_int fun k' g => by simp only [E.ii, hb k' g, hu k' g]; rfl) h rfl
        · exact (sat_bad h).elim
      · rename_i u v hx hy
        cases b with
        | true =>
          obtain ⟨n, hn, hu⟩ := is_str (ht rfl hx)
          refine post_of hs (v := a.eval x) (by rw [hn]; exact mk_str fun k' g => by simp only [E.ss, hb k' g, hu k' g]; rfl) h rfl
        | false =>
          obtain ⟨n, hn, hu⟩ := is_str (hf rfl hy)
          refine post_of hs (v := a.eval y) (by rw [hn]; exact mk_str fun k' g => by simp only [E.ss, hb k' g, hu k' g]; rfl) h rfl
      · exact hbr rfl h
  · exact (sat_bad h).elim

theorem zeroV_sound {t : TypeId} {z : DV} (h : zeroV P t = some z) : ∃ zv, (zeroValue t).run P w = .ok zv w ∧ ∀ k, z.is k zv := by
  simp only [zeroV, Option.bind_eq_some_iff] at h
  obtain ⟨zv, ⟨i, hi, hz⟩, ho⟩ := h
  exact ⟨zv, run_zeroD hi hz, fun k k' _ => ofValue_sound k' _ _ ho⟩

theorem extractD_sound (hs : StR w0 gl ro k s a w) {d : DV} {v : Value} (hd : d.is k v) {i : Nat}
    (h : (extractD s i d).sat P Q B k.ρ k.G) :
    OpPostW w0 gl ro a Q k w ((Instr.extract v i).run P w) := by
  unfold extractD at h
  split at h
  · rename_i l hd
    obtain ⟨vs, rfl, hl⟩ := is_tup hd
    split at h
    · rename_i d hi
      obtain ⟨v, hv, hdv⟩ := hl.get hi
      exact post_of hs hdv h (by simp [Instr.extract, hv])
    · exact (sat_bad h).elim
  · exact (sat_bad h).elim

theorem makeInterfaceD_sound (hs : StR w0 gl ro k s a w) {t : TypeId} {d : DV} {v : Value} (hd : d.is k v)
    (h : (match P.underlying t with | some (.interface _) => bad "makeInterface" | some _ => retv s (.iface t d) | none => bad "makeInterface" : Tr).sat P Q B k.ρ k.G) :
    OpPostW w0 gl ro a Q k w ((Instr.makeInterface t v).run P w) := by
  split at h
  · exact (sat_bad h).elim
  · rename_i dsc hne hu
    refine post_of hs (mk_iface hd) h ?_
    simp only [Instr.makeInterface, Sem.run_bind, run_underlying hu, Result.andThen_ok]
    cases dsc <;> first | rfl | exact absurd rfl (hne _)
  · exact (sat_bad h).elim

theorem nilCheckD_sound (hs : StR w0 gl ro k s a w) {d : DV} {v : Value} (hd : d.is k v) (h : (nilCheckD s d).sat P Q B k.ρ k.G) : ∃ u, OpPostW w0 gl ro a Q k w (.ok u w) ∧ u = v ∧ v ≠ .pointer none ∧ v ≠ .nilIface ∧ v ≠ .nilFunc ∧ ∀ n x y, v ≠ .func (.method n) x y := by
  unfold nilCheckD at h
  split at h
  · rename_i r hd
    obtain ⟨ad, rfl, hr⟩ := is_ptr hd
    obtain ⟨p, hp, hc, h⟩ := sat_oblige hs (isB_hasBase hr) h
    obtain ⟨a0, rfl⟩ := hasBase_some hr hc
    exact ⟨_, post_of (hs.withPc hp) hd h rfl, rfl, by simp, by simp, by simp, by simp⟩
  · rename_i hd
    obtain ⟨_, _, rfl, _, _⟩ := is_fn hd
    exact ⟨_, post_of hs hd h rfl, rfl, by simp, by simp, by simp, by simp⟩
  · rename_i hd
    obtain ⟨_, rfl, _⟩ := is_iface hd
    exact ⟨_, post_of hs hd h rfl, rfl, by simp, by simp, by simp, by simp⟩
  · exact (sat_bad h).elim

theorem rangeD_sound (hs : StR w0 gl ro k s a w) {t : TypeId} {d : DV} {v : Value} (hd : d.is k v)
    (h : (rangeD P s t d).sat P Q B k.ρ k.G) :
    OpPost w0 gl ro a Q k ((Instr.range t v).run P w) := by
  unfold rangeD at h
  split at h
  · rename_i e hu
    obtain ⟨sv, rfl, hsv⟩ := is_str hd
    have hle := K.le_grow k w.heap.size
    have hst := hs.new (o := .siter e (.lit 0)) (ob := .stringIter sv 0) ⟨sv, 0, rfl, hsv.mono hle, isI_lit _⟩ rfl
    refine ⟨k.grow w.heap.size, .pointer (some ⟨w.heap.size, 0, none⟩), .ptr ⟨.id s.nx, .lit 0⟩, _, _, ?_, hle, hst, ?_, h⟩
    · simp [Instr.range, run_underlying hu]
    · rw [← hs.nx]; exact mk_ptr (is_new k _)
  · exact (sat_bad h).elim

theorem makeMapD_sound (hs : StR w0 gl ro k s a w) {t : TypeId} {r : Option Operand}
    (hr : makeMapOK P s t r = true)
    (h : (retv { s with heap := (s.nx, .map []) :: s.heap, nx := s.nx + 1 } (.map s.nx)).sat P Q B k.ρ k.G) :
    OpPost w0 gl ro a Q k ((Instr.makeMap t (r.map a.eval)).run P w) := by
  have hle := K.le_grow k w.heap.size
  have hst := hs.new (o := .map []) (ob := .map #[] 0) ⟨#[], 0, rfl, DV.iss_nil, DV.iss_nil⟩ rfl
  refine ⟨k.grow w.heap.size, .map (some w.heap.size), .map s.nx, _, _, ?_, hle, hst, ?_, h⟩
  · cases r with
    | none => simp [Instr.makeMap]
    | some x =>
      simp only [makeMapOK] at hr
      split at hr
      · rename_i hu hx
        obtain ⟨n, hn, _⟩ := is_int (opd_sound hs hx)
        simp [Instr.makeMap, run_underlying hu, hn, asInt, asIntOf]
      · simp at hr
  · intro k' hg
    simp only [DV.den]
    rw [← hs.nx, hg.β _ (Nat.lt_succ_self _)]
    simp [K.grow]

theorem typeAssertD_sound (hs : StR w0 gl ro k s a w) {xT t : TypeId} {ok : Bool} {d : DV} {v : Value} (hd : d.is k v) (h : (typeAssertD P s d t ok).sat P Q B k.ρ k.G) :
    OpPostW w0 gl ro a Q k w ((Instr.typeAssert v xT t ok).run P w) := by
  have hh : ∀ {d : DV} {v : Value}, d.is k v → (retv s (if ok then .tup [d, .bool (.bl true)] else d)).sat P Q B k.ρ k.G →
      OpPostW w0 gl ro a Q k w ((pure (if ok then .tuple #[v, .bool true] else v) : Sem Value).run P w) := by
    intro d v hd h
    refine post_of hs ?_ h rfl
    cases ok with
    | false => exact hd
    | true => exact mk_tup (DV.iss_cons hd (DV.iss_cons (mk_bool (isB_lit true)) DV.iss_nil))
  have hf : ∀ {st dy : Option TypeId} {m : String}, (if ok then match zeroV P t with | some z => retv s (.tup [z, .bool (.bl false)]) | none => bad "typeAssert: zero" else bad "typeAssert: panics" : Tr).sat P Q B k.ρ k.G →
      OpPostW w0 gl ro a Q k w ((if ok then (do let z ← zeroValue t; pure (.tuple #[z, .bool false])) else runtimePanic (.typeAssertion st dy t m) : Sem Value).run P w) := by
    intro st dy m h2
    clear h
    have h := h2
    clear h2
    split at h
    · rename_i hok
      subst hok
      split at h
      · rename_i z hz
        obtain ⟨zv, hrz, hzv⟩ := zeroV_sound (w := w) hz
        refine post_of hs (mk_tup (DV.iss_cons (hzv k) (DV.iss_cons (mk_bool (isB_lit false)) DV.iss_nil))) h ?_
        simp [hrz]
      · exact (sat_bad h).elim
    · exact (sat_bad h).elim
  unfold typeAssertD at h
  simp only at h
  split at h
  · rename_i ms hd
    have hu : P.underlying t = some (.interface ms) := by assumption
    cases nilif_is hd
    have := hf (st := none) (dy := none) (m := "") h
    simpa [Instr.typeAssert, run_underlying hu] using this
  · rename_i want tt vv hd
    have hu : P.underlying t = some (.interface want) := by assumption
    obtain ⟨u, rfl, hu'⟩ := is_iface hd
    split at h
    · rename_i i hi
      split at h
      · rename_i hm
        have := hh hd h
        simpa [Instr.typeAssert, run_underlying hu, run_typeInfo hi, hm] using this
      · rename_i m hm
        have := hf (st := none) (dy := some tt) (m := m) h
        simpa [Instr.typeAssert, run_underlying hu, run_typeInfo hi, hm] using this
    · exact (sat_bad h).elim
  · rename_i dsc h1 h2 hu
    have hd : DV.nilif.is k v := by assumption
    cases nilif_is hd
    have := hf (st := some xT) (dy := none) (m := "") h
    cases dsc <;> first | exact (h2 _ rfl).elim | exact (h2 _ rfl rfl).elim | simpa [Instr.typeAssert, run_underlying hu] using this
  · rename_i dsc tt vv h2 hu
    have hd : (DV.iface tt vv).is k v := by assumption
    obtain ⟨u, rfl, hu'⟩ := is_iface hd
    split at h
    · rename_i he
      have he : tt = t := by simpa using he
      have := hh hu' h
      cases dsc <;> first | exact (h2 _ rfl).elim | exact (h2 _ rfl rfl).elim | simpa [Instr.typeAssert, run_underlying hu, he] using this
    · rename_i he
      have he : tt ≠ t := by simpa using he
      have := hf (st := some xT) (dy := some tt) (m := "") h
      cases dsc <;> first | exact (h2 _ rfl).elim | exact (h2 _ rfl rfl).elim | simpa [Instr.typeAssert, run_underlying hu, he] using this
  · exact (sat_bad h).elim
end
end Go.Sx
/- Operations (VIII): maps, iterators, lengths. -/
namespace Go.Sx
open Go.RowKit

section
variable {P : Program} {w0 : Fr} {gl : Glob} {ro : Option Nat} {k : K} {s : St} {a : Act} {w : World} {Q : Env → GS → Out → St → Prop} {B : Backs}

theorem toList_inj {p q : ByteArray} (h : p.toList = q.toList) : p = q := by
  rw [ByteArray.toList_eq, ByteArray.toList_eq] at h
  obtain ⟨⟨x⟩⟩ := p
  obtain ⟨⟨y⟩⟩ := q
  simp only at h
  rw [h]

theorem keyEq_sound {kind : TypeDesc} {x y : DV} {e : E} {v u : Value} (hx : x.is k v) (hy : y.is k u) (h : keyEq kind x y = some e) :
    ∃ b, e.isB k b ∧ Instr.sameNow kind v u = some b ∧ (b = true → v = u) := by
  unfold keyEq at h
  split at h
  · obtain ⟨p, rfl, hp⟩ := is_int hx
    obtain ⟨q, rfl, hq⟩ := is_int hy
    split at h
    · rename_i hk
      have hk := beq_iff_eq.1 hk
      subst hk
      simp only [Option.some.injEq] at h; subst h
      exact ⟨_, isB_eqi hp hq, by simp [Instr.sameNow], by simp⟩
    · simp at h
  · obtain ⟨p, rfl, hp⟩ := is_str hx
    obtain ⟨q, rfl, hq⟩ := is_str hy
    simp only [Option.some.injEq] at h; subst h
    refine ⟨_, isB_eqs hp hq, by simp [Instr.sameNow, beq_toListBytes], fun hb => ?_⟩
    rw [toList_inj (eq_of_beq hb)]
  · obtain ⟨p, rfl, hp⟩ := is_bool hx
    obtain ⟨q, rfl, hq⟩ := is_bool hy
    simp only [Option.some.injEq] at h; subst h
    exact ⟨_, isB_eqb hp hq, by simp [Instr.sameNow], by simp⟩
  · simp at h

theorem run_checkKey1 {kind : TypeDesc} (hk : kindOK kind = true) {kt : TypeId} (hu : P.underlying kt = some kind) (b : Bool) (v : Value) (n : Nat) : (Instr.checkKey b (n + 1) kt v).run P w = .ok () w := by
  cases kind <;> simp [kindOK] at hk <;> simp [Instr.checkKey, run_underlying hu]

theorem run_checkKey {kind : TypeDesc} (hk : kindOK kind = true) {kt : TypeId} (hu : P.underlying kt = some kind) (b : Bool) (v : Value) : (Instr.checkKey b 10000 kt v).run P w = .ok () w := run_checkKey1 hk hu b v 9999

theorem lookD_sound {kind : TypeDesc} {x : DV} {v : Value} (hx : x.is k v) {nn : St → Tr} {hit : St → DV → Tr} : ∀ {es : List (DV × DV)} {ents : List MapEntry} {s : St} (i : Nat),
    StR w0 gl ro k s a w → DV.iss k (es.map (·.1)) (ents.map (·.key)) → DV.iss k (es.map (·.2)) (ents.map (·.val)) → (lookD kind s x nn hit es).sat P Q B k.ρ k.G →
    ∃ p, PcR k p ∧ ((Instr.findNow kind v ents i = some none ∧ (nn { s with pc := p }).sat P Q B k.ρ k.G) ∨
      ∃ j u d, Instr.findNow kind v ents i = some (some (j, u)) ∧ d.is k u ∧ (hit { s with pc := p } d).sat P Q B k.ρ k.G)
  | [], ents, s, i, hs, hk, hv, h => by
    have := hk.length
    simp at this; subst this
    exact ⟨s.pc, hs.pc, .inl ⟨rfl, h⟩⟩
  | (k', v') :: es, [], s, i, hs, hk, hv, h => by
    have := hk.length
    simp at this
  | (k', v') :: es, en :: ents, s, i, hs, hk, hv, h => by
    obtain ⟨_, _, hh, hk1, hk2⟩ := DV.iss_cons_inv hk
    simp only [List.map_cons, List.cons.injEq] at hh
    obtain ⟨rfl, rfl⟩ := hh
    obtain ⟨_, _, hh, hv1, hv2⟩ := DV.iss_cons_inv hv
    simp only [List.map_cons, List.cons.injEq] at hh
    obtain ⟨rfl, rfl⟩ := hh
    simp only [lookD] at h
    split at h
    · rename_i e he
      obtain ⟨b, hb, hsame, _⟩ := keyEq_sound hx hk1 he
      obtain ⟨p, hp, hh⟩ := sat_branch hs ⟨b, hb⟩ h
      rcases hh with ⟨h1, h2⟩ | ⟨h1, h2⟩
      · have := isB_true hb h1
        subst this
        exact ⟨p, hp, .inr ⟨i, en.val, v', by simp [Instr.findNow, hsame], hv1, h2⟩⟩
      · have : b = false := by rw [← hb.here, h1.here]
        subst this
        obtain ⟨p, hp, hh⟩ := lookD_sound hx (i + 1) (hs.withPc hp) hk2 hv2 h2
        refine ⟨p, hp, ?_⟩
        rcases hh with ⟨h3, h4⟩ | ⟨j, u, d, h3, h4, h5⟩
        · exact .inl ⟨by simp [Instr.findNow, hsame, h3], h4⟩
        · exact .inr ⟨j, u, d, by simp [Instr.findNow, hsame, h3], h4, h5⟩
    · exact (sat_bad h).elim

theorem lookupD_sound (hs : StR w0 gl ro k s a w) {t : TypeId} {x i : DV} {ok : Bool} {v iv : Value} (hx : x.is k v) (hi : i.is k iv) (h : (lookupD P s t x i ok).sat P Q B k.ρ k.G) :
    OpPostW w0 gl ro a Q k w ((Instr.lookup t v iv ok).run P w) := by
  unfold lookupD at h
  split at h
  · rename_i kt e hu
    split at h
    · rename_i kind z hkind hz
      obtain ⟨zv, hrz, hzv⟩ := zeroV_sound (w := w) hz
      split at h
      · exact (sat_bad h).elim
      rename_i hok
      have hok : kindOK kind = true := by simpa using hok
      simp only at h
      split at h
      · rename_i id
        cases is_map hx
        split at h
        · rename_i es hes
          obtain ⟨hid, ob, hob, ents, clock, rfl, hk, hv⟩ := hs.heap.obj _ _ hes
          obtain ⟨p, hp, hh⟩ := lookD_sound hi 0 hs hk hv h
          have hfin : ∀ {d : DV} {u : Value} {b : Bool}, d.is k u → (if ok then DV.tup [d, .bool (.bl b)] else d).is k (if ok then .tuple #[u, .bool b] else u) := by
            intro d u b hd
            cases ok
            · exact hd
            · exact mk_tup (DV.iss_cons hd (DV.iss_cons (mk_bool (isB_lit b)) DV.iss_nil))
          rcases hh with ⟨h1, h2⟩ | ⟨j, u, d, h1, h2, h3⟩
          · exact post_of (hs.withPc hp) (hfin (hzv k)) h2 (by simp [Instr.lookup, run_underlying hu, run_getObj hob, run_checkKey hok hkind, Instr.findKey, run_underlying hkind, h1, hrz])
          · exact post_of (hs.withPc hp) (hfin h2) h3 (by simp [Instr.lookup, run_underlying hu, run_getObj hob, run_checkKey hok hkind, Instr.findKey, run_underlying hkind, h1])
        · exact (sat_bad h).elim
      · exact (sat_bad h).elim
    · exact (sat_bad h).elim
  · exact (sat_bad h).elim

theorem sameBits_same {kind : TypeDesc} {v u : Value} (h : Instr.sameNow kind v u = some true) : Instr.sameBits 10000 u v = true := by
  unfold Instr.sameNow at h
  split at h
  · split at h
    · simp at h; subst h; simp_all [Instr.sameBits]
    · simp at h
  · rename_i x y
    simp only [Option.some.injEq] at h
    rw [beq_toListBytes] at h
    simp only [Instr.sameBits]
    rw [beq_toListBytes, ← eq_of_beq h]
    exact beq_self_eq_true _
  · simp at h; subst h; simp [Instr.sameBits]
  · simp at h

/-- A map with one more value of a key. -/
theorem mapPutD_sound {kind : TypeDesc} {id : Id} {x y : DV} {v u : Value} (hx : x.is k v) (hy : y.is k u) {clock : Nat} {all : Array MapEntry} :
    ∀ {es pre : List (DV × DV)} {ents pe : List MapEntry} {s : St}, StR w0 gl ro k s a w → Live s.heap id → all.toList = pe ++ ents →
    DV.iss k (es.map (·.1)) (ents.map (·.key)) → DV.iss k (es.map (·.2)) (ents.map (·.val)) → DV.iss k (pre.map (·.1)) (pe.map (·.key)) → DV.iss k (pre.map (·.2)) (pe.map (·.val)) →
    (mapPutD kind s id x y pre es).sat P Q B k.ρ k.G →
    ∃ s' ob, StR w0 gl ro k s' a { w with heap := w.heap.setIfInBounds (k.β id) ob } ∧ Q k.ρ k.G (.val undefD) s' ∧
      ((Instr.findNow kind v ents pe.length = some none ∧ ob = .map (all.push { key := v, val := u, born := clock }) (clock + 1)) ∨
       ∃ j w', Instr.findNow kind v ents pe.length = some (some (j, w')) ∧ (∃ en, all[j]? = some en ∧ Instr.sameBits 10000 en.key v = true) ∧ ob = .map (all.modify j fun e => { e with key := v, val := u }) clock)
  | [], pre, ents, pe, s, hs, hl, hall, hk, hv, hpk, hpv, h => by
    have := hk.length
    simp at this; subst this
    simp only [mapPutD, retv, Tr.sat] at h
    refine ⟨_, _, hs.upd (hs.heap.set hl (o := .map (pre ++ [(x, y)])) (ob := .map (all.push { key := v, val := u, born := clock }) (clock + 1)) ⟨_, _, rfl, ?_, ?_⟩), h, .inl ⟨rfl, rfl⟩⟩
    · simp only [Array.toList_push, hall, List.append_nil, List.map_append, List.map_cons, List.map_nil]
      exact DV.iss_append hpk (DV.iss_cons hx DV.iss_nil)
    · simp only [Array.toList_push, hall, List.append_nil, List.map_append, List.map_cons, List.map_nil]
      exact DV.iss_append hpv (DV.iss_cons hy DV.iss_nil)
  | (k', v') :: es, pre, [], pe, s, hs, hl, hall, hk, hv, hpk, hpv, h => by
    have := hk.length
    simp at this
  | (k', v') :: es, pre, en :: ents, pe, s, hs, hl, hall, hk, hv, hpk, hpv, h => by
    obtain ⟨_, _, hh, hk1, hk2⟩ := DV.iss_cons_inv hk
    simp only [List.map_cons, List.cons.injEq] at hh
    obtain ⟨rfl, rfl⟩ := hh
    obtain ⟨_, _, hh, hv1, hv2⟩ := DV.iss_cons_inv hv
    simp only [List.map_cons, List.cons.injEq] at hh
    obtain ⟨rfl, rfl⟩ := hh
    simp only [mapPutD] at h
    split at h
    · rename_i e he
      obtain ⟨b, hb, hsame, hbe⟩ := keyEq_sound hx hk1 he
      obtain ⟨p, hp, hh⟩ := sat_branch hs ⟨b, hb⟩ h
      rcases hh with ⟨h1, h2⟩ | ⟨h1, h2⟩
      · have := isB_true hb h1
        subst this
        have hve := hbe rfl
        simp only [retv, Tr.sat] at h2
        have hget : all[pe.length]? = some en := by rw [← Array.getElem?_toList, hall]; simp
        have hmod : (all.modify pe.length fun e => { e with key := v, val := u }).toList = pe ++ { en with key := v, val := u } :: ents := by
          rw [Array.toList_modify, hall, List.modify_eq_take_drop]
          simp
        refine ⟨_, _, (hs.withPc hp).upd ((hs.withPc hp).heap.set hl (o := .map (pre ++ (k', y) :: es)) (ob := .map (all.modify pe.length fun e => { e with key := v, val := u }) clock) ⟨_, _, rfl, ?_, ?_⟩), h2,
          .inr ⟨pe.length, en.val, by simp [Instr.findNow, hsame], ⟨en, hget, sameBits_same hsame⟩, rfl⟩⟩
        · rw [hmod]
          simp only [List.map_append, List.map_cons]
          exact DV.iss_append hpk (DV.iss_cons (by rw [hve]; exact hk1) hk2)
        · rw [hmod]
          simp only [List.map_append, List.map_cons]
          exact DV.iss_append hpv (DV.iss_cons hy hv2)
      · have : b = false := by rw [← hb.here, h1.here]
        subst this
        obtain ⟨s', ob, hs', hq, hh⟩ := mapPutD_sound (all := all) (pe := pe ++ [en]) hx hy (clock := clock) (hs.withPc hp) hl (by simp [hall]) hk2 hv2
          (by simp only [List.map_append, List.map_cons, List.map_nil]; exact DV.iss_append hpk (DV.iss_cons hk1 DV.iss_nil))
          (by simp only [List.map_append, List.map_cons, List.map_nil]; exact DV.iss_append hpv (DV.iss_cons hv1 DV.iss_nil)) h2
        refine ⟨s', ob, hs', hq, ?_⟩
        simp only [List.length_append, List.length_cons, List.length_nil, Nat.zero_add] at hh
        rcases hh with ⟨h3, h4⟩ | ⟨j, w', h3, h4, h5⟩
        · exact .inl ⟨by simp [Instr.findNow, hsame, h3], h4⟩
        · exact .inr ⟨j, w', by simp [Instr.findNow, hsame, h3], h4, h5⟩
    · exact (sat_bad h).elim

theorem mapUpdateD_sound (hs : StR w0 gl ro k s a w) {t : TypeId} {m x y : DV} {mv v u : Value} (hm : m.is k mv) (hx : x.is k v) (hy : y.is k u)
    (h : (mapUpdateD P s t m x y).sat P Q B k.ρ k.G) : OpPostU w0 gl ro a Q k ((Instr.mapUpdate t mv v u).run P w) := by
  unfold mapUpdateD at h
  split at h
  · rename_i kt e hu
    split at h
    · rename_i kind id hkind
      cases is_map hm
      split at h
      · exact (sat_bad h).elim
      rename_i hok
      have hok : kindOK kind = true := by simpa using hok
      split at h
      · rename_i es hes
        obtain ⟨hid, ob, hob, ents, clock, rfl, hk, hv⟩ := hs.heap.obj _ _ hes
        obtain ⟨s', ob', hs', hq, hh⟩ := mapPutD_sound (pe := []) (pre := []) (clock := clock) (all := ents) hx hy hs ⟨_, hes, rfl⟩ (by simp) hk hv DV.iss_nil DV.iss_nil h
        refine ⟨k, s', _, ?_, K.le.refl k, hs', hq⟩
        simp only [List.length_nil] at hh
        rcases hh with ⟨h3, rfl⟩ | ⟨j, w', h3, ⟨en, hen, hsb⟩, rfl⟩
        · simp [Instr.mapUpdate, run_underlying hu, run_getObj hob, run_checkKey hok hkind, Instr.findKey, run_underlying hkind, h3, run_setObj hob]
        · simp [Instr.mapUpdate, run_underlying hu, run_getObj hob, run_checkKey hok hkind, Instr.findKey, run_underlying hkind, h3, run_setObj hob, hen, Instr.keyThatStays, hsb]
      · exact (sat_bad h).elim
    · exact (sat_bad h).elim
  · exact (sat_bad h).elim
end
end Go.Sx
