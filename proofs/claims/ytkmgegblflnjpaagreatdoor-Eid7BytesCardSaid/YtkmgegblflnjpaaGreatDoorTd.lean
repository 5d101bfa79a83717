/- Chapter 10: what isPart and isText answer. -/
import Derived.Test.YtkmgegblflnjpaaGreatDoorTb
set_option linter.unusedSimpArgs false
set_option linter.unusedVariables false
namespace Go.Sx
open Go.Proofs Go.RowKit

theorem one_int {x : Ext} {c c' : Ctr} (h : Fits x c c') (hi : c'.i = c.i + 1) (hb : c'.b = c.b) (hs : c'.s = c.s) (hv : c'.v = c.v) : ∃ m, x = { i := [m] } := by
  obtain ⟨xi, xb, xs, xv⟩ := x
  have h1 := h.i; have h2 := h.b; have h3 := h.s; have h4 := h.v
  simp only at h1 h2 h3 h4
  have e1 : xi.length = 1 := by omega
  have e2 : xb = [] := List.eq_nil_of_length_eq_zero (by omega)
  have e3 : xs = [] := List.eq_nil_of_length_eq_zero (by omega)
  have e4 : xv = [] := List.eq_nil_of_length_eq_zero (by omega)
  subst e2; subst e3; subst e4
  match xi, e1 with
  | [m], _ => exact ⟨m, rfl⟩

/-- How far a loop over runes is. -/
def posOf : List Value → Nat
  | [.int _ n] => n.toNat
  | _ => 0

/-- A step of a loop over runes. -/
theorem ra_step {p : Nat → Bool} {s : ByteArray} {n : Nat} (hlt : n < s.size) (hra : ra p s n = ra p s 0) (hp : p (Utf8.decode s n).1 = true) : ra p s (n + (Utf8.decode s n).2) = ra p s 0 := by
  rw [← hra, ra_lt hlt, hp, Bool.true_and]
theorem ra_stop {p : Nat → Bool} {s : ByteArray} {n : Nat} (hlt : n < s.size) (hra : ra p s n = ra p s 0) (hp : p (Utf8.decode s n).1 = false) : ra p s 0 = false := by
  rw [← hra, ra_lt hlt, hp, Bool.false_and]

theorem gl7_still (g : Nat) (cs : List DV) (h : (g, cs) ∈ gl7.l) (d : DV) (hd : d ∈ cs) : DV.still gl7.sep d = true := by
  have hall : (gl7.l.all fun p => p.2.all fun d => DV.still gl7.sep d) = true := by kernel_rfl
  exact List.all_eq_true.1 (List.all_eq_true.1 hall _ h) _ hd
theorem gl7_any {k : K} {ρ : Env} (h : GlobR k gl7) (ha : ρ.a = k.ρ.a := by rfl) : GlobR ⟨ρ, fun _ => 0, 0, k.G⟩ gl7 := by
  refine ⟨fun g cs hl => ?_, ?_, ?_⟩
  · obtain ⟨vs, e, fr, hG, hget⟩ := h.l g cs hl
    refine ⟨vs, e, fr, hG, fun i d hi => ?_⟩
    obtain ⟨v, hv, hd⟩ := hget i d hi
    refine ⟨v, hv, fun k' hle => ?_⟩
    rw [← hd.here]
    refine still_den (sep := gl7.sep) (fun j hj => ?_) d (gl7_still g cs (look_mem hl) d (List.mem_of_getElem? hi))
    obtain ⟨a, c, e', h1, _⟩ := h.sep j hj
    obtain ⟨t, ht⟩ := hle.ρ.a
    rw [← ht]
    show (ρ.a ++ t)[j]? = k.ρ.a[j]?
    rw [ha, List.getElem?_append_left (List.getElem?_eq_some_iff.1 h1).1]
  · intro i hi
    obtain ⟨b, c, e, h1, h2⟩ := h.sep i hi
    exact ⟨b, c, e, by show ρ.a[i]? = _; rw [ha]; exact h1, h2⟩
  · intro i hi j hj hij
    show ρ.a[i]? ≠ ρ.a[j]?
    rw [ha]
    exact h.ne i hi j hj hij

def Tp1 : Ts :=
  .loop [.int .i64] [.int .i64 (.lit 0)] { i := 0, b := 0, s := 1, a := 0, v := 0 }
    (.br (.o2 .lt (.iv 0) (.o1 .len (.sv 0)))
      (.br (.o1 .not (.o2 .or (.o2 .and (.o2 .le (.lit 97) (.o2 .rune (.sv 0) (.iv 0))) (.o2 .le (.o2 .rune (.sv 0) (.iv 0)) (.lit 122))) (.o2 .and (.o2 .le (.lit 48) (.o2 .rune (.sv 0) (.iv 0))) (.o2 .le (.o2 .rune (.sv 0) (.iv 0)) (.lit 57)))))
        (.br (.o2 .eqi (.lit 45) (.o2 .rune (.sv 0) (.iv 0))) (.back 0 [.int .i64 (.o2 .add (.iv 0) (.o2 .rwid (.sv 0) (.iv 0)))]) (.br (.o2 .eqi (.lit 46) (.o2 .rune (.sv 0) (.iv 0))) (.back 0 [.int .i64 (.o2 .add (.iv 0) (.o2 .rwid (.sv 0) (.iv 0)))]) (.val (.bool (.bl false)) [])))
        (.back 0 [.int .i64 (.o2 .add (.iv 0) (.o2 .rwid (.sv 0) (.iv 0)))]))
      (.val (.bool (.o2 .le (.o1 .len (.sv 0)) (.lit 20))) []))
theorem p1_tree : (ev C7a 3000 (.enter 64 [.str (.sv 0), .str (.sl [45, 46])]) (init { s := 1 })).slim false = Tp1 := by kernel_rfl

theorem p1_sat (P : Program) (s : ByteArray) (a : List Addr) (G : GS) :
    Tp1.sat P (Den (.bool (ra (inR partR1) s 0 && decide ((s.size : Int) ≤ 20)))) { s := [s], a := a } G := by
  unfold Tp1
  simp only [Ts.satB]
  refine ⟨fun vals _ => ∃ n : Nat, vals = [.int .i64 n] ∧ ra (inR partR1) s n = ra (inR partR1) s 0, fun vals => s.size - posOf vals, fun β nx => ⟨0, by simp [DV.dens, DV.den, E.ii], rfl⟩, ?_⟩
  intro x G' hfit hG hI
  obtain ⟨m, rfl⟩ := one_int hfit rfl rfl rfl rfl
  obtain ⟨n, hn, hra⟩ := hI (fun _ => 0) 0
  simp [Sh.freshL, Sh.fresh, DV.dens, DV.den, E.ii, Env.app] at hn
  subst hn
  have hback : n < s.size → (inR partR1) (Utf8.decode s n).1 = true → ∀ (β : Nat → Nat) (nx : Nat), (∃ q : Nat, DV.dens ⟨Env.app { s := [s], a := a } { i := [(n : Int)] }, β, nx, G'⟩ [.int .i64 (.o2 .add (.iv 0) (.o2 .rwid (.sv 0) (.iv 0)))] = [.int .i64 q] ∧ ra (inR partR1) s q = ra (inR partR1) s 0) ∧
      s.size - posOf (DV.dens ⟨Env.app { s := [s], a := a } { i := [(n : Int)] }, β, nx, G'⟩ [.int .i64 (.o2 .add (.iv 0) (.o2 .rwid (.sv 0) (.iv 0)))]) < s.size - posOf (DV.dens ⟨Env.app { s := [s], a := a } { i := [(n : Int)] }, β, nx, G'⟩ (Sh.freshL [.int .i64] { i := 0, b := 0, s := 1, a := 0, v := 0 }).1) := by
    intro hlt hp β nx
    refine ⟨⟨n + (Utf8.decode s n).2, by simp [DV.dens, DV.den, E.ii, E.ss, Env.app], ra_step hlt hra hp⟩, ?_⟩
    have := decode_pos s n
    simp [Sh.freshL, Sh.fresh, DV.dens, DV.den, E.ii, E.ss, posOf, Env.app]
    omega
  simp only [List.getElem?_cons_zero]
  generalize hrr : (Utf8.decode s n).1 = r at hback
  have stop : n < s.size → (inR partR1) r = false → false = (ra (inR partR1) s 0 && decide ((s.size : Int) ≤ 20)) := fun hlt hp => by
    rw [ra_stop hlt hra (by rw [hrr]; exact hp)]; rfl
  refine ⟨fun hlt => ?_, fun hge => ?_⟩
  · have hlt : n < s.size := by simpa [E.bb, E.ii, E.ss, Env.app] using hlt
    refine ⟨fun h1 => ?_, fun h1 β nx => hback hlt ?_ β nx⟩
    · simp [E.bb, E.ii, E.ss, Env.app, hrr] at h1
      refine ⟨fun g0 β nx => hback hlt ?_ β nx, fun g0 => ?_⟩
      · simp [E.bb, E.ii, E.ss, Env.app, hrr] at g0
        simp [inR, partR1]
        omega
      refine ⟨fun g1 β nx => hback hlt ?_ β nx, fun g1 => ?_⟩
      · simp [E.bb, E.ii, E.ss, Env.app, hrr] at g1
        simp [inR, partR1]
        omega
      intro β nx G2
      simp only [DV.den, E.bb]
      rw [← stop hlt]
      simp [E.bb, E.ii, E.ss, Env.app, hrr] at g0 g1
      simp [inR, partR1]
      omega
    · simp [E.bb, E.ii, E.ss, Env.app, hrr] at h1
      simp [inR, partR1]
      omega
  · have hge : ¬ n < s.size := by simpa [E.bb, E.ii, E.ss, Env.app] using hge
    intro β nx G2
    rw [← hra, ra_ge hge]
    simp only [DV.den, E.bb, E.ii, E.ss, Env.app, List.getD_cons_zero, List.append_nil, Bool.true_and]

theorem p1_calls (s : ByteArray) (a : List Addr) (G : GS) (w : World) (hgl : GlobR ⟨{ a := a }, fun _ => 0, 0, G⟩ gl7) (hG : GHeap G w) :
    Calls Tryz.prog 64 #[.string s, .string (sOf [45, 46])] w fun e w' => e = .returned (.bool (ra (inR partR1) s 0 && decide ((s.size : Int) ≤ 20))) ∧ Below w.heap.size w w' := by
  refine calls_den (C := C7a) C7aok p1_tree (ρ := { s := [s], a := a }) (G := G) (vs := [.string s, .string (sOf [45, 46])])
    ⟨rfl, rfl, rfl, rfl, by simp⟩ (by intro c v h; simp at h) (gl7_any hgl) hG ?_ (p1_sat _ s a G)
  refine DV.iss_cons (mk_str fun k' hle => ?_) (DV.iss_cons (mk_str fun k' hle => ?_) DV.iss_nil)
  · obtain ⟨t, ht⟩ := hle.ρ.s
    simp [E.ss, ← ht]
  · simp [E.ss]

def Tp2 : Ts :=
  .loop [.int .i64] [.int .i64 (.lit 0)] { i := 0, b := 0, s := 1, a := 0, v := 0 }
    (.br (.o2 .lt (.iv 0) (.o1 .len (.sv 0)))
      (.br (.o1 .not (.o2 .or (.o2 .and (.o2 .le (.lit 97) (.o2 .rune (.sv 0) (.iv 0))) (.o2 .le (.o2 .rune (.sv 0) (.iv 0)) (.lit 122))) (.o2 .and (.o2 .le (.lit 48) (.o2 .rune (.sv 0) (.iv 0))) (.o2 .le (.o2 .rune (.sv 0) (.iv 0)) (.lit 57)))))
        (.br (.o2 .eqi (.lit 45) (.o2 .rune (.sv 0) (.iv 0))) (.back 0 [.int .i64 (.o2 .add (.iv 0) (.o2 .rwid (.sv 0) (.iv 0)))]) (.br (.o2 .eqi (.lit 46) (.o2 .rune (.sv 0) (.iv 0))) (.back 0 [.int .i64 (.o2 .add (.iv 0) (.o2 .rwid (.sv 0) (.iv 0)))]) (.br (.o2 .eqi (.lit 47) (.o2 .rune (.sv 0) (.iv 0))) (.back 0 [.int .i64 (.o2 .add (.iv 0) (.o2 .rwid (.sv 0) (.iv 0)))]) (.val (.bool (.bl false)) []))))
        (.back 0 [.int .i64 (.o2 .add (.iv 0) (.o2 .rwid (.sv 0) (.iv 0)))]))
      (.val (.bool (.o2 .le (.o1 .len (.sv 0)) (.lit 20))) []))
theorem p2_tree : (ev C7a 3000 (.enter 64 [.str (.sv 0), .str (.sl [45, 46, 47])]) (init { s := 1 })).slim false = Tp2 := by kernel_rfl

theorem p2_sat (P : Program) (s : ByteArray) (a : List Addr) (G : GS) :
    Tp2.sat P (Den (.bool (ra (inR partR2) s 0 && decide ((s.size : Int) ≤ 20)))) { s := [s], a := a } G := by
  unfold Tp2
  simp only [Ts.satB]
  refine ⟨fun vals _ => ∃ n : Nat, vals = [.int .i64 n] ∧ ra (inR partR2) s n = ra (inR partR2) s 0, fun vals => s.size - posOf vals, fun β nx => ⟨0, by simp [DV.dens, DV.den, E.ii], rfl⟩, ?_⟩
  intro x G' hfit hG hI
  obtain ⟨m, rfl⟩ := one_int hfit rfl rfl rfl rfl
  obtain ⟨n, hn, hra⟩ := hI (fun _ => 0) 0
  simp [Sh.freshL, Sh.fresh, DV.dens, DV.den, E.ii, Env.app] at hn
  subst hn
  have hback : n < s.size → (inR partR2) (Utf8.decode s n).1 = true → ∀ (β : Nat → Nat) (nx : Nat), (∃ q : Nat, DV.dens ⟨Env.app { s := [s], a := a } { i := [(n : Int)] }, β, nx, G'⟩ [.int .i64 (.o2 .add (.iv 0) (.o2 .rwid (.sv 0) (.iv 0)))] = [.int .i64 q] ∧ ra (inR partR2) s q = ra (inR partR2) s 0) ∧
      s.size - posOf (DV.dens ⟨Env.app { s := [s], a := a } { i := [(n : Int)] }, β, nx, G'⟩ [.int .i64 (.o2 .add (.iv 0) (.o2 .rwid (.sv 0) (.iv 0)))]) < s.size - posOf (DV.dens ⟨Env.app { s := [s], a := a } { i := [(n : Int)] }, β, nx, G'⟩ (Sh.freshL [.int .i64] { i := 0, b := 0, s := 1, a := 0, v := 0 }).1) := by
    intro hlt hp β nx
    refine ⟨⟨n + (Utf8.decode s n).2, by simp [DV.dens, DV.den, E.ii, E.ss, Env.app], ra_step hlt hra hp⟩, ?_⟩
    have := decode_pos s n
    simp [Sh.freshL, Sh.fresh, DV.dens, DV.den, E.ii, E.ss, posOf, Env.app]
    omega
  simp only [List.getElem?_cons_zero]
  generalize hrr : (Utf8.decode s n).1 = r at hback
  have stop : n < s.size → (inR partR2) r = false → false = (ra (inR partR2) s 0 && decide ((s.size : Int) ≤ 20)) := fun hlt hp => by
    rw [ra_stop hlt hra (by rw [hrr]; exact hp)]; rfl
  refine ⟨fun hlt => ?_, fun hge => ?_⟩
  · have hlt : n < s.size := by simpa [E.bb, E.ii, E.ss, Env.app] using hlt
    refine ⟨fun h1 => ?_, fun h1 β nx => hback hlt ?_ β nx⟩
    · simp [E.bb, E.ii, E.ss, Env.app, hrr] at h1
      refine ⟨fun g0 β nx => hback hlt ?_ β nx, fun g0 => ?_⟩
      · simp [E.bb, E.ii, E.ss, Env.app, hrr] at g0
        simp [inR, partR2]
        omega
      refine ⟨fun g1 β nx => hback hlt ?_ β nx, fun g1 => ?_⟩
      · simp [E.bb, E.ii, E.ss, Env.app, hrr] at g1
        simp [inR, partR2]
        omega
      refine ⟨fun g2 β nx => hback hlt ?_ β nx, fun g2 => ?_⟩
      · simp [E.bb, E.ii, E.ss, Env.app, hrr] at g2
        simp [inR, partR2]
        omega
      intro β nx G2
      simp only [DV.den, E.bb]
      rw [← stop hlt]
      simp [E.bb, E.ii, E.ss, Env.app, hrr] at g0 g1 g2
      simp [inR, partR2]
      omega
    · simp [E.bb, E.ii, E.ss, Env.app, hrr] at h1
      simp [inR, partR2]
      omega
  · have hge : ¬ n < s.size := by simpa [E.bb, E.ii, E.ss, Env.app] using hge
    intro β nx G2
    rw [← hra, ra_ge hge]
    simp only [DV.den, E.bb, E.ii, E.ss, Env.app, List.getD_cons_zero, List.append_nil, Bool.true_and]

theorem p2_calls (s : ByteArray) (a : List Addr) (G : GS) (w : World) (hgl : GlobR ⟨{ a := a }, fun _ => 0, 0, G⟩ gl7) (hG : GHeap G w) :
    Calls Tryz.prog 64 #[.string s, .string (sOf [45, 46, 47])] w fun e w' => e = .returned (.bool (ra (inR partR2) s 0 && decide ((s.size : Int) ≤ 20))) ∧ Below w.heap.size w w' := by
  refine calls_den (C := C7a) C7aok p2_tree (ρ := { s := [s], a := a }) (G := G) (vs := [.string s, .string (sOf [45, 46, 47])])
    ⟨rfl, rfl, rfl, rfl, by simp⟩ (by intro c v h; simp at h) (gl7_any hgl) hG ?_ (p2_sat _ s a G)
  refine DV.iss_cons (mk_str fun k' hle => ?_) (DV.iss_cons (mk_str fun k' hle => ?_) DV.iss_nil)
  · obtain ⟨t, ht⟩ := hle.ρ.s
    simp [E.ss, ← ht]
  · simp [E.ss]

def Tt : Ts :=
  .loop [.int .i64] [.int .i64 (.lit 0)] { i := 0, b := 0, s := 1, a := 0, v := 0 }
    (.br (.o2 .lt (.iv 0) (.o1 .len (.sv 0)))
      (.br (.o2 .eqb (.o2 .or (.o2 .lt (.o2 .rune (.sv 0) (.iv 0)) (.lit 32)) (.o2 .lt (.lit 126) (.o2 .rune (.sv 0) (.iv 0)))) (.bl true))
        (.val (.bool (.o1 .not (.o2 .le (.lit 0) (.iv 0)))) [])
        (.back 0 [.int .i64 (.o2 .add (.iv 0) (.o2 .rwid (.sv 0) (.iv 0)))]))
      (.val (.bool (.bl true)) []))
theorem t_tree : (ev C7a 3000 (.enter 55 [.str (.sv 0)]) (init { s := 1 })).slim false = Tt := by kernel_rfl

theorem t_sat (P : Program) (s : ByteArray) (a : List Addr) (G : GS) :
    Tt.sat P (Den (.bool (ra (inR textR) s 0))) { s := [s], a := a } G := by
  unfold Tt
  simp only [Ts.satB]
  refine ⟨fun vals _ => ∃ n : Nat, vals = [.int .i64 n] ∧ ra (inR textR) s n = ra (inR textR) s 0, fun vals => s.size - posOf vals, fun β nx => ⟨0, by simp [DV.dens, DV.den, E.ii], rfl⟩, ?_⟩
  intro x G' hfit hG hI
  obtain ⟨m, rfl⟩ := one_int hfit rfl rfl rfl rfl
  obtain ⟨n, hn, hra⟩ := hI (fun _ => 0) 0
  simp [Sh.freshL, Sh.fresh, DV.dens, DV.den, E.ii, Env.app] at hn
  subst hn
  have hback : n < s.size → (inR textR) (Utf8.decode s n).1 = true → ∀ (β : Nat → Nat) (nx : Nat), (∃ q : Nat, DV.dens ⟨Env.app { s := [s], a := a } { i := [(n : Int)] }, β, nx, G'⟩ [.int .i64 (.o2 .add (.iv 0) (.o2 .rwid (.sv 0) (.iv 0)))] = [.int .i64 q] ∧ ra (inR textR) s q = ra (inR textR) s 0) ∧
      s.size - posOf (DV.dens ⟨Env.app { s := [s], a := a } { i := [(n : Int)] }, β, nx, G'⟩ [.int .i64 (.o2 .add (.iv 0) (.o2 .rwid (.sv 0) (.iv 0)))]) < s.size - posOf (DV.dens ⟨Env.app { s := [s], a := a } { i := [(n : Int)] }, β, nx, G'⟩ (Sh.freshL [.int .i64] { i := 0, b := 0, s := 1, a := 0, v := 0 }).1) := by
    intro hlt hp β nx
    refine ⟨⟨n + (Utf8.decode s n).2, by simp [DV.dens, DV.den, E.ii, E.ss, Env.app], ra_step hlt hra hp⟩, ?_⟩
    have := decode_pos s n
    simp [Sh.freshL, Sh.fresh, DV.dens, DV.den, E.ii, E.ss, posOf, Env.app]
    omega
  simp only [List.getElem?_cons_zero]
  generalize hrr : (Utf8.decode s n).1 = r at hback
  refine ⟨fun hlt => ?_, fun hge => ?_⟩
  · have hlt : n < s.size := by simpa [E.bb, E.ii, E.ss, Env.app] using hlt
    refine ⟨fun h1 => ?_, fun h1 β nx => hback hlt ?_ β nx⟩
    · simp [E.bb, E.ii, E.ss, Env.app, hrr] at h1
      intro β nx G2
      rw [ra_stop hlt hra (by rw [hrr]; simp [inR, textR]; omega)]
      simp [DV.den, E.bb, E.ii, Env.app]
    · simp [E.bb, E.ii, E.ss, Env.app, hrr] at h1
      simp [inR, textR]
      omega
  · have hge : ¬ n < s.size := by simpa [E.bb, E.ii, E.ss, Env.app] using hge
    intro β nx G2
    rw [← hra, ra_ge hge]
    simp only [DV.den, E.bb]

theorem t_calls (s : ByteArray) (a : List Addr) (G : GS) (w : World) (hgl : GlobR ⟨{ a := a }, fun _ => 0, 0, G⟩ gl7) (hG : GHeap G w) :
    Calls Tryz.prog 55 #[.string s] w fun e w' => e = .returned (.bool (ra (inR textR) s 0)) ∧ Below w.heap.size w w' := by
  refine calls_den (C := C7a) C7aok t_tree (ρ := { s := [s], a := a }) (G := G) (vs := [.string s])
    ⟨rfl, rfl, rfl, rfl, by simp⟩ (by intro c v h; simp at h) (gl7_any hgl) hG ?_ (t_sat _ s a G)
  refine DV.iss_cons (mk_str fun k' hle => ?_) DV.iss_nil
  obtain ⟨t, ht⟩ := hle.ρ.s
  simp [E.ss, ← ht]
end Go.Sx
