/- What the symbolic executor's values and stores stand for; stages of a run and their order. -/
import Derived.Test.YtcljcgapkojgnaaGreatDoorSa
import Derived.Laws.Strings
import Derived.Below
import Derived.Laws.Sem
set_option linter.unusedSimpArgs false
set_option linter.unusedVariables false
namespace Go.Sx

/-- A stage: the variables, where the store's blocks lie, how many there are, and what is known of other blocks. -/
structure K where
  ρ : Env
  β : Nat → Nat
  nx : Nat
  G : Nat → Option Obj

structure Env.le (x y : Env) : Prop where
  i : x.i <+: y.i
  b : x.b <+: y.b
  s : x.s <+: y.s
  a : x.a <+: y.a
  v : x.v <+: y.v

structure K.le (x y : K) : Prop where
  ρ : x.ρ.le y.ρ
  nx : x.nx ≤ y.nx
  β : ∀ i, i < x.nx → y.β i = x.β i
  G : ∀ n o, x.G n = some o → y.G n = some o

theorem Env.le.refl (a : Env) : a.le a := ⟨List.prefix_rfl, List.prefix_rfl, List.prefix_rfl, List.prefix_rfl, List.prefix_rfl⟩
theorem Env.le.trans {a b c : Env} (h : a.le b) (g : b.le c) : a.le c := ⟨h.i.trans g.i, h.b.trans g.b, h.s.trans g.s, h.a.trans g.a, h.v.trans g.v⟩
theorem K.le.refl (a : K) : a.le a := ⟨Env.le.refl _, Nat.le_refl _, fun _ _ => rfl, fun _ _ h => h⟩
theorem K.le.trans {a b c : K} (h : a.le b) (g : b.le c) : a.le c :=
  ⟨h.ρ.trans g.ρ, Nat.le_trans h.nx g.nx, fun i hi => (g.β i (Nat.lt_of_lt_of_le hi h.nx)).trans (h.β i hi), fun n o x => g.G n o (h.G n o x)⟩

def Base.den (k : K) : Base → Option Addr
  | .id n => some ⟨k.β n, 0, none⟩
  | .av j => k.ρ.a[j]?
  | .at_ a => some a
  | .rv j => match k.ρ.v[j]? with | some (.slice a _ _) => a | _ => none

def Ref.den (k : K) (r : Ref) : Option Addr := (r.base.den k).map (·.add (r.off.ii k.ρ).toNat)

mutual
def DV.den (k : K) : DV → Value
  | .int t e => .int t (e.ii k.ρ)
  | .bool e => .bool (e.bb k.ρ)
  | .str e => .string (e.ss k.ρ)
  | .ptr r => .pointer (r.den k)
  | .nilptr => .pointer none
  | .slice r n c => .slice (r.den k) (n.ii k.ρ).toNat (c.ii k.ρ).toNat
  | .nilslice => .slice none 0 0
  | .map i => .map (some (k.β i))
  | .nilmap => .map none
  | .fn f fs cs => .func f (DV.dens k fs).toArray (DV.dens k cs).toArray
  | .yld i => .func (.yield (k.β i)) #[] #[]
  | .nilfn => .nilFunc
  | .iface t v => .iface t (DV.den k v)
  | .nilif => .nilIface
  | .agg l => .agg (DV.dens k l).toArray
  | .tup l => .tuple (DV.dens k l).toArray
  | .raw j => k.ρ.v.getD j .nilIface
  | .gd c v => if c.bb k.ρ then DV.den k v else undef
def DV.dens (k : K) : List DV → List Value
  | [] => []
  | d :: l => DV.den k d :: DV.dens k l
end

/-! ### What holds at a stage and at all later ones -/
def E.isI (k : K) (e : E) (n : Int) : Prop := ∀ k', k.le k' → e.ii k'.ρ = n
def E.isB (k : K) (e : E) (b : Bool) : Prop := ∀ k', k.le k' → e.bb k'.ρ = b
def E.isS (k : K) (e : E) (s : ByteArray) : Prop := ∀ k', k.le k' → e.ss k'.ρ = s
def DV.is (k : K) (d : DV) (v : Value) : Prop := ∀ k', k.le k' → d.den k' = v
def DV.iss (k : K) (l : List DV) (vs : List Value) : Prop := ∀ k', k.le k' → DV.dens k' l = vs
def Ref.is (k : K) (r : Ref) (a : Option Addr) : Prop := ∀ k', k.le k' → r.den k' = a

section
variable {k k' : K}
theorem E.isI.mono {e : E} {n : Int} (x : e.isI k n) (h : k.le k') : e.isI k' n := fun _ g => x _ (h.trans g)
theorem E.isB.mono {e : E} {n : Bool} (x : e.isB k n) (h : k.le k') : e.isB k' n := fun _ g => x _ (h.trans g)
theorem E.isS.mono {e : E} {n : ByteArray} (x : e.isS k n) (h : k.le k') : e.isS k' n := fun _ g => x _ (h.trans g)
theorem DV.is.mono {d : DV} {v : Value} (x : d.is k v) (h : k.le k') : d.is k' v := fun _ g => x _ (h.trans g)
theorem DV.iss.mono {d : List DV} {v : List Value} (x : DV.iss k d v) (h : k.le k') : DV.iss k' d v := fun _ g => x _ (h.trans g)
theorem Ref.is.mono {r : Ref} {a : Option Addr} (x : r.is k a) (h : k.le k') : r.is k' a := fun _ g => x _ (h.trans g)
end

theorem E.isI.here {k : K} {e : E} {n : Int} (h : e.isI k n) : e.ii k.ρ = n := h k (K.le.refl k)
theorem E.isB.here {k : K} {e : E} {n : Bool} (h : e.isB k n) : e.bb k.ρ = n := h k (K.le.refl k)
theorem E.isS.here {k : K} {e : E} {n : ByteArray} (h : e.isS k n) : e.ss k.ρ = n := h k (K.le.refl k)
theorem DV.is.here {k : K} {d : DV} {v : Value} (h : d.is k v) : d.den k = v := h k (K.le.refl k)
theorem DV.iss.here {k : K} {d : List DV} {v : List Value} (h : DV.iss k d v) : DV.dens k d = v := h k (K.le.refl k)

theorem DV.iss_nil {k : K} : DV.iss k [] [] := fun _ _ => by simp [DV.dens]
theorem DV.iss_cons {k : K} {d : DV} {l : List DV} {v : Value} {vs : List Value} (h : d.is k v) (hl : DV.iss k l vs) : DV.iss k (d :: l) (v :: vs) :=
  fun k' g => by simp [DV.dens, h k' g, hl k' g]
theorem DV.iss_cons_inv {k : K} {d : DV} {l : List DV} {vs : List Value} (h : DV.iss k (d :: l) vs) : ∃ v vs', vs = v :: vs' ∧ d.is k v ∧ DV.iss k l vs' := by
  refine ⟨d.den k, DV.dens k l, ?_, ?_, ?_⟩
  · have := h k (K.le.refl k); simp [DV.dens] at this; exact this.symm
  · intro k' g
    have a := h k (K.le.refl k); have b := h k' g
    simp [DV.dens] at a b; rw [← a] at b; exact (List.cons.inj b).1
  · intro k' g
    have a := h k (K.le.refl k); have b := h k' g
    simp [DV.dens] at a b; rw [← a] at b; exact (List.cons.inj b).2

theorem DV.dens_length (k : K) (l : List DV) : (DV.dens k l).length = l.length := by
  induction l with
  | nil => simp [DV.dens]
  | cons d l ih => simp [DV.dens, ih]
theorem DV.dens_eq_map (k : K) (l : List DV) : DV.dens k l = l.map (DV.den k) := by
  induction l with
  | nil => simp [DV.dens]
  | cons d l ih => simp [DV.dens, ih]
theorem DV.iss.length {k : K} {l : List DV} {vs : List Value} (h : DV.iss k l vs) : vs.length = l.length := by rw [← h.here, DV.dens_length]
theorem DV.iss.get {k : K} {l : List DV} {vs : List Value} (h : DV.iss k l vs) {i : Nat} {d : DV} (hi : l[i]? = some d) : ∃ v, vs[i]? = some v ∧ d.is k v := by
  refine ⟨d.den k, ?_, fun k' g => ?_⟩
  · rw [← h.here, DV.dens_eq_map]; simp [hi]
  · have a := h.here; have b := h k' g
    rw [DV.dens_eq_map] at a b
    have e : (l.map (DV.den k'))[i]? = (l.map (DV.den k))[i]? := by rw [b, a]
    simpa [hi] using e
theorem DV.iss_append {k : K} {l m : List DV} {vs us : List Value} (h : DV.iss k l vs) (g : DV.iss k m us) : DV.iss k (l ++ m) (vs ++ us) :=
  fun k' x => by have a := h k' x; have b := g k' x; rw [DV.dens_eq_map] at *; simp [a, b]
theorem DV.iss_take {k : K} {l : List DV} {vs : List Value} (h : DV.iss k l vs) (n : Nat) : DV.iss k (l.take n) (vs.take n) :=
  fun k' x => by have a := h k' x; rw [DV.dens_eq_map] at *; simp [← a]
theorem DV.iss_drop {k : K} {l : List DV} {vs : List Value} (h : DV.iss k l vs) (n : Nat) : DV.iss k (l.drop n) (vs.drop n) :=
  fun k' x => by have a := h k' x; rw [DV.dens_eq_map] at *; simp [← a]

/-! ### Constant folding is right -/
theorem lit_sOf_size (l : List Nat) : (sOf l).size = l.length := by simp [sOf, ByteArray.size]

theorem mk1_ii (o : O1) (a : E) (ρ : Env) : (mk1 o a).ii ρ = (E.o1 o a).ii ρ := by
  unfold mk1
  split <;> simp [E.ii, E.ss, lit_sOf_size]
theorem mk1_bb (o : O1) (a : E) (ρ : Env) : (mk1 o a).bb ρ = (E.o1 o a).bb ρ := by
  unfold mk1
  split <;> simp [E.bb]
theorem mk1_ss (o : O1) (a : E) (ρ : Env) : (mk1 o a).ss ρ = (E.o1 o a).ss ρ := by
  unfold mk1
  split <;> simp [E.ss]
theorem sOf_toList (l : List Nat) : (sOf l).toList = l.map UInt8.ofNat := by rw [ByteArray.toList_eq]; simp [sOf]
theorem ofNat_eq {a b : Nat} : UInt8.ofNat a = UInt8.ofNat b ↔ a % 256 = b % 256 := by
  constructor
  · intro h
    have := congrArg UInt8.toNat h
    simpa [UInt8.toNat_ofNat'] using this
  · intro h
    apply UInt8.toNat_inj.1
    simpa [UInt8.toNat_ofNat'] using h
theorem map_ofNat_beq : ∀ (a b : List Nat), (a.map UInt8.ofNat == b.map UInt8.ofNat) = (a.map (· % 256) == b.map (· % 256))
  | [], [] => rfl
  | [], _ :: _ => rfl
  | _ :: _, [] => rfl
  | x :: a, y :: b => by
    have ih := map_ofNat_beq a b
    simp only [List.map_cons, List.cons_beq_cons, ih]
    congr 1
    rw [Bool.eq_iff_iff]
    simp [ofNat_eq]
theorem fold_byte (l : List Nat) (n : Nat) : (((sOf l).data[n]?.getD 0).toNat : Int) = ((l[n]?.getD 0 % 256 : Nat) : Int) := by
  simp only [sOf, List.getElem?_toArray, List.getElem?_map]
  cases l[n]? <;> simp [UInt8.toNat_ofNat']
theorem fold_app (a b : List Nat) : sOf (a ++ b) = sOf a ++ sOf b := by
  apply ByteArray.ext
  simp [sOf, ByteArray.data_append]
theorem fold_push (a : List Nat) (n : Nat) : sOf (a ++ [n]) = (sOf a).push (UInt8.ofNat n) := by
  apply ByteArray.ext
  simp [sOf, ByteArray.push]
theorem mkSub_ss (a l h : E) (ρ : Env) : (mkSub a l h).ss ρ = (a.ss ρ).extract (l.ii ρ).toNat (h.ii ρ).toNat := by
  unfold mkSub
  split
  · simp only [E.ss, E.ii]
    apply ByteArray.ext
    simp [sOf, ByteArray.data_extract, List.map_take, List.map_drop, List.drop_take]
  · rfl

theorem mk2_ii (o : O2) (a b : E) (ρ : Env) (h1 : o ≠ .and) (h2 : o ≠ .or) : (mk2 o a b).ii ρ = (E.o2 o a b).ii ρ := by
  unfold mk2
  split <;> first
    | rfl
    | (simp [E.ii]; done)
    | (split <;> first | rfl | (simp [E.ii]; done))
    | (simp only [E.ii]; unfold bitsL; rename_i o _ _ _; cases o <;> rfl)
    | (simp only [E.ii, E.ss]; exact (fold_byte _ _).symm)
    | (exact absurd rfl h1)
    | (exact absurd rfl h2)
theorem E.beq_eq : ∀ {a b : E}, a.beq b = true → a = b := by
  intro a
  induction a with
  | lit n => intro b h; cases b <;> simp_all [E.beq]
  | bl n => intro b h; cases b <;> simp_all [E.beq]
  | sl n => intro b h; cases b <;> simp_all [E.beq]
  | iv n => intro b h; cases b <;> simp_all [E.beq]
  | bv n => intro b h; cases b <;> simp_all [E.beq]
  | sv n => intro b h; cases b <;> simp_all [E.beq]
  | vv o n => intro b h; cases b <;> simp_all [E.beq]
  | o1 o a iha => intro b h; cases b <;> simp_all [E.beq]; exact iha h.2
  | o2 o a b iha ihb => intro x h; cases x <;> simp_all [E.beq]; exact ⟨iha h.1.2, ihb h.2⟩
  | o3 o a b c iha ihb ihc => intro x h; cases x <;> simp_all [E.beq]; exact ⟨iha h.1.1.2, ihb h.1.2, ihc h.2⟩

theorem mk2_bb (o : O2) (a b : E) (ρ : Env) : (mk2 o a b).bb ρ = (E.o2 o a b).bb ρ := by
  unfold mk2
  split <;> first
    | rfl
    | (simp [E.bb]; done)
    | (split
       · rename_i hb; have := E.beq_eq hb; subst this; simp [E.bb]
       · rfl)
    | (split <;> simp_all [E.bb])
    | (simp only [E.bb, E.ss, sOf_toList, map_ofNat_beq])
    | (simp only [E.bb, E.ss, sOf_toList])
theorem mk2_ss (o : O2) (a b : E) (ρ : Env) (h1 : o ≠ .and) (h2 : o ≠ .or) : (mk2 o a b).ss ρ = (E.o2 o a b).ss ρ := by
  unfold mk2
  split <;> first
    | rfl
    | (simp [E.ss]; done)
    | (split <;> first | rfl | (simp [E.ss]; done))
    | (simp only [E.ss, E.ii, fold_push]; done)
    | (simp only [E.ss, fold_app]; done)
    | (exact absurd rfl h1)
    | (exact absurd rfl h2)
theorem mkIte_bb (c a b : E) (ρ : Env) : (mkIte c a b).bb ρ = if c.bb ρ then a.bb ρ else b.bb ρ := by
  unfold mkIte
  split
  · rename_i t; cases t <;> rfl
  · rw [mk2_bb]; simp [E.bb]
  · rw [mk2_bb]; simp [E.bb]
  · simp [E.bb]
end Go.Sx
/- Relations between the executor's states and the machine's; inversions; what is known of bools. -/
namespace Go.Sx
open E Go.RowKit

/-! ### Inversions -/
section inv
variable {k : K}
theorem is_int {t : IntKind} {e : E} {v : Value} (h : (DV.int t e).is k v) : ∃ n, v = .int t n ∧ e.isI k n := by
  refine ⟨e.ii k.ρ, by have := h.here; simp [DV.den] at this; exact this.symm, fun k' g => ?_⟩
  have a := h.here; have b := h k' g
  simp [DV.den] at a b; rw [← a] at b; simpa using b
theorem is_bool {e : E} {v : Value} (h : (DV.bool e).is k v) : ∃ n, v = .bool n ∧ e.isB k n := by
  refine ⟨e.bb k.ρ, by have := h.here; simp [DV.den] at this; exact this.symm, fun k' g => ?_⟩
  have a := h.here; have b := h k' g
  simp [DV.den] at a b; rw [← a] at b; simpa using b
theorem is_str {e : E} {v : Value} (h : (DV.str e).is k v) : ∃ n, v = .string n ∧ e.isS k n := by
  refine ⟨e.ss k.ρ, by have := h.here; simp [DV.den] at this; exact this.symm, fun k' g => ?_⟩
  have a := h.here; have b := h k' g
  simp [DV.den] at a b; rw [← a] at b; simpa using b
theorem is_ptr {r : Ref} {v : Value} (h : (DV.ptr r).is k v) : ∃ a, v = .pointer a ∧ r.is k a := by
  refine ⟨r.den k, by have := h.here; simp [DV.den] at this; exact this.symm, fun k' g => ?_⟩
  have a := h.here; have b := h k' g
  simp [DV.den] at a b; rw [← a] at b; simpa using b
theorem is_slice {r : Ref} {n c : E} {v : Value} (h : (DV.slice r n c).is k v) :
    ∃ a m p, v = .slice a m p ∧ r.is k a ∧ (∀ k', k.le k' → (n.ii k'.ρ).toNat = m) ∧ (∀ k', k.le k' → (c.ii k'.ρ).toNat = p) := by
  refine ⟨r.den k, _, _, by have := h.here; simp only [DV.den] at this; exact this.symm, fun k' g => ?_, fun k' g => ?_, fun k' g => ?_⟩ <;>
  · have a := h.here; have b := h k' g
    simp only [DV.den] at a b; rw [← a] at b; injection b
theorem is_agg {l : List DV} {v : Value} (h : (DV.agg l).is k v) : ∃ vs, v = .agg vs.toArray ∧ DV.iss k l vs := by
  refine ⟨DV.dens k l, by have := h.here; simp only [DV.den] at this; exact this.symm, fun k' g => ?_⟩
  have a := h.here; have b := h k' g
  simp only [DV.den] at a b; rw [← a] at b; injection b with b; simpa using b
theorem is_tup {l : List DV} {v : Value} (h : (DV.tup l).is k v) : ∃ vs, v = .tuple vs.toArray ∧ DV.iss k l vs := by
  refine ⟨DV.dens k l, by have := h.here; simp only [DV.den] at this; exact this.symm, fun k' g => ?_⟩
  have a := h.here; have b := h k' g
  simp only [DV.den] at a b; rw [← a] at b; injection b with b; simpa using b
theorem is_iface {t : TypeId} {d : DV} {v : Value} (h : (DV.iface t d).is k v) : ∃ u, v = .iface t u ∧ d.is k u := by
  refine ⟨d.den k, by have := h.here; simp only [DV.den] at this; exact this.symm, fun k' g => ?_⟩
  have a := h.here; have b := h k' g
  simp only [DV.den] at a b; rw [← a] at b; injection b
theorem is_fn {f : Fn} {l m : List DV} {v : Value} (h : (DV.fn f l m).is k v) : ∃ vs us, v = .func f vs.toArray us.toArray ∧ DV.iss k l vs ∧ DV.iss k m us := by
  refine ⟨DV.dens k l, DV.dens k m, by have := h.here; simp only [DV.den] at this; exact this.symm, fun k' g => ?_, fun k' g => ?_⟩ <;>
  · have a := h.here; have b := h k' g
    simp only [DV.den] at a b; rw [← a] at b; injection b with _ b c; first | simpa using b | simpa using c
theorem is_map {i : Id} {v : Value} (h : (DV.map i).is k v) : v = .map (some (k.β i)) := by have := h.here; simp only [DV.den] at this; exact this.symm
theorem is_yld {i : Id} {v : Value} (h : (DV.yld i).is k v) : v = .func (.yield (k.β i)) #[] #[] := by have := h.here; simp only [DV.den] at this; exact this.symm
theorem is_const {d : DV} {u v : Value} (hd : ∀ k', d.den k' = u) (h : d.is k v) : v = u := by rw [← h.here, hd]

theorem mk_int {t : IntKind} {e : E} {n : Int} (h : e.isI k n) : (DV.int t e).is k (.int t n) := fun k' g => by simp [DV.den, h k' g]
theorem mk_bool {e : E} {n : Bool} (h : e.isB k n) : (DV.bool e).is k (.bool n) := fun k' g => by simp [DV.den, h k' g]
theorem mk_str {e : E} {n : ByteArray} (h : e.isS k n) : (DV.str e).is k (.string n) := fun k' g => by simp [DV.den, h k' g]
theorem mk_ptr {r : Ref} {a : Option Addr} (h : r.is k a) : (DV.ptr r).is k (.pointer a) := fun k' g => by simp [DV.den, h k' g]
theorem mk_agg {l : List DV} {vs : List Value} (h : DV.iss k l vs) : (DV.agg l).is k (.agg vs.toArray) := fun k' g => by simp only [DV.den, h k' g]
theorem mk_tup {l : List DV} {vs : List Value} (h : DV.iss k l vs) : (DV.tup l).is k (.tuple vs.toArray) := fun k' g => by simp only [DV.den, h k' g]
theorem mk_iface {t : TypeId} {d : DV} {v : Value} (h : d.is k v) : (DV.iface t d).is k (.iface t v) := fun k' g => by simp only [DV.den, h k' g]
theorem mk_fn {f : Fn} {l m : List DV} {vs us : List Value} (h : DV.iss k l vs) (g : DV.iss k m us) : (DV.fn f l m).is k (.func f vs.toArray us.toArray) :=
  fun k' x => by simp only [DV.den, h k' x, g k' x]
theorem mk_undef : undefD.is k undef := fun k' _ => by simp [undefD, DV.den, DV.dens, undef]

theorem isI_lit (n : Int) : (E.lit n).isI k n := fun _ _ => by simp [E.ii]
theorem isB_lit (n : Bool) : (E.bl n).isB k n := fun _ _ => by simp [E.bb]
theorem isB_not {e : E} {b : Bool} (h : e.isB k b) : (mk1 .not e).isB k (!b) := fun k' g => by rw [mk1_bb]; simp [E.bb, h k' g]
theorem isB_and {e f : E} {b c : Bool} (h : e.isB k b) (h' : f.isB k c) : (mk2 .and e f).isB k (b && c) := fun k' g => by rw [mk2_bb]; simp [E.bb, h k' g, h' k' g]
theorem isB_or {e f : E} {b c : Bool} (h : e.isB k b) (h' : f.isB k c) : (mk2 .or e f).isB k (b || c) := fun k' g => by rw [mk2_bb]; simp [E.bb, h k' g, h' k' g]
theorem isB_lt {e f : E} {b c : Int} (h : e.isI k b) (h' : f.isI k c) : (mk2 .lt e f).isB k (decide (b < c)) := fun k' g => by rw [mk2_bb]; simp [E.bb, h k' g, h' k' g]
theorem isB_le {e f : E} {b c : Int} (h : e.isI k b) (h' : f.isI k c) : (mk2 .le e f).isB k (decide (b ≤ c)) := fun k' g => by rw [mk2_bb]; simp [E.bb, h k' g, h' k' g]
theorem isB_eqi {e f : E} {b c : Int} (h : e.isI k b) (h' : f.isI k c) : (mk2 .eqi e f).isB k (b == c) := fun k' g => by rw [mk2_bb]; simp [E.bb, h k' g, h' k' g]
theorem isB_eqs {e f : E} {b c : ByteArray} (h : e.isS k b) (h' : f.isS k c) : (mk2 .eqs e f).isB k (b.toList == c.toList) := fun k' g => by rw [mk2_bb]; simp [E.bb, h k' g, h' k' g]
theorem isI_len {e : E} {b : ByteArray} (h : e.isS k b) : (mk1 .len e).isI k b.size := fun k' g => by rw [mk1_ii]; simp [E.ii, h k' g]
theorem isI_wrap {e : E} {t : IntKind} {b : Int} (h : e.isI k b) : (mk1 (.wrap t) e).isI k (t.wrap b) := fun k' g => by rw [mk1_ii]; simp [E.ii, h k' g]
theorem isI_add {e f : E} {b c : Int} (h : e.isI k b) (h' : f.isI k c) : (mk2 .add e f).isI k (b + c) := fun k' g => by rw [mk2_ii _ _ _ _ (by simp) (by simp)]; simp [E.ii, h k' g, h' k' g]
theorem isI_sub {e f : E} {b c : Int} (h : e.isI k b) (h' : f.isI k c) : (mk2 .sub e f).isI k (b - c) := fun k' g => by rw [mk2_ii _ _ _ _ (by simp) (by simp)]; simp [E.ii, h k' g, h' k' g]
theorem isI_mul {e f : E} {b c : Int} (h : e.isI k b) (h' : f.isI k c) : (mk2 .mul e f).isI k (b * c) := fun k' g => by rw [mk2_ii _ _ _ _ (by simp) (by simp)]; simp [E.ii, h k' g, h' k' g]
theorem isI_tdiv {e f : E} {b c : Int} (h : e.isI k b) (h' : f.isI k c) : (mk2 .tdiv e f).isI k (b.tdiv c) := fun k' g => by rw [mk2_ii _ _ _ _ (by simp) (by simp)]; simp [E.ii, h k' g, h' k' g]
theorem isI_tmod {e f : E} {b c : Int} (h : e.isI k b) (h' : f.isI k c) : (mk2 .tmod e f).isI k (b.tmod c) := fun k' g => by rw [mk2_ii _ _ _ _ (by simp) (by simp)]; simp [E.ii, h k' g, h' k' g]
end inv

def PcR (k : K) (pc : List (E × Bool)) : Prop := ∀ c v, (c, v) ∈ pc → c.isB k v

theorem pcOf_sound {k : K} {pc : List (E × Bool)} (h : PcR k pc) {c : E} {b : Bool} (g : pcOf c pc = some b) : c.isB k b := by
  induction pc with
  | nil => simp [pcOf] at g
  | cons x l ih =>
    obtain ⟨d, v⟩ := x
    simp only [pcOf] at g
    split at g
    · rename_i hd
      cases E.beq_eq hd
      simp only [Option.some.injEq] at g
      subst g
      exact h _ _ (by simp)
    · exact ih (fun c v hm => h c v (by simp [hm])) g

theorem leLit_sound {k : K} {m : Int} {e : E} : ∀ {pc : List (E × Bool)}, PcR k pc → leLit m e pc = true → (E.o2 .le (.lit m) e).isB k true
  | [], _, h => by simp [leLit] at h
  | (d, v) :: l, hp, h => by
    have rest : leLit m e l = true → (E.o2 .le (.lit m) e).isB k true := fun h => leLit_sound (fun c v hm => hp c v (by simp [hm])) h
    unfold leLit at h
    split at h
    · rename_i heq; cases heq
    · rename_i n e' l' heq
      cases heq
      simp only [Bool.or_eq_true, Bool.and_eq_true, decide_eq_true_eq] at h
      rcases h with ⟨h1, h2⟩ | h
      · cases E.beq_eq h2
        intro k' hle
        have h3 := hp _ _ (List.mem_cons_self ..) k' hle
        simp only [E.bb] at h3 ⊢
        have h4 := of_decide_eq_true h3
        refine decide_eq_true ?_
        simp only [E.ii] at h4 ⊢
        omega
      · exact rest h
    · rename_i heq
      cases heq
      exact rest h
theorem upLit_sound {k : K} {m : Int} {e : E} : ∀ {pc : List (E × Bool)}, PcR k pc → upLit e m pc = true → (E.o2 .le e (.lit m)).isB k true
  | [], _, h => by simp [upLit] at h
  | (d, v) :: l, hp, h => by
    have rest : upLit e m l = true → (E.o2 .le e (.lit m)).isB k true := fun h => upLit_sound (fun c v hm => hp c v (by simp [hm])) h
    unfold upLit at h
    split at h
    · rename_i heq; cases heq
    · rename_i e' n l' heq
      cases heq
      simp only [Bool.or_eq_true, Bool.and_eq_true, decide_eq_true_eq] at h
      rcases h with ⟨h1, h2⟩ | h
      · cases E.beq_eq h2
        intro k' hle
        have h3 := hp _ _ (List.mem_cons_self ..) k' hle
        simp only [E.bb] at h3 ⊢
        have h4 := of_decide_eq_true h3
        refine decide_eq_true ?_
        simp only [E.ii] at h4 ⊢
        omega
      · exact rest h
    · rename_i heq
      cases heq
      exact rest h
theorem neLit_sound {k : K} {b : Int} {e : E} : ∀ {pc : List (E × Bool)}, PcR k pc → neLit e b pc = true → (E.o2 .eqi e (.lit b)).isB k false
  | [], _, h => by simp [neLit] at h
  | (d, v) :: l, hp, h => by
    have rest : neLit e b l = true → (E.o2 .eqi e (.lit b)).isB k false := fun h => neLit_sound (fun c v hm => hp c v (by simp [hm])) h
    unfold neLit at h
    split at h
    · rename_i heq; cases heq
    · rename_i e' a l' heq
      cases heq
      simp only [Bool.or_eq_true, Bool.and_eq_true, bne_iff_ne] at h
      rcases h with ⟨h1, h2⟩ | h
      · cases E.beq_eq h2
        intro k' hle
        have h3 := hp _ _ (List.mem_cons_self ..) k' hle
        have h4 : e.ii k'.ρ = a := by simpa [E.bb, E.ii] using h3
        have h5 : e.ii k'.ρ ≠ b := by omega
        simpa [E.bb, E.ii] using h5
      · exact rest h
    · rename_i heq
      cases heq
      exact rest h

theorem le_isB {k : K} {m : Int} {e : E} (h : ∀ k', k.le k' → m ≤ e.ii k'.ρ) : (E.o2 .le (.lit m) e).isB k true := fun k' hle => by simp [E.bb, E.ii, h k' hle]
theorem up_isB {k : K} {m : Int} {e : E} (h : ∀ k', k.le k' → e.ii k'.ρ ≤ m) : (E.o2 .le e (.lit m)).isB k true := fun k' hle => by simp [E.bb, E.ii, h k' hle]
theorem leLit_ii {k : K} {pc : List (E × Bool)} (hp : PcR k pc) {m : Int} {e : E} (h : leLit m e pc = true) (k' : K) (hle : k.le k') : m ≤ e.ii k'.ρ := by
  have := leLit_sound hp h k' hle
  simp only [E.bb, E.ii] at this
  exact of_decide_eq_true this
theorem upLit_ii {k : K} {pc : List (E × Bool)} (hp : PcR k pc) {m : Int} {e : E} (h : upLit e m pc = true) (k' : K) (hle : k.le k') : e.ii k'.ρ ≤ m := by
  have := upLit_sound hp h k' hle
  simp only [E.bb, E.ii] at this
  exact of_decide_eq_true this
theorem atLeast_ii {k : K} {pc : List (E × Bool)} (hp : PcR k pc) {m : Int} : ∀ {e : E}, atLeast pc m e = true → ∀ (k' : K), k.le k' → m ≤ e.ii k'.ρ := by
  intro e
  induction e with
  | lit n => intro h k' _; simpa [atLeast, E.ii] using h
  | o1 o a ih =>
    intro h k' hle
    cases o with
    | len =>
      simp only [atLeast, Bool.or_eq_true, decide_eq_true_eq] at h
      rcases h with h | h
      · simp only [E.ii]; omega
      · exact leLit_ii hp h k' hle
    | _ => exact leLit_ii hp (by simpa only [atLeast] using h) k' hle
  | o2 o a b iha ihb =>
    intro h k' hle
    cases o with
    | imax =>
      simp only [atLeast, Bool.or_eq_true] at h
      rcases h with (h | h) | h
      · have := iha h k' hle; simp only [E.ii]; split <;> omega
      · have := ihb h k' hle; simp only [E.ii]; split <;> omega
      · exact leLit_ii hp h k' hle
    | imin =>
      simp only [atLeast, Bool.or_eq_true, Bool.and_eq_true] at h
      rcases h with ⟨h, h'⟩ | h
      · have := iha h k' hle; have := ihb h' k' hle; simp only [E.ii]; split <;> omega
      · exact leLit_ii hp h k' hle
    | _ => exact leLit_ii hp (by simpa only [atLeast] using h) k' hle
  | _ => intro h k' hle; exact leLit_ii hp (by simpa only [atLeast] using h) k' hle
theorem atMost_ii {k : K} {pc : List (E × Bool)} (hp : PcR k pc) {m : Int} : ∀ {e : E}, atMost pc m e = true → ∀ (k' : K), k.le k' → e.ii k'.ρ ≤ m := by
  intro e
  induction e with
  | lit n => intro h k' _; simpa [atMost, E.ii] using h
  | o2 o a b iha ihb =>
    intro h k' hle
    cases o with
    | imax =>
      simp only [atMost, Bool.or_eq_true, Bool.and_eq_true] at h
      rcases h with ⟨h, h'⟩ | h
      · have := iha h k' hle; have := ihb h' k' hle; simp only [E.ii]; split <;> omega
      · exact upLit_ii hp h k' hle
    | imin =>
      simp only [atMost, Bool.or_eq_true] at h
      rcases h with (h | h) | h
      · have := iha h k' hle; simp only [E.ii]; split <;> omega
      · have := ihb h k' hle; simp only [E.ii]; split <;> omega
      · exact upLit_ii hp h k' hle
    | _ => exact upLit_ii hp (by simpa only [atMost] using h) k' hle
  | _ => intro h k' hle; exact upLit_ii hp (by simpa only [atMost] using h) k' hle

theorem decideE_sound {k : K} {pc : List (E × Bool)} (h : PcR k pc) : ∀ {c : E} {b : Bool}, decideE pc c = some b → c.isB k b := by
  intro c
  induction c with
  | bl n => intro b g; simp [decideE] at g; subst g; exact isB_lit _
  | o1 o a ih =>
    intro b g
    cases o with
    | not =>
      simp only [decideE, Option.map_eq_some_iff] at g
      obtain ⟨x, hx, rfl⟩ := g
      intro k' le
      simp [E.bb, ih hx k' le]
    | wrap t => exact pcOf_sound h (by simpa [decideE] using g)
    | len => exact pcOf_sound h (by simpa [decideE] using g)
    | allr p => exact pcOf_sound h (by simpa [decideE] using g)
  | o2 o a b iha ihb =>
    intro v g
    cases o with
    | and =>
      simp only [decideE] at g
      split at g
      · rename_i ha hb; simp at g; subst g; intro k' le; simp [E.bb, iha ha k' le, ihb hb k' le]
      · rename_i ha; simp at g; subst g; intro k' le; simp [E.bb, iha ha k' le]
      · rename_i hb _; simp at g; subst g; intro k' le; simp [E.bb, ihb hb k' le]
      · exact pcOf_sound h g
    | or =>
      simp only [decideE] at g
      split at g
      · rename_i ha hb; simp at g; subst g; intro k' le; simp [E.bb, iha ha k' le, ihb hb k' le]
      · rename_i ha; simp at g; subst g; intro k' le; simp [E.bb, iha ha k' le]
      · rename_i hb _; simp at g; subst g; intro k' le; simp [E.bb, ihb hb k' le]
      · exact pcOf_sound h g
    | le =>
      cases a with
      | lit m =>
        simp only [decideE] at g
        split at g
        · rename_i hl; simp only [Option.some.injEq] at g; subst g; exact le_isB (atLeast_ii h hl)
        · exact pcOf_sound h g
      | _ =>
        cases b with
        | lit m =>
          simp only [decideE] at g
          split at g
          · rename_i hl; simp only [Option.some.injEq] at g; subst g; exact up_isB (atMost_ii h hl)
          · exact pcOf_sound h g
        | _ => exact pcOf_sound h (by simpa only [decideE] using g)
    | eqi =>
      cases b with
      | lit m =>
        simp only [decideE] at g
        split at g
        · rename_i hl; simp only [Option.some.injEq] at g; subst g; exact neLit_sound h hl
        · exact pcOf_sound h g
      | _ => exact pcOf_sound h (by simpa only [decideE] using g)
    | _ => exact pcOf_sound h (by simpa [decideE] using g)
  | _ => intro b g; exact pcOf_sound h (by simpa [decideE] using g)

theorem PcR.cons {k : K} {pc : List (E × Bool)} {c : E} {v : Bool} (h : PcR k pc) (hc : c.isB k v) : PcR k ((c, v) :: pc) := by
  intro d u hm
  simp only [List.mem_cons, Prod.mk.injEq] at hm
  rcases hm with ⟨rfl, rfl⟩ | hm
  · exact hc
  · exact h _ _ hm

theorem assume_sound {k : K} : ∀ {c : E} {v : Bool} {pc : List (E × Bool)}, PcR k pc → c.isB k v → PcR k (assume c v pc) := by
  intro c
  induction c with
  | o1 o a ih =>
    intro v pc h hc
    cases o with
    | not =>
      simp only [assume]
      refine ih h (fun k' g => ?_)
      have := hc k' g
      simp [E.bb] at this
      rw [← this]
    | _ => exact h.cons hc
  | o2 o a b iha ihb =>
    intro v pc h hc
    cases o with
    | and =>
      cases v with
      | true =>
        simp only [assume]
        refine iha (ihb h fun k' g => ?_) fun k' g => ?_ <;>
        · have := hc k' g; simp [E.bb] at this; simp [this]
      | false => exact h.cons hc
    | or =>
      cases v with
      | true => exact h.cons hc
      | false =>
        simp only [assume]
        refine iha (ihb h fun k' g => ?_) fun k' g => ?_ <;>
        · have := hc k' g; simp [E.bb] at this; simp [this]
    | _ => cases v <;> exact h.cons hc
  | _ => intro v pc h hc; cases v <;> exact h.cons hc

/-! ### States -/
/-- Cells of blocks that are known to stay. -/
def GCells (G : Nat → Option Obj) (a : Addr) (vs : List Value) : Prop :=
  ∀ (i : Nat) (v : Value), vs[i]? = some v → ∃ c e fr, G (a.add i).block = some (.cells c e fr) ∧ c[(a.add i).off]? = some v ∧ (a.add i).spot = none


/-- What is remembered of loads. -/
def MemoR (k : K) (m : List (TypeId × Ref × DV)) : Prop := ∀ t r d, (t, r, d) ∈ m → ∃ a v, r.is k (some a) ∧ d.is k v ∧ GCells k.G a v.cells.toList

theorem GCells.mono {G G' : Nat → Option Obj} {a : Addr} {vs : List Value} (h : GCells G a vs) (g : ∀ b o, G b = some o → G' b = some o) : GCells G' a vs := fun i v hv => by
  obtain ⟨c, e, fr, h1, h2⟩ := h i v hv
  exact ⟨c, e, fr, g _ _ h1, h2⟩
theorem MemoR.mono {k k' : K} {m : List (TypeId × Ref × DV)} (h : MemoR k m) (g : k.le k') : MemoR k' m := fun t r d hm => by
  obtain ⟨a, v, h1, h2, h3⟩ := h t r d hm
  exact ⟨a, v, h1.mono g, h2.mono g, h3.mono g.G⟩
structure CtR (k : K) (c : Ctr) : Prop where
  i : k.ρ.i.length = c.i
  b : k.ρ.b.length = c.b
  s : k.ρ.s.length = c.s
  v : k.ρ.v.length = c.v
  one : ∀ u ∈ k.ρ.v, u.oneCell' = true

structure EnvR (k : K) (env : List (Nat × DV)) (nt : Nat) (tmps : Array Value) : Prop where
  size : tmps.size = nt
  get : ∀ t d, look t env = some d → t < nt → d.is k (tmps.getD t undef)

def DO.is (k : K) : DO → Obj → Prop
  | .cells cs e m, ob => ∃ vs : List Value, ob = .cells vs.toArray e (0, 0) ∧ cs.length ≤ vs.length ∧ DV.iss k cs (vs.take cs.length) ∧ m.isI k (vs.length : Nat) ∧ ∀ v ∈ vs.take cs.length, v.oneCell' = true
  | .dead, _ => True
  | .bytes e el m, ob => ∃ (vs : List Value) (s : ByteArray), ob = .cells vs.toArray el (0, 0) ∧ e.isS k s ∧ s.size ≤ vs.length ∧ m.isI k (vs.length : Nat) ∧ vs.take s.size = s.data.toList.map fun b => .int .u8 b.toNat
  | .map es, ob => ∃ ents clock, ob = .map ents clock ∧ DV.iss k (es.map (·.1)) (ents.toList.map (·.key)) ∧ DV.iss k (es.map (·.2)) (ents.toList.map (·.val))
  | .siter e p, ob => ∃ s n, ob = .stringIter s n ∧ e.isS k s ∧ (p.isI k (n : Nat))
  | .loop st pend _ env nt ps asg body dfs, ob => ∃ fn tmps, ob = .loop { state := st, pending := pend, fn, tmps, params := ps.toArray, assign := asg, body, defers := k.β dfs } ∧ EnvR k env nt tmps ∧ dfs < k.nx
  | .dfr b, ob => ob = .deferred (if b then some [] else none)

/-- An id whose block the store tells of. -/
def Live (heap : List (Id × DO)) (i : Id) : Prop := ∃ o, look i heap = some o ∧ o.live = true

/-- The world that a run began in, and blocks of others that stay. -/
structure Fr extends World where
  ex : Nat → Option Obj

structure HeapR (w0 : Fr) (k : K) (heap : List (Id × DO)) (w : World) : Prop where
  obj : ∀ id o, look id heap = some o → id < k.nx ∧ ∃ ob, w.heap[k.β id]? = some ob ∧ o.is k ob
  inj : ∀ i j, Live heap i → Live heap j → k.β i = k.β j → i = j
  lt : ∀ i, i < k.nx → k.β i < w.heap.size
  own : ∀ i, i < k.nx → w0.heap.size ≤ k.β i
  g : ∀ b o, k.G b = some o → w.heap[b]? = some o ∧ ∀ i, Live heap i → k.β i ≠ b
  ex : ∀ b o, w0.ex b = some o → w.heap[b]? = some o ∧ (∀ i, Live heap i → k.β i ≠ b) ∧ ∀ p, k.G b ≠ some p
  frame : Below w0.heap.size w0.toWorld w

structure GlobR (k : K) (gl : Glob) : Prop where
  l : ∀ g cs, look g gl.l = some cs → ∃ vs e fr, k.G g = some (.cells vs e fr) ∧ ∀ (i : Nat) (d : DV), cs[i]? = some d → ∃ v, vs[i]? = some v ∧ d.is k v
  sep : ∀ i ∈ gl.sep, ∃ a c e, k.ρ.a[i]? = some a ∧ k.G a.block = some (.cells c e (0, 0))
  ne : ∀ i ∈ gl.sep, ∀ j ∈ gl.sep, i ≠ j → k.ρ.a[i]? ≠ k.ρ.a[j]?

def markOf (k : K) (i : Id) : Deferred := { target := .collected (k.β i), args := #[] }

structure StR (w0 : Fr) (gl : Glob) (ro : Option Nat) (k : K) (s : St) (a : Act) (w : World) : Prop where
  nx : k.nx = s.nx
  ct : CtR k s.ct
  pc : PcR k s.pc
  env : EnvR k s.env s.nt a.tmps
  heap : HeapR w0 k s.heap w
  gl : GlobR k gl
  marks : a.defers = s.marks.map (markOf k)
  marksLt : ∀ i ∈ s.marks, i < k.nx
  rnd : ro = s.rnd.map k.β
  rndLt : ∀ i, s.rnd = some i → i < k.nx
  memo : MemoR k s.memo

theorem StR.withPc {w0 : Fr} {gl : Glob} {ro : Option Nat} {k : K} {s : St} {a : Act} {w : World} (h : StR w0 gl ro k s a w) {p : List (E × Bool)} (hp : PcR k p) :
    StR w0 gl ro k { s with pc := p } a w := ⟨h.nx, h.ct, hp, h.env, h.heap, h.gl, h.marks, h.marksLt, h.rnd, h.rndLt, h.memo⟩

theorem PcR.mono {k k' : K} {pc : List (E × Bool)} (h : PcR k pc) (g : k.le k') : PcR k' pc := fun c v m => (h c v m).mono g
theorem EnvR.mono {k k' : K} {env : List (Nat × DV)} {nt : Nat} {tmps : Array Value} (h : EnvR k env nt tmps) (g : k.le k') : EnvR k' env nt tmps :=
  ⟨h.size, fun t d a b => (h.get t d a b).mono g⟩
theorem GlobR.mono {k k' : K} {gl : Glob} (h : GlobR k gl) (g : k.le k') : GlobR k' gl := by
  have up : ∀ {i : Nat} {a : Addr}, k.ρ.a[i]? = some a → k'.ρ.a[i]? = some a := fun {i a} hi => by
    obtain ⟨t, ht⟩ := g.ρ.a
    rw [← ht, List.getElem?_append_left (List.getElem?_eq_some_iff.1 hi).1]; exact hi
  refine ⟨fun n cs hl => ?_, fun i hi => ?_, fun i hi j hj hne => ?_⟩
  · obtain ⟨vs, e, fr, h1, h2⟩ := h.l n cs hl
    refine ⟨vs, e, fr, g.G _ _ h1, fun i d hi => ?_⟩
    obtain ⟨v, hv, hd⟩ := h2 i d hi
    exact ⟨v, hv, hd.mono g⟩
  · obtain ⟨a, c, e, h1, h2⟩ := h.sep i hi
    exact ⟨a, c, e, up h1, g.G _ _ h2⟩
  · obtain ⟨a, _, _, h1, _⟩ := h.sep i hi
    obtain ⟨b, _, _, h2, _⟩ := h.sep j hj
    have := h.ne i hi j hj hne
    rw [up h1, up h2, ← h1, ← h2]; exact this
theorem DO.is.mono {k k' : K} {o : DO} {ob : Obj} (h : o.is k ob) (g : k.le k') : o.is k' ob := by
  cases o with
  | cells cs e m => obtain ⟨vs, rfl, h0, h1, h2, h3⟩ := h; exact ⟨vs, rfl, h0, h1.mono g, h2.mono g, h3⟩
  | dead => trivial
  | bytes e el m => obtain ⟨vs, s, rfl, h1, h2, h3, h4⟩ := h; exact ⟨vs, s, rfl, h1.mono g, h2, h3.mono g, h4⟩
  | map es => obtain ⟨a, b, rfl, h1, h2⟩ := h; exact ⟨a, b, rfl, h1.mono g, h2.mono g⟩
  | siter e p => obtain ⟨a, b, rfl, h1, h2⟩ := h; exact ⟨a, b, rfl, h1.mono g, h2.mono g⟩
  | loop st pend fn env nt ps asg body dfs =>
    obtain ⟨fn, tmps, rfl, h1, h2⟩ := h
    exact ⟨fn, tmps, by rw [g.β _ h2], h1.mono g, Nat.lt_of_lt_of_le h2 g.nx⟩
  | dfr b => exact h
end Go.Sx
/- What a run of the symbolic executor asks to be shown. -/
namespace Go.Sx
open Go.RowKit

/-- Values for new variables. -/
structure Ext where
  i : List Int := []
  b : List Bool := []
  s : List ByteArray := []
  v : List Value := []

def Env.app (ρ : Env) (x : Ext) : Env := { ρ with i := ρ.i ++ x.i, b := ρ.b ++ x.b, s := ρ.s ++ x.s, v := ρ.v ++ x.v }
def K.app (k : K) (x : Ext) (G : Nat → Option Obj) : K := { k with ρ := k.ρ.app x, G := G }
def GLe (G G' : Nat → Option Obj) : Prop := ∀ b o, G b = some o → G' b = some o

theorem Env.le_app (ρ : Env) (x : Ext) : ρ.le (ρ.app x) := ⟨List.prefix_append _ _, List.prefix_append _ _, List.prefix_append _ _, List.prefix_rfl, List.prefix_append _ _⟩
theorem K.le_app (k : K) (x : Ext) {G : Nat → Option Obj} (h : GLe k.G G) : k.le (k.app x G) := ⟨Env.le_app _ _, Nat.le_refl _, fun _ _ => rfl, h⟩

structure Fits (x : Ext) (c c' : Ctr) : Prop where
  i : c.i + x.i.length = c'.i
  b : c.b + x.b.length = c'.b
  s : c.s + x.s.length = c'.s
  v : c.v + x.v.length = c'.v
  one : ∀ u ∈ x.v, u.oneCell' = true

def GHeap (G : Nat → Option Obj) (w : World) : Prop := ∀ b o, G b = some o → w.heap[b]? = some o

abbrev GS := Nat → Option Obj

/-- A function's contract, as a caller uses it. -/
def CallOK (P : Program) (ρ : Env) (G : GS) (f : FuncId) (args : List DV) (sh : Sh) (c : Ctr) (R : Ext → GS → Prop) : Prop :=
  ∀ β nx w, GHeap G w → Calls P f (DV.dens ⟨ρ, β, nx, G⟩ args).toArray w fun e w' => ∃ x G', Fits x c (sh.fresh c).2 ∧ R x G' ∧
    e = .returned ((sh.fresh c).1.den ⟨ρ.app x, β, nx, G'⟩) ∧ GLe G G' ∧ GHeap G' w' ∧ (∀ b o, G' b = some o → G b = some o ∨ w.heap.size ≤ b) ∧ Below w.heap.size w w'

abbrev Backs := List (Env → GS → List DV → Prop)

def Tr.sat (P : Program) (Q : Env → GS → Out → St → Prop) : Backs → Env → GS → Tr → Prop
  | _, ρ, G, .leaf o s => Q ρ G o s
  | _, _, _, .fail _ => False
  | B, ρ, G, .br c t e => (c.bb ρ = true → t.sat P Q B ρ G) ∧ (c.bb ρ = false → e.sat P Q B ρ G)
  | B, ρ, G, .ob c t => c.bb ρ = true ∧ t.sat P Q B ρ G
  | B, ρ, G, .load r sh s t => ∃ x, Fits x s.ct (sh.fresh s.ct).2 ∧ (∀ β nx, ∃ a, r.den ⟨ρ, β, nx, G⟩ = some a ∧ GCells G a ((sh.fresh s.ct).1.den ⟨ρ.app x, β, nx, G⟩).cells.toList) ∧ t.sat P Q B (ρ.app x) G
  | B, ρ, G, .any sh c s t => ∀ x, Fits x s.ct (sh.fresh s.ct).2 → c.bb (ρ.app x) = true → t.sat P Q B (ρ.app x) G
  | B, ρ, G, .call f args sh s t => ∃ R, CallOK P ρ G f args sh s.ct R ∧ ∀ x G', Fits x s.ct (sh.fresh s.ct).2 → GLe G G' → R x G' → t.sat P Q B (ρ.app x) G'
  | B, ρ, G, .loop shs vs s t => ∃ (I : List Value → GS → Prop) (μ : List Value → Nat), (∀ β nx, I (DV.dens ⟨ρ, β, nx, G⟩ vs) G) ∧
      ∀ x G', Fits x s.ct (Sh.freshL shs s.ct).2 → GLe G G' → (∀ β nx, I (DV.dens ⟨ρ.app x, β, nx, G'⟩ (Sh.freshL shs s.ct).1) G') →
        t.sat P Q ((fun ρ2 G2 us => ∀ β nx, I (DV.dens ⟨ρ2, β, nx, G2⟩ us) G2 ∧ μ (DV.dens ⟨ρ2, β, nx, G2⟩ us) < μ (DV.dens ⟨ρ.app x, β, nx, G'⟩ (Sh.freshL shs s.ct).1)) :: B) (ρ.app x) G'
  | B, ρ, G, .back l vs _ => match B[l]? with | some b => b ρ G vs | none => False

theorem Tr.sat_shift (P : Program) (Q : Env → GS → Out → St → Prop) : ∀ (t : Tr) (B1 B2 : Backs) (b : Env → GS → List DV → Prop) (ρ : Env) (G : GS) (d : Nat), B1.length = d →
    ((t.shift d).sat P Q (B1 ++ b :: B2) ρ G ↔ t.sat P Q (B1 ++ B2) ρ G) := by
  intro t
  induction t with
  | leaf o s => intros; simp [Tr.shift, Tr.sat]
  | fail w => intros; simp [Tr.shift, Tr.sat]
  | br c t e iht ihe => intro B1 B2 b ρ G d h; simp only [Tr.shift, Tr.sat, iht _ _ _ _ _ _ h, ihe _ _ _ _ _ _ h]
  | ob c t ih => intro B1 B2 b ρ G d h; simp only [Tr.shift, Tr.sat, ih _ _ _ _ _ _ h]
  | call f as sh s t ih => intro B1 B2 b ρ G d h; simp only [Tr.shift, Tr.sat, ih _ _ _ _ _ _ h]
  | load r sh s t ih => intro B1 B2 b ρ G d h; simp only [Tr.shift, Tr.sat, ih _ _ _ _ _ _ h]
  | any sh c s t ih => intro B1 B2 b ρ G d h; simp only [Tr.shift, Tr.sat, ih _ _ _ _ _ _ h]
  | loop shs vs s t ih =>
    intro B1 B2 b ρ G d h
    simp only [Tr.shift, Tr.sat]
    have := fun X ρ G => ih (X :: B1) B2 b ρ G (d + 1) (by simp [h])
    simp only [List.cons_append] at this
    simp only [this]
  | back l vs s =>
    intro B1 B2 b ρ G d h
    simp only [Tr.shift, Tr.sat]
    have : (B1 ++ b :: B2)[if l < d then l else l + 1]? = (B1 ++ B2)[l]? := by
      by_cases hl : l < d
      · rw [if_pos hl, List.getElem?_append_left (by omega), List.getElem?_append_left (by omega)]
      · rw [if_neg hl, List.getElem?_append_right (by omega), List.getElem?_append_right (by omega)]
        have : l + 1 - B1.length = (l - B1.length) + 1 := by omega
        rw [this]; simp
    rw [this]

theorem Tr.sat_bind (P : Program) (Q : Env → GS → Out → St → Prop) : ∀ (t : Tr) (f : Out → St → Tr) (B : Backs) (ρ : Env) (G : GS),
    (t.bind f).sat P Q B ρ G ↔ t.sat P (fun ρ' G' o s => (f o s).sat P Q B ρ' G') B ρ G := by
  intro t
  induction t with
  | leaf o s => intros; simp [Tr.bind, Tr.sat]
  | fail w => intros; simp [Tr.bind, Tr.sat]
  | br c t e iht ihe => intro f B ρ G; simp only [Tr.bind, Tr.sat, iht, ihe]
  | ob c t ih => intro f B ρ G; simp only [Tr.bind, Tr.sat, ih]
  | call g as sh s t ih => intro f B ρ G; simp only [Tr.bind, Tr.sat, ih]
  | load r sh s t ih => intro f B ρ G; simp only [Tr.bind, Tr.sat, ih]
  | any sh c s t ih => intro f B ρ G; simp only [Tr.bind, Tr.sat, ih]
  | loop shs vs s t ih =>
    intro f B ρ G
    simp only [Tr.bind, Tr.sat, ih]
    have := fun o s ρ' G' X => Tr.sat_shift P Q (f o s) [] B X ρ' G' 0 rfl
    simp only [List.nil_append] at this
    simp only [this]
  | back l vs s => intros; simp [Tr.bind, Tr.sat]
end Go.Sx
/- Operands, branches, obligations: what a shown tree gives. -/
namespace Go.Sx
open Go.RowKit

section
variable {P : Program} {w0 : Fr} {gl : Glob} {ro : Option Nat} {k : K} {s : St} {a : Act} {w : World} {Q : Env → GS → Out → St → Prop} {B : Backs}

theorem sOf_back (s : ByteArray) : sOf (s.data.toList.map (·.toNat)) = s := by
  unfold sOf
  have : (s.data.toList.map (·.toNat)).map UInt8.ofNat = s.data.toList := by
    rw [List.map_map]
    conv => rhs; rw [← List.map_id s.data.toList]
    refine List.map_congr_left fun x _ => ?_
    simp
  rw [this]

mutual
theorem ofValue_sound (k : K) : ∀ (v : Value) (d : DV), ofValue v = some d → d.den k = v
  | .bool b, d, h => by simp [ofValue] at h; subst h; simp [DV.den, E.bb]
  | .int t n, d, h => by simp [ofValue] at h; subst h; simp [DV.den, E.ii]
  | .string s, d, h => by simp [ofValue] at h; subst h; simp [DV.den, E.ss, sOf_back]
  | .pointer none, d, h => by simp [ofValue] at h; subst h; simp [DV.den]
  | .pointer (some a), d, h => by simp [ofValue] at h
  | .slice a n c, d, h => by
    unfold ofValue at h
    split at h <;> simp_all
    subst h; simp [DV.den]
  | .map none, d, h => by simp [ofValue] at h; subst h; simp [DV.den]
  | .map (some a), d, h => by simp [ofValue] at h
  | .nilFunc, d, h => by simp [ofValue] at h; subst h; simp [DV.den]
  | .nilIface, d, h => by simp [ofValue] at h; subst h; simp [DV.den]
  | .agg l, d, h => by
    simp only [ofValue, Option.map_eq_some_iff] at h
    obtain ⟨ds, hds, rfl⟩ := h
    simp only [DV.den, ofValues_sound k l.toList ds hds, Array.toArray_toList]
  | .tuple l, d, h => by
    simp only [ofValue, Option.map_eq_some_iff] at h
    obtain ⟨ds, hds, rfl⟩ := h
    simp only [DV.den, ofValues_sound k l.toList ds hds, Array.toArray_toList]
  | .iface t v, d, h => by
    simp only [ofValue, Option.map_eq_some_iff] at h
    obtain ⟨ds, hds, rfl⟩ := h
    simp only [DV.den, ofValue_sound k v ds hds]
  | .float _ _, d, h => by simp [ofValue] at h
  | .complex _ _ _, d, h => by simp [ofValue] at h
  | .chan _, d, h => by simp [ofValue] at h
  | .func _ _ _, d, h => by simp [ofValue] at h
theorem ofValues_sound (k : K) : ∀ (l : List Value) (ds : List DV), ofValues l = some ds → DV.dens k ds = l
  | [], ds, h => by simp [ofValues] at h; subst h; simp [DV.dens]
  | v :: l, ds, h => by
    simp only [ofValues] at h
    split at h
    · rename_i d ds' h1 h2
      simp only [Option.some.injEq] at h; subst h
      simp only [DV.dens, ofValue_sound k v d h1, ofValues_sound k l ds' h2]
    · simp at h
end

theorem strip_sound {pc : List (E × Bool)} (h : PcR k pc) : ∀ {d : DV} {v : Value}, d.is k v → (strip pc d).is k v
  | .gd c x, v, hd => by
    unfold strip
    split
    · rename_i hb
      refine strip_sound h (d := x) fun k' g => ?_
      have := hd k' g
      simpa [DV.den, decideE_sound h hb k' g] using this
    · rename_i hb
      have := hd.here
      simp [DV.den, (decideE_sound h hb).here] at this
      subst this
      exact mk_undef
    · exact hd
  | .int .., v, hd | .bool .., v, hd | .str .., v, hd | .ptr .., v, hd | .nilptr, v, hd | .slice .., v, hd | .nilslice, v, hd | .map .., v, hd | .nilmap, v, hd
  | .fn .., v, hd | .yld .., v, hd | .nilfn, v, hd | .iface .., v, hd | .nilif, v, hd | .agg .., v, hd | .tup .., v, hd | .raw .., v, hd => hd

theorem St.get_sound (hs : StR w0 gl ro k s a w) {t : Nat} {d : DV} (h : s.get t = some d) : t < s.nt ∧ d.is k (a.tmps.getD t undef) := by
  unfold St.get at h
  split at h
  · rename_i hlt; exact ⟨hlt, hs.env.get t d h hlt⟩
  · simp at h

theorem opd_sound (hs : StR w0 gl ro k s a w) {x : Operand} {d : DV} (h : opd s x = some d) : d.is k (a.eval x) := by
  cases x with
  | tmp t =>
    simp only [opd, Option.map_eq_some_iff] at h
    obtain ⟨d0, h0, rfl⟩ := h
    exact strip_sound hs.pc (St.get_sound hs h0).2
  | const v => exact fun k' _ => ofValue_sound k' v d h
  | global g =>
    simp only [opd, Option.some.injEq] at h; subst h
    intro k' _
    simp [DV.den, Ref.den, Base.den, E.ii, Addr.add, Act.eval]
  | func f =>
    simp only [opd, Option.some.injEq] at h; subst h
    intro k' _
    simp [DV.den, DV.dens, Act.eval]

theorem opds_sound (hs : StR w0 gl ro k s a w) : ∀ {xs : List Operand} {ds : List DV}, opds s xs = some ds → DV.iss k ds (xs.map a.eval)
  | [], ds, h => by simp [opds] at h; subst h; exact DV.iss_nil
  | x :: xs, ds, h => by
    simp only [opds] at h
    split at h
    · rename_i d ds' h1 h2
      simp only [Option.some.injEq] at h; subst h
      exact DV.iss_cons (opd_sound hs h1) (opds_sound hs h2)
    · simp at h

theorem opdParts_sound (hs : StR w0 gl ro k s a w) : ∀ {xs : List (Nat × Operand)} {ds : List (Nat × DV)}, opdParts s xs = some ds →
    DV.iss k (ds.map (·.2)) (xs.map fun x => a.eval x.2) ∧ ds.map (·.1) = xs.map (·.1)
  | [], ds, h => by simp [opdParts] at h; subst h; exact ⟨DV.iss_nil, rfl⟩
  | (i, x) :: xs, ds, h => by
    simp only [opdParts] at h
    split at h
    · rename_i d ds' h1 h2
      simp only [Option.some.injEq] at h; subst h
      have := opdParts_sound hs h2
      exact ⟨DV.iss_cons (opd_sound hs h1) this.1, by simp [this.2]⟩
    · simp at h

theorem sat_withOp {x : Operand} {f : DV → Tr} (h : (withOp s x f).sat P Q B k.ρ k.G) : ∃ d, opd s x = some d ∧ (f d).sat P Q B k.ρ k.G := by
  unfold withOp at h
  split at h
  · rename_i d hd; exact ⟨d, hd, h⟩
  · simp [bad, Tr.sat] at h

theorem sat_withOps {x : List Operand} {f : List DV → Tr} (h : (withOps s x f).sat P Q B k.ρ k.G) : ∃ d, opds s x = some d ∧ (f d).sat P Q B k.ρ k.G := by
  unfold withOps at h
  split at h
  · rename_i d hd; exact ⟨d, hd, h⟩
  · simp [bad, Tr.sat] at h

theorem sat_branch (hs : StR w0 gl ro k s a w) {c : E} {t e : St → Tr} (hc : ∃ b, c.isB k b) (h : (branch s c t e).sat P Q B k.ρ k.G) :
    ∃ p, PcR k p ∧ ((c.isB k true ∧ (t { s with pc := p }).sat P Q B k.ρ k.G) ∨ (c.isB k false ∧ (e { s with pc := p }).sat P Q B k.ρ k.G)) := by
  unfold branch at h
  split at h
  · rename_i hb; exact ⟨s.pc, hs.pc, .inl ⟨decideE_sound hs.pc hb, h⟩⟩
  · rename_i hb; exact ⟨s.pc, hs.pc, .inr ⟨decideE_sound hs.pc hb, h⟩⟩
  · obtain ⟨b, hb⟩ := hc
    simp only [Tr.sat] at h
    cases b with
    | true => exact ⟨_, assume_sound hs.pc hb, .inl ⟨hb, h.1 hb.here⟩⟩
    | false => exact ⟨_, assume_sound hs.pc hb, .inr ⟨hb, h.2 hb.here⟩⟩

theorem sat_oblige (hs : StR w0 gl ro k s a w) {c : E} {t : St → Tr} (hc : ∃ b, c.isB k b) (h : (oblige s c t).sat P Q B k.ρ k.G) :
    ∃ p, PcR k p ∧ c.isB k true ∧ (t { s with pc := p }).sat P Q B k.ρ k.G := by
  unfold oblige at h
  split at h
  · rename_i hb; exact ⟨s.pc, hs.pc, decideE_sound hs.pc hb, h⟩
  · obtain ⟨b, hb⟩ := hc
    simp only [Tr.sat] at h
    have : b = true := by rw [← hb.here]; exact h.1
    subst this
    exact ⟨_, assume_sound hs.pc hb, hb, h.2⟩
end
end Go.Sx
/- Memory: what reading and writing of the symbolic store say of the world. -/
namespace Go.Sx
open Go.RowKit

section
variable {P : Program} {w0 : Fr} {gl : Glob} {ro : Option Nat} {k : K} {s : St} {a : Act} {w : World} {Q : Env → GS → Out → St → Prop} {B : Backs}

theorem add_plain (b o n : Nat) : (⟨b, o, none⟩ : Addr).add n = ⟨b, o + n, none⟩ := by
  unfold Addr.add; split <;> simp_all

theorem litNat_isI {e : E} {n : Nat} (h : litNat e = some n) : e.isI k (n : Nat) := by
  unfold litNat at h
  split at h
  · simp only [Option.some.injEq] at h; subst h; intro k' _; simp [E.ii]
  · simp at h

theorem takeAt_spec {α : Type} {l : List α} {off n : Nat} {m : List α} (h : takeAt l off n = some m) : off + n ≤ l.length ∧ m.length = n ∧ ∀ i, i < n → m[i]? = l[off + i]? := by
  unfold takeAt at h
  split at h
  · rename_i hle
    simp only [Option.some.injEq] at h; subst h
    refine ⟨hle, by simp; omega, fun i hi => ?_⟩
    simp [hi]
  · simp at h

theorem takeAt_iss {l m : List DV} {off n : Nat} {vs : List Value} (h : takeAt l off n = some m) (hl : DV.iss k l vs) : DV.iss k m ((vs.drop off).take n) := by
  unfold takeAt at h
  split at h
  · simp only [Option.some.injEq] at h; subst h
    exact DV.iss_take (DV.iss_drop hl off) n
  · simp at h

def Cells (w : World) (ad : Addr) (vs : List Value) : Prop := ad.spot = none ∧ ∀ (i : Nat) (v : Value), vs[i]? = some v → w.cell? ⟨ad.block, ad.off + i, none⟩ = some v ∧ v.oneCell' = true

theorem cell?_cells {w : World} {b o : Nat} {c : Array Value} {e : TypeId} {fr : Nat × Nat} (h : w.heap[b]? = some (.cells c e fr)) : w.cell? ⟨b, o, none⟩ = c[o]? := by
  simp [World.cell?, h]

theorem memoRow_spec {j : Nat} {l : List DV} : ∀ {m : List (TypeId × Ref × DV)}, memoRow j m = some l → ∃ t e, (t, (⟨.rv j, e⟩ : Ref), DV.agg l) ∈ m ∧ litNat e = some 0
  | [], h => by simp [memoRow] at h
  | (t, ⟨b, e⟩, d) :: m, h => by
    have rest : memoRow j m = some l → ∃ t' e', (t', (⟨.rv j, e'⟩ : Ref), DV.agg l) ∈ (t, (⟨b, e⟩ : Ref), d) :: m ∧ litNat e' = some 0 := fun h => by
      obtain ⟨t', e', h1, h2⟩ := memoRow_spec h
      exact ⟨t', e', List.mem_cons_of_mem _ h1, h2⟩
    unfold memoRow at h
    split at h
    · rename_i heq; cases heq
    · rename_i heq
      cases heq
      split at h
      · rename_i hc
        simp only [Bool.and_eq_true, beq_iff_eq] at hc
        obtain ⟨rfl, hc⟩ := hc
        cases h
        exact ⟨t, e, List.mem_cons_self .., hc⟩
      · exact rest h
    · rename_i heq
      cases heq
      exact rest h

/-- Where known cells lie, and what they hold. -/
theorem readCells_sound (hs : StR w0 gl ro k s a w) {r : Ref} {n : Nat} {cs : List DV} (h : readCells gl s r n = some cs) :
    ∃ b o vs, r.is k (some ⟨b, o, none⟩) ∧ DV.iss k cs vs ∧ vs.length = n ∧ (∀ (i : Nat) (v : Value), vs[i]? = some v → w.cell? ⟨b, o + i, none⟩ = some v) := by
  unfold readCells at h
  split at h
  · rename_i i off hb ho
    split at h
    · rename_i cs' e m hc
      obtain ⟨hi, ob, hob, vs, rfl, hle, hvs, hm, hone⟩ := hs.heap.obj _ _ hc
      obtain ⟨h1, h2, h3⟩ := takeAt_spec h
      refine ⟨k.β i, off, ((vs.take cs'.length).drop off).take n, ?_, takeAt_iss h hvs, ?_, ?_⟩
      · intro k' g
        simp [Ref.den, hb, Base.den, litNat_isI (k := k) ho k' g, add_plain, g.β i hi]
      · have := hvs.length; simp; omega
      · intro j v hv
        rw [cell?_cells hob]
        have hj : j < n := by
          rcases Nat.lt_or_ge j n with hj | hj
          · exact hj
          · simp [List.getElem?_take, Nat.not_lt.2 hj] at hv
        have hj2 : off + j < cs'.length := by omega
        simp [hj, List.getElem?_take, hj2] at hv
        simpa using hv
    · simp at h
  · rename_i ad off hb ho
    split at h
    · simp at h
    · rename_i hsp
      split at h
      · rename_i cs' hc
        obtain ⟨vs, e, fr, hG, hget⟩ := hs.gl.l _ _ hc
        obtain ⟨h1, h2, h3⟩ := takeAt_spec h
        refine ⟨ad.block, ad.off + off, DV.dens k cs, ?_, ?_, by rw [DV.dens_length, h2], ?_⟩
        · intro k' g
          obtain ⟨b, o, sp⟩ := ad
          simp at hsp; subst hsp
          simp [Ref.den, hb, Base.den, litNat_isI (k := k) ho k' g, add_plain]
        · intro k' g
          refine List.ext_getElem? fun i => ?_
          rw [DV.dens_eq_map, DV.dens_eq_map, List.getElem?_map, List.getElem?_map]
          cases hd : cs[i]? with
          | none => rfl
          | some d =>
            have hin : i < n := by
              rcases Nat.lt_or_ge i n with hj | hj
              · exact hj
              · rw [List.getElem?_eq_none (by omega)] at hd; simp at hd
            obtain ⟨v, _, hv⟩ := hget _ _ ((h3 i hin).symm.trans hd)
            simp [hv k' g, hv.here]
        · intro i v hv
          rw [DV.dens_eq_map, List.getElem?_map] at hv
          simp only [Option.map_eq_some_iff] at hv
          obtain ⟨d, hd, rfl⟩ := hv
          have hin : i < n := by
            rcases Nat.lt_or_ge i n with hj | hj
            · exact hj
            · rw [List.getElem?_eq_none (by omega)] at hd; simp at hd
          obtain ⟨v, hv1, hv⟩ := hget _ _ ((h3 i hin).symm.trans hd)
          rw [cell?_cells (hs.heap.g _ _ hG).1, hv.here]
          simpa using hv1
      · simp at h
  · rename_i j off hb ho
    split at h
    · simp at h
    · rename_i hn0
      have hn0 : n ≠ 0 := by simpa using hn0
      split at h
      · rename_i cs' hc
        obtain ⟨t, e, hmem, he⟩ := memoRow_spec hc
        obtain ⟨ad, v, hr, hd, hcells⟩ := hs.memo _ _ _ hmem
        obtain ⟨h1, h2, h3⟩ := takeAt_spec h
        obtain ⟨vs, rfl, hl⟩ := is_agg hd
        have hcells : GCells k.G ad vs := by simpa [Value.cells] using hcells
        have hlen := hl.length
        obtain ⟨v0, hv0⟩ : ∃ v, vs[0]? = some v := ⟨_, List.getElem?_eq_getElem (by omega)⟩
        obtain ⟨c0, e0, fr0, _, _, hsp⟩ := hcells 0 v0 hv0
        have hz : ad.add 0 = ad := by simp [Addr.add]
        rw [hz] at hsp
        have hbd : ∀ k', k.le k' → (Base.rv j).den k' = some ad := fun k' g => by
          have := hr k' g
          simp only [Ref.den, litNat_isI (k := k) he k' g] at this
          cases hB : (Base.rv j).den k' with
          | none => rw [hB] at this; simp at this
          | some B =>
            rw [hB] at this
            have hB0 : B.add 0 = B := by simp [Addr.add]
            simp at this
            rw [hB0] at this
            rw [this]
        obtain ⟨b, o, sp⟩ := ad
        simp only at hsp
        subst hsp
        refine ⟨b, o + off, (vs.drop off).take n, ?_, takeAt_iss h hl, by simp; omega, ?_⟩
        · intro k' g
          simp [Ref.den, hb, hbd k' g, litNat_isI (k := k) ho k' g, add_plain]
        · intro i v hv
          have hin : i < n := by
            rcases Nat.lt_or_ge i n with hj | hj
            · exact hj
            · rw [List.getElem?_eq_none (by simp; omega)] at hv; simp at hv
          have hv' : vs[off + i]? = some v := by
            simpa [hin, List.getElem?_take] using hv
          obtain ⟨c, e', fr, hG, hcv, _⟩ := hcells (off + i) v hv'
          rw [add_plain] at hG hcv
          rw [cell?_cells (hs.heap.g _ _ hG).1]
          simpa [Nat.add_assoc] using hcv
      · simp at h
  · simp at h

theorem run_loadCellsFrom {ad : Addr} (hsp : ad.spot = none) : ∀ (n i : Nat) (acc : Array Value) (vs : List Value), vs.length = n →
    (∀ (j : Nat) (v : Value), vs[j]? = some v → w.cell? ⟨ad.block, ad.off + i + j, none⟩ = some v) →
    (loadCellsFrom ad i n acc).run P w = .ok (acc ++ vs.toArray) w
  | 0, i, acc, vs, hl, h => by
    have : vs = [] := List.length_eq_zero_iff.1 hl
    subst this; simp [loadCellsFrom]
  | n + 1, i, acc, [], hl, h => by simp at hl
  | n + 1, i, acc, v :: vs, hl, h => by
    have h0 := h 0 v rfl
    have hadd : ad.add i = ⟨ad.block, ad.off + i, none⟩ := by obtain ⟨b, o, sp⟩ := ad; simp at hsp; subst hsp; exact add_plain b o i
    simp only [loadCellsFrom, Sem.run_bind, run_load, hadd]
    simp only [Nat.add_zero] at h0
    rw [h0]
    simp only [Result.andThen_ok]
    rw [run_loadCellsFrom hsp n (i + 1) (acc.push v) vs (by simpa using hl) (fun j u hu => by
      have := h (j + 1) u (by simpa using hu)
      rw [← this]; congr 2; omega)]
    simp

theorem run_loadCells {ad : Addr} (hsp : ad.spot = none) {n : Nat} {vs : List Value} (hl : vs.length = n)
    (h : ∀ (j : Nat) (v : Value), vs[j]? = some v → w.cell? ⟨ad.block, ad.off + j, none⟩ = some v) : (loadCells ad n).run P w = .ok vs.toArray w := by
  have := run_loadCellsFrom (P := P) (w := w) hsp n 0 #[] vs hl (by simpa using h)
  simpa [loadCells] using this

theorem underlying_info {t : TypeId} {d : TypeDesc} (h : P.underlying t = some d) : ∃ i, P.info? t = some i := by
  unfold Program.underlying at h
  split at h <;> first | exact ⟨_, ‹_›⟩ | simp at h

theorem run_underlying {t : TypeId} {d : TypeDesc} (h : P.underlying t = some d) : (Go.underlying t).run P w = .ok d w := by
  simp [Go.underlying, h]

theorem run_typeInfo {t : TypeId} {i : TypeInfo} (h : P.info? t = some i) : (typeInfo t).run P w = .ok i w := by
  simp [typeInfo, h]

theorem cellsOf_info {t : TypeId} {i : TypeInfo} (h : P.info? t = some i) : P.cellsOf t = i.size := by simp [Program.cellsOf, h]

theorem run_sizeOf {t : TypeId} (h : ∃ i, P.info? t = some i) : (sizeOf t).run P w = .ok (P.cellsOf t) w := by
  obtain ⟨i, hi⟩ := h
  simp [sizeOf, run_typeInfo hi, cellsOf_info hi]

theorem aggOf_spec {t : TypeId} {b : Bool} (h : aggOf P t = some b) : ∃ d, P.underlying t = some d ∧ b = (match d with | .struct _ => true | .array _ _ => true | _ => false) := by
  unfold aggOf at h
  cases hd : P.underlying t with
  | none => rw [hd] at h; simp at h
  | some d => rw [hd] at h; refine ⟨d, rfl, ?_⟩; cases d <;> simp_all

theorem run_isAgg {t : TypeId} {b : Bool} (h : aggOf P t = some b) : (isAgg t).run P w = .ok b w := by
  obtain ⟨d, hd, hb⟩ := aggOf_spec h
  simp only [isAgg, Sem.run_bind, run_underlying hd, Result.andThen_ok]
  cases d <;> simp_all

theorem oneOf_sound {t : TypeId} {cs : List DV} {d : DV} (h : oneOf P t cs = some d) {vs : List Value} (hv : DV.iss k cs vs) (hn : cs.length = P.cellsOf t ∨ True) :
    ∃ b, aggOf P t = some b ∧ (b = true → d.is k (.agg vs.toArray)) ∧ (b = false → ∃ v, vs = [v] ∧ d.is k v) := by
  unfold oneOf at h
  split at h
  · rename_i hb
    simp only [Option.some.injEq] at h; subst h
    exact ⟨true, hb, fun _ => mk_agg hv, by simp⟩
  · rename_i hb
    refine ⟨false, hb, by simp, fun _ => ?_⟩
    split at h
    · simp only [Option.some.injEq] at h; subst h
      obtain ⟨v, vs', rfl, h1, h2⟩ := DV.iss_cons_inv hv
      have := h2.length
      simp at this; subst this
      exact ⟨v, rfl, h1⟩
    · simp at h
  · simp at h

/-- 'loadVar' at known cells. -/
theorem run_loadVar {t : TypeId} {cs : List DV} {d : DV} (h : oneOf P t cs = some d) {vs : List Value} (hv : DV.iss k cs vs) (hlen : vs.length = P.cellsOf t) {b o : Nat}
    (hc : ∀ (j : Nat) (v : Value), vs[j]? = some v → w.cell? ⟨b, o + j, none⟩ = some v) : ∃ v, (loadVar t ⟨b, o, none⟩).run P w = .ok v w ∧ d.is k v := by
  obtain ⟨bb, hb, h1, h2⟩ := oneOf_sound (P := P) h hv (.inr trivial)
  obtain ⟨dsc, hd, _⟩ := aggOf_spec hb
  cases bb with
  | true =>
    refine ⟨_, ?_, h1 rfl⟩
    simp [loadVar, run_isAgg hb, run_sizeOf (underlying_info hd), run_loadCells (ad := ⟨b, o, none⟩) rfl hlen hc]
  | false =>
    obtain ⟨v, rfl, hv'⟩ := h2 rfl
    refine ⟨v, ?_, hv'⟩
    have := hc 0 v rfl
    simp at this
    simp [loadVar, run_isAgg hb, this]
end
end Go.Sx
/- Operations that touch no memory: what a shown tree gives of the machine's own step. -/
namespace Go.Sx
open Go.RowKit

/-- What an operation comes to: a value that the symbolic one stands for, at a later stage. -/
def OpPost (w0 : Fr) (gl : Glob) (ro : Option Nat) (a : Act) (Q : Env → GS → Out → St → Prop) (k : K) (r : Result Value) : Prop :=
  ∃ k' v d s' w', r = .ok v w' ∧ k.le k' ∧ StR w0 gl ro k' s' a w' ∧ d.is k' v ∧ Q k'.ρ k'.G (.val d) s'

/-- The same of an operation that leaves the world as it is. -/
def OpPostW (w0 : Fr) (gl : Glob) (ro : Option Nat) (a : Act) (Q : Env → GS → Out → St → Prop) (k : K) (w : World) (r : Result Value) : Prop :=
  ∃ k' v d s', r = .ok v w ∧ k.le k' ∧ StR w0 gl ro k' s' a w ∧ d.is k' v ∧ Q k'.ρ k'.G (.val d) s'

section
variable {P : Program} {w0 : Fr} {gl : Glob} {ro : Option Nat} {k : K} {s : St} {a : Act} {w : World} {Q : Env → GS → Out → St → Prop} {B : Backs}

theorem post_retv (hs : StR w0 gl ro k s a w) {d : DV} {v : Value} (hd : d.is k v) (h : (retv s d).sat P Q B k.ρ k.G) : OpPostW w0 gl ro a Q k w (.ok v w) :=
  ⟨k, v, d, s, rfl, K.le.refl k, hs, hd, h⟩

theorem OpPostW.to {r : Result Value} (h : OpPostW w0 gl ro a Q k w r) : OpPost w0 gl ro a Q k r := by
  obtain ⟨k', v, d, s', h⟩ := h
  exact ⟨k', v, d, s', w, h⟩

theorem OpPostW.andThen {r : Result Value} {f : Value → World → Result Value} (h : OpPostW w0 gl ro a Q k w r) (hf : ∀ v w, f v w = .ok v w) :
    OpPostW w0 gl ro a Q k w (r.andThen f) := by
  obtain ⟨k', v, d, s', rfl, h1, h2, h3, h4⟩ := h
  exact ⟨k', v, d, s', by simp [hf], h1, h2, h3, h4⟩

theorem sat_bad {m : String} (h : (bad m).sat P Q B k.ρ k.G) : False := by simp [bad, Tr.sat] at h

theorem post_of (hs : StR w0 gl ro k s a w) {d : DV} {v : Value} {r : Result Value} (hd : d.is k v) (h : (retv s d).sat P Q B k.ρ k.G) (hr : r = .ok v w) : OpPostW w0 gl ro a Q k w r :=
  ⟨k, v, d, s, hr, K.le.refl k, hs, hd, h⟩

theorem isI_bits {e f : E} {o : BinOp} {t : IntKind} {b c : Int} (h : e.isI k b) (h' : f.isI k c) : (mk2 (.bits o t) e f).isI k (bitsL o t b c) :=
  fun k' g => by rw [mk2_ii _ _ _ _ (by simp) (by simp)]; simp only [E.ii, h k' g, h' k' g]; unfold bitsL; cases o <;> rfl
theorem isI_shl {e f : E} {t : IntKind} {b c : Int} (h : e.isI k b) (h' : f.isI k c) : (mk2 (.shl t) e f).isI k (t.wrap (b * 2 ^ (min c.toNat t.bits))) :=
  fun k' g => by rw [mk2_ii _ _ _ _ (by simp) (by simp)]; simp only [E.ii, h k' g, h' k' g]
theorem isI_shr {e f : E} {t : IntKind} {b c : Int} (h : e.isI k b) (h' : f.isI k c) : (mk2 (.shr t) e f).isI k (b.fdiv (2 ^ (min c.toNat t.bits))) :=
  fun k' g => by rw [mk2_ii _ _ _ _ (by simp) (by simp)]; simp only [E.ii, h k' g, h' k' g]
theorem isB_lts {e f : E} {b c : ByteArray} (h : e.isS k b) (h' : f.isS k c) : (mk2 .lts e f).isB k (Op.bytesLess b.toList c.toList) := fun k' g => by rw [mk2_bb]; simp [E.bb, h k' g, h' k' g]
theorem isS_app {e f : E} {b c : ByteArray} (h : e.isS k b) (h' : f.isS k c) : (mk2 .app e f).isS k (b ++ c) := fun k' g => by rw [mk2_ss _ _ _ _ (by simp) (by simp)]; simp [E.ss, h k' g, h' k' g]

theorem isB_true {e : E} {b : Bool} (h : e.isB k b) (g : e.isB k true) : b = true := by rw [← h.here, g.here]

theorem unD_sound (hs : StR w0 gl ro k s a w) {o : UnOp} {x : DV} {v : Value} (hx : x.is k v) (h : (unD s o x).sat P Q B k.ρ k.G) : OpPostW w0 gl ro a Q k w ((Op.unary o v).run P w) := by
  unfold unD at h
  split at h
  · obtain ⟨b, rfl, hb⟩ := is_bool hx
    exact post_of hs (mk_bool (isB_not hb)) h rfl
  · obtain ⟨n, rfl, hn⟩ := is_int hx
    exact post_of hs (mk_int (isI_wrap (isI_sub (isI_lit 0) hn))) h (by simp [Op.unary, Op.intArith])
  · obtain ⟨n, rfl, hn⟩ := is_int hx
    exact post_of hs (mk_int (isI_bits (isI_lit _) hn)) h (by simp [Op.unary, Op.intBits, bitsL])
  · exact (sat_bad h).elim

theorem binD_int (hs : StR w0 gl ro k s a w) {o : BinOp} {t t' : IntKind} {e f : E} {m n : Int} (he : e.isI k m) (hf : f.isI k n) {xT : TypeId}
    (h : (binD s o (.int t e) (.int t' f)).sat P Q B k.ρ k.G) : OpPostW w0 gl ro a Q k w ((binOp o xT (.int t m) (.int t' n)).run P w) := by
  cases o with
  | shl =>
    simp only [binD] at h
    obtain ⟨p, hp, hc, h⟩ := sat_oblige hs ⟨_, isB_le (isI_lit 0) hf⟩ h
    have h0 : ¬ n < 0 := by have := isB_true (isB_le (isI_lit 0) hf) hc; simpa using this
    exact post_of (hs.withPc hp) (mk_int (isI_shl he hf)) h (by simp [binOp, Op.shift, h0])
  | shr =>
    simp only [binD] at h
    obtain ⟨p, hp, hc, h⟩ := sat_oblige hs ⟨_, isB_le (isI_lit 0) hf⟩ h
    have h0 : ¬ n < 0 := by have := isB_true (isB_le (isI_lit 0) hf) hc; simpa using this
    exact post_of (hs.withPc hp) (mk_int (isI_shr he hf)) h (by simp [binOp, Op.shift, h0])
  | _ =>
    simp only [binD] at h
    split at h
    · exact (sat_bad h).elim
    rename_i hk
    have hk : t = t' := by simpa using hk
    subst hk
    first
      | exact post_of hs (mk_int (isI_wrap (isI_add he hf))) h (by simp [binOp, Op.intArith])
      | exact post_of hs (mk_int (isI_wrap (isI_sub he hf))) h (by simp [binOp, Op.intArith])
      | exact post_of hs (mk_int (isI_wrap (isI_mul he hf))) h (by simp [binOp, Op.intArith])
      | exact post_of hs (mk_int (isI_bits he hf)) h (by simp [binOp, Op.intBits, bitsL])
      | exact post_of hs (mk_bool (isB_eqi he hf)) h (by simp [binOp, Op.intCmp])
      | exact post_of hs (mk_bool (isB_not (isB_eqi he hf))) h (by simp [binOp, Op.intCmp, bne])
      | exact post_of hs (mk_bool (isB_lt he hf)) h (by simp [binOp, Op.intCmp])
      | exact post_of hs (mk_bool (isB_le he hf)) h (by simp [binOp, Op.intCmp])
      | exact post_of hs (mk_bool (isB_lt hf he)) h (by simp [binOp, Op.intCmp])
      | exact post_of hs (mk_bool (isB_le hf he)) h (by simp [binOp, Op.intCmp])
      | (obtain ⟨p, hp, hc, h⟩ := sat_oblige hs ⟨_, isB_not (isB_eqi hf (isI_lit 0))⟩ h
         have h0 : ¬ n = 0 := by have := isB_true (isB_not (isB_eqi hf (isI_lit 0))) hc; simpa using this
         first
          | exact post_of (hs.withPc hp) (mk_int (isI_wrap (isI_tdiv he hf))) h (by simp [binOp, Op.intDiv, h0])
          | exact post_of (hs.withPc hp) (mk_int (isI_tmod he hf)) h (by simp [binOp, Op.intDiv, h0]))
      | exact (sat_bad h).elim

theorem binD_str (hs : StR w0 gl ro k s a w) {o : BinOp} {e f : E} {m n : ByteArray} (he : e.isS k m) (hf : f.isS k n) {xT : TypeId}
    (h : (binD s o (.str e) (.str f)).sat P Q B k.ρ k.G) : OpPostW w0 gl ro a Q k w ((binOp o xT (.string m) (.string n)).run P w) := by
  cases o with
  | add =>
    simp only [binD] at h
    obtain ⟨p, hp, hc, h⟩ := sat_oblige hs ⟨_, isB_le (isI_add (isI_len he) (isI_len hf)) (isI_lit _)⟩ h
    have h0 : ((m.size : Int) + n.size) ≤ 9223372036854775807 := by simpa using isB_true (isB_le (isI_add (isI_len he) (isI_len hf)) (isI_lit _)) hc
    refine post_of (hs.withPc hp) (mk_str (isS_app he hf)) h ?_
    have h1 : ¬ ((m.size + n.size : Nat) : Int) > IntKind.i64.max := by
      have : IntKind.i64.max = 9223372036854775807 := by decide
      rw [this]; omega
    simp only [binOp, Op.stringOp, if_neg h1]; rfl
  | eql => simp only [binD] at h; exact post_of hs (mk_bool (isB_eqs he hf)) h (by simp [binOp, Op.stringOp])
  | neq => simp only [binD] at h; exact post_of hs (mk_bool (isB_not (isB_eqs he hf))) h (by simp [binOp, Op.stringOp])
  | lss => simp only [binD] at h; exact post_of hs (mk_bool (isB_lts he hf)) h (by simp [binOp, Op.stringOp])
  | _ => simp only [binD] at h; exact (sat_bad h).elim
end
end Go.Sx
