/- What some of the program's functions compute, in plain Lean: runes of a text, heads of items. -/
import Derived.RangeFuncLeaves
import Derived.OrdersIn
import Derived.Laws.Externs
set_option linter.unusedSimpArgs false
set_option linter.unusedVariables false
namespace Go.Sx


theorem decode_pos (s : ByteArray) (i : Nat) : 1 ≤ (Utf8.decode s i).2 := by
  unfold Utf8.decode
  simp only
  repeat' (first | split | simp)

/-- A rune below 128 is a byte, and one long. -/
theorem decode_low {s : ByteArray} {i : Nat} (h : (Utf8.decode s i).1 < 128) : Utf8.decode s i = ((s.get! i).toNat, 1) ∧ (s.get! i).toNat < 128 := by
  unfold Utf8.decode at h ⊢
  simp only [Nat.add_zero] at h ⊢
  split at h
  · rename_i h0
    simp only [if_pos h0]
    exact ⟨trivial, h0⟩
  · exfalso
    split at h
    · split at h
      · rename_i h1; simp only at h; omega
      · simp [Utf8.runeError] at h
    · split at h
      · split at h
        · rename_i h1; simp only [Bool.and_eq_true, decide_eq_true_eq] at h1; simp only at h; omega
        · simp [Utf8.runeError] at h
      · split at h
        · split at h
          · rename_i h1; simp only [Bool.and_eq_true, decide_eq_true_eq] at h1; simp only at h; omega
          · simp [Utf8.runeError] at h
        · simp [Utf8.runeError] at h

theorem decode_high {s : ByteArray} {i : Nat} (h : (s.get! i).toNat < 128) : Utf8.decode s i = ((s.get! i).toNat, 1) := by
  unfold Utf8.decode
  simp only [Nat.add_zero]
  rw [if_pos (show (s.get! i).toNat < 0x80 from h)]

/-- Do all runes from a place on fit? -/
def ra (p : Nat → Bool) (s : ByteArray) (i : Nat) : Bool :=
  if i < s.size then p (Utf8.decode s i).1 && ra p s (i + (Utf8.decode s i).2) else true
termination_by s.size - i
decreasing_by
  have := decode_pos s i
  omega

theorem ra_lt {p : Nat → Bool} {s : ByteArray} {i : Nat} (h : i < s.size) : ra p s i = (p (Utf8.decode s i).1 && ra p s (i + (Utf8.decode s i).2)) := by
  rw [ra, if_pos h]
theorem ra_ge {p : Nat → Bool} {s : ByteArray} {i : Nat} (h : ¬ i < s.size) : ra p s i = true := by
  rw [ra, if_neg h]

/-- Where only runes below 128 fit, the bytes are asked. -/
theorem ra_bytes {p : Nat → Bool} (hp : ∀ r, p r = true → r < 128) (s : ByteArray) (i : Nat) : ra p s i = true ↔ ∀ j, i ≤ j → j < s.size → p (s.get! j).toNat = true := by
  generalize hn : s.size - i = n
  induction n generalizing i with
  | zero =>
    rw [ra_ge (by omega)]
    simp
    omega
  | succ n ih =>
    have hi : i < s.size := by omega
    rw [ra_lt hi]
    simp only [Bool.and_eq_true]
    constructor
    · rintro ⟨h1, h2⟩ j hj hjs
      obtain ⟨e, _⟩ := decode_low (hp _ h1)
      rw [e] at h1 h2
      by_cases hji : j = i
      · subst hji; exact h1
      · exact (ih (i + 1) (by omega)).1 h2 j (by omega) hjs
    · intro h
      have h1 := h i (Nat.le_refl i) hi
      have e := decode_high (hp _ h1)
      rw [e]
      exact ⟨h1, (ih (i + 1) (by omega)).2 fun j hj hjs => h j (by omega) hjs⟩

/-- Texts of low bytes: the same, whatever is asked of runes. -/
theorem ra_all {p : Nat → Bool} {s : ByteArray} (i : Nat) (h : ∀ j, i ≤ j → j < s.size → (s.get! j).toNat < 128 ∧ p (s.get! j).toNat = true) : ra p s i = true := by
  generalize hn : s.size - i = n
  induction n generalizing i with
  | zero => exact ra_ge (by omega)
  | succ n ih =>
    have hi : i < s.size := by omega
    rw [ra_lt hi, decode_high (h i (Nat.le_refl i) hi).1]
    simp only [Bool.and_eq_true]
    exact ⟨(h i (Nat.le_refl i) hi).2, ih (i + 1) (fun j hj hjs => h j (by omega) hjs) (by omega)⟩

/-- Is a number in one of some rows of numbers? -/
def inR (p : List (Nat × Nat)) (r : Nat) : Bool := p.any fun q => decide (q.1 ≤ r) && decide (r ≤ q.2)

def maxNum : Nat := 281474976710655

/-- A head's bytes: of a kind, and a number. -/
def headL (k : Nat) (n : Nat) : List Nat :=
  if n < 24 then [k * 32 + n]
  else if n < 256 then [k * 32 + 24, n]
  else if n < 65536 then [k * 32 + 25, n / 256 % 256, n % 256]
  else if n < 4294967296 then [k * 32 + 26, n / 16777216 % 256, n / 65536 % 256, n / 256 % 256, n % 256]
  else if n ≤ maxNum then [k * 32 + 27, 0, 0, n / 1099511627776 % 256, n / 4294967296 % 256, n / 16777216 % 256, n / 65536 % 256, n / 256 % 256, n % 256]
  else []

def headI (k n : Int) : List Nat := if 0 ≤ n then headL k.toNat n.toNat else []
end Go.Sx
/- A symbolic executor for the model's code: its syntax of values, its store, its run (no proofs here). -/
namespace Go.Sx

inductive O1 | wrap (k : IntKind) | not | len | allr (p : List (Nat × Nat))
  deriving DecidableEq, Repr
inductive O2 | add | sub | mul | tdiv | tmod | imax | imin | bits (o : BinOp) (k : IntKind) | shl (k : IntKind) | shr (k : IntKind) | byte | rune | rwid | idx
  | lt | le | eqi | eqs | lts | and | or | eqb | app | push | headE
  deriving DecidableEq, Repr
inductive O3 | ite | sub3
  deriving DecidableEq, Repr
/-- What is asked of a value that is not known: a slice's length, its capacity; is it a slice, has it a base, is it the nil interface value. -/
inductive OV | slen | scap | isSl | isSome | isNil
  deriving DecidableEq, Repr

/-- Expressions: whole numbers, bools, strings, in one syntax. -/
inductive E
  | lit (n : Int) | bl (b : Bool) | sl (l : List Nat)
  | iv (i : Nat) | bv (i : Nat) | sv (i : Nat) | vv (o : OV) (j : Nat)
  | o1 (o : O1) (a : E) | o2 (o : O2) (a b : E) | o3 (o : O3) (a b c : E)
  deriving Repr, Inhabited

def E.beq : E → E → Bool
  | .lit a, .lit b => a == b
  | .bl a, .bl b => a == b
  | .sl a, .sl b => a == b
  | .iv a, .iv b => a == b
  | .bv a, .bv b => a == b
  | .sv a, .sv b => a == b
  | .vv o a, .vv p b => o == p && a == b
  | .o1 o a, .o1 p b => o == p && a.beq b
  | .o2 o a b, .o2 p c d => o == p && a.beq c && b.beq d
  | .o3 o a b c, .o3 p d e f => o == p && a.beq d && b.beq e && c.beq f
  | _, _ => false

/-- What the variables stand for. -/
structure Env where
  i : List Int := []
  b : List Bool := []
  s : List ByteArray := []
  a : List Addr := []
  v : List Value := []

def sOf (l : List Nat) : ByteArray := ⟨(l.map UInt8.ofNat).toArray⟩

def ovI (v : Value) : OV → Int
  | .slen => match v with | .slice _ n _ => n | _ => 0
  | .scap => match v with | .slice _ _ c => c | _ => 0
  | _ => 0
def ovB (v : Value) : OV → Bool
  | .isSl => match v with | .slice _ _ _ => true | _ => false
  | .isSome => match v with | .slice (some _) _ _ => true | _ => false
  | .isNil => match v with | .nilIface => true | _ => false
  | _ => false

mutual
def E.ii (ρ : Env) : E → Int
  | .lit n => n
  | .iv i => ρ.i.getD i 0
  | .vv o j => ovI (ρ.v.getD j .nilIface) o
  | .o1 (.wrap k) a => k.wrap (a.ii ρ)
  | .o1 .len a => ((a.ss ρ).size : Int)
  | .o2 .add a b => a.ii ρ + b.ii ρ
  | .o2 .sub a b => a.ii ρ - b.ii ρ
  | .o2 .mul a b => a.ii ρ * b.ii ρ
  | .o2 .tdiv a b => (a.ii ρ).tdiv (b.ii ρ)
  | .o2 .tmod a b => (a.ii ρ).tmod (b.ii ρ)
  | .o2 .imax a b => if b.ii ρ > a.ii ρ then b.ii ρ else a.ii ρ
  | .o2 .imin a b => if b.ii ρ < a.ii ρ then b.ii ρ else a.ii ρ
  | .o2 (.bits o k) a b =>
    let x := BitVec.ofInt k.bits (a.ii ρ)
    let y := BitVec.ofInt k.bits (b.ii ρ)
    match o with
    | .and => k.wrap (x &&& y).toNat
    | .or => k.wrap (x ||| y).toNat
    | .xor => k.wrap (x ^^^ y).toNat
    | .andNot => k.wrap (x &&& ~~~y).toNat
    | _ => 0
  | .o2 (.shl k) a b => k.wrap (a.ii ρ * 2 ^ (min (b.ii ρ).toNat k.bits))
  | .o2 (.shr k) a b => (a.ii ρ).fdiv (2 ^ (min (b.ii ρ).toNat k.bits))
  | .o2 .byte a b => (((a.ss ρ).data[(b.ii ρ).toNat]?.getD 0).toNat : Int)
  | .o2 .rune a b => (Utf8.decode (a.ss ρ) (b.ii ρ).toNat).1
  | .o2 .idx a b => firstIdx (a.ss ρ) (b.ii ρ).toNat.toUInt8
  | .o2 .rwid a b => ((Utf8.decode (a.ss ρ) (b.ii ρ).toNat).2 : Int)
  | .o3 .ite c a b => if c.bb ρ then a.ii ρ else b.ii ρ
  | _ => 0
def E.bb (ρ : Env) : E → Bool
  | .bl b => b
  | .bv i => ρ.b.getD i false
  | .vv o j => ovB (ρ.v.getD j .nilIface) o
  | .o1 .not a => !(a.bb ρ)
  | .o1 (.allr p) a => ra (inR p) (a.ss ρ) 0
  | .o2 .lt a b => decide (a.ii ρ < b.ii ρ)
  | .o2 .le a b => decide (a.ii ρ ≤ b.ii ρ)
  | .o2 .eqi a b => a.ii ρ == b.ii ρ
  | .o2 .eqs a b => (a.ss ρ).toList == (b.ss ρ).toList
  | .o2 .lts a b => Op.bytesLess (a.ss ρ).toList (b.ss ρ).toList
  | .o2 .and a b => a.bb ρ && b.bb ρ
  | .o2 .or a b => a.bb ρ || b.bb ρ
  | .o2 .eqb a b => a.bb ρ == b.bb ρ
  | .o3 .ite c a b => if c.bb ρ then a.bb ρ else b.bb ρ
  | _ => false
def E.ss (ρ : Env) : E → ByteArray
  | .sl l => sOf l
  | .sv i => ρ.s.getD i ByteArray.empty
  | .o2 .app a b => a.ss ρ ++ b.ss ρ
  | .o2 .push a b => (a.ss ρ).push (UInt8.ofNat (b.ii ρ).toNat)
  | .o2 .headE a b => sOf (headI (a.ii ρ) (b.ii ρ))
  | .o3 .sub3 a l h => (a.ss ρ).extract (l.ii ρ).toNat (h.ii ρ).toNat
  | .o3 .ite c a b => if c.bb ρ then a.ss ρ else b.ss ρ
  | _ => ByteArray.empty
end

/-! ### Constant folding -/

def bitsL (o : BinOp) (k : IntKind) (a b : Int) : Int :=
  let x := BitVec.ofInt k.bits a
  let y := BitVec.ofInt k.bits b
  match o with
  | .and => k.wrap (x &&& y).toNat
  | .or => k.wrap (x ||| y).toNat
  | .xor => k.wrap (x ^^^ y).toNat
  | .andNot => k.wrap (x &&& ~~~y).toNat
  | _ => 0

def mk1 : O1 → E → E
  | .wrap k, .lit n => .lit (k.wrap n)
  | .not, .bl b => .bl !b
  | .not, .o1 .not a => .o1 .not (.o1 .not a)
  | .len, .sl l => .lit l.length
  | o, a => .o1 o a

def bLess : List Nat → List Nat → Bool
  | _, [] => false
  | [], _ :: _ => true
  | a :: x, b :: y => a < b || (a == b && bLess x y)

def mk2 : O2 → E → E → E
  | .add, .lit a, .lit b => .lit (a + b)
  | .sub, .lit a, .lit b => .lit (a - b)
  | .mul, .lit a, .lit b => .lit (a * b)
  | .tdiv, .lit a, .lit b => .lit (a.tdiv b)
  | .tmod, .lit a, .lit b => .lit (a.tmod b)
  | .imax, .lit a, .lit b => .lit (if b > a then b else a)
  | .imin, .lit a, .lit b => .lit (if b < a then b else a)
  | .bits o k, .lit a, .lit b => .lit (bitsL o k a b)
  | .shl k, .lit a, .lit b => .lit (k.wrap (a * 2 ^ (min b.toNat k.bits)))
  | .shr k, .lit a, .lit b => .lit (a.fdiv (2 ^ (min b.toNat k.bits)))
  | .lt, .lit a, .lit b => .bl (decide (a < b))
  | .le, .lit a, .lit b => .bl (decide (a ≤ b))
  | .eqi, .lit a, .lit b => .bl (a == b)
  | .and, .bl a, x => if a then x else .bl false
  | .and, x, .bl a => if a then x else .bl false
  | .or, .bl a, x => if a then .bl true else x
  | .or, x, .bl a => if a then .bl true else x
  | .eqb, .bl a, .bl b => .bl (a == b)
  | .eqs, .sl a, .sl b => .bl (a.map (· % 256) == b.map (· % 256))
  | .eqs, a, b => if a.beq b then .bl true else .o2 .eqs a b
  | .lts, .sl a, .sl b => .bl (Op.bytesLess (a.map UInt8.ofNat) (b.map UInt8.ofNat))
  | .byte, .sl l, .lit n => .lit ((l[n.toNat]?.getD 0 % 256 : Nat) : Int)
  | .rune, .sl l, .lit n => .lit (Utf8.decode (sOf l) n.toNat).1
  | .rwid, .sl l, .lit n => .lit (Utf8.decode (sOf l) n.toNat).2
  | .idx, .sl l, .lit n => .lit (firstIdx (sOf l) n.toNat.toUInt8)
  | .app, .sl a, .sl b => .sl (a ++ b)
  | .push, .sl a, .lit n => .sl (a ++ [n.toNat])
  | .headE, .lit k, .lit n => .sl (headI k n)
  | o, a, b => .o2 o a b

def mkSub : E → E → E → E
  | .sl l, .lit a, .lit b => .sl ((l.take b.toNat).drop a.toNat)
  | a, b, c => .o3 .sub3 a b c

/-- 'if' of bools. -/
def mkIte : E → E → E → E
  | .bl c, a, b => if c then a else b
  | c, a, .bl false => mk2 .and c a
  | c, .bl true, b => mk2 .or c b
  | a, b, c => .o3 .ite a b c

/-! ### Values -/

abbrev Id := Nat

inductive Base | id (n : Id) | av (j : Nat) | at_ (a : Addr) | rv (j : Nat)
  deriving DecidableEq, Repr
structure Ref where
  base : Base
  off : E
  deriving Repr

inductive DV
  | int (k : IntKind) (e : E) | bool (e : E) | str (e : E)
  | ptr (r : Ref) | nilptr
  | slice (r : Ref) (len cap : E) | nilslice
  | map (id : Id) | nilmap
  | fn (f : Fn) (first caps : List DV) | yld (id : Id) | nilfn
  | iface (t : TypeId) (v : DV) | nilif
  | agg (l : List DV) | tup (l : List DV)
  | raw (j : Nat)
  | gd (c : E) (v : DV)
  deriving Repr, Inhabited

/-- A store's blocks. -/
inductive DO
  | cells (cs : List DV) (elem : TypeId) (room : E)
  | bytes (e : E) (elem : TypeId) (room : E)
  | map (es : List (DV × DV))
  | siter (s : E) (pos : E)
  | loop (st : LoopState) (pend : Option Code) (fn : FuncId) (env : List (Nat × DV)) (nt : Nat) (params : List Tmp) (assign body : Code) (defers : Id)
  | dfr (b : Bool)
  | dead
  deriving Inhabited

def DO.live : DO → Bool
  | .dead => false
  | _ => true
/-- A block just made. -/
def DO.row (cs : List DV) (e : TypeId) : DO := .cells cs e (.lit cs.length)

structure Ctr where
  i : Nat := 0
  b : Nat := 0
  s : Nat := 0
  a : Nat := 0
  v : Nat := 0
  deriving Repr, Inhabited

structure St where
  fn : FuncId
  env : List (Nat × DV)
  heap : List (Id × DO)
  nx : Id
  nt : Nat := 0
  pc : List (E × Bool) := []
  ct : Ctr := {}
  rnd : Option Id := none
  marks : List Id := []
  /-- What was loaded of blocks that are known to stay. -/
  memo : List (TypeId × Ref × DV) := []
  deriving Inhabited

/-- The kinds of what comes back from a call that is not walked into, or out of memory that is not known. -/
inductive Sh
  | int (k : IntKind) | bool | str | raw | tup (l : List Sh) | agg (l : List Sh)
  deriving Repr, Inhabited

inductive Out | norm | exit (id : Nat) | goto (l : Nat) | ret | val (d : DV)
  deriving Inhabited

inductive Tr
  | leaf (o : Out) (s : St)
  | fail (why : String)
  | br (c : E) (t e : Tr)
  | ob (c : E) (t : Tr)
  | call (f : FuncId) (args : List DV) (sh : Sh) (s : St) (t : Tr)
  | load (r : Ref) (sh : Sh) (s : St) (t : Tr)
  | any (sh : Sh) (c : E) (s : St) (t : Tr)
  | loop (shs : List Sh) (vals : List DV) (s : St) (t : Tr)
  | back (lvl : Nat) (vals : List DV) (s : St)
  deriving Inhabited

/-- Back edges of loops further out, seen from within one loop more. -/
def Tr.shift (d : Nat) : Tr → Tr
  | .leaf o s => .leaf o s
  | .fail w => .fail w
  | .br c t e => .br c (t.shift d) (e.shift d)
  | .ob c t => .ob c (t.shift d)
  | .call f as sh s t => .call f as sh s (t.shift d)
  | .load r sh s t => .load r sh s (t.shift d)
  | .any sh c s t => .any sh c s (t.shift d)
  | .loop shs vs s t => .loop shs vs s (t.shift (d + 1))
  | .back l vs s => .back (if l < d then l else l + 1) vs s

def Tr.bind : Tr → (Out → St → Tr) → Tr
  | .leaf o s, k => k o s
  | .fail w, _ => .fail w
  | .br c t e, k => .br c (t.bind k) (e.bind k)
  | .ob c t, k => .ob c (t.bind k)
  | .call f as sh s t, k => .call f as sh s (t.bind k)
  | .load r sh s t, k => .load r sh s (t.bind k)
  | .any sh c s t, k => .any sh c s (t.bind k)
  | .loop shs vs s t, k => .loop shs vs s (t.bind fun o s => (k o s).shift 0)
  | .back l vs s, _ => .back l vs s

/-! ### Fresh values -/
mutual
def Sh.fresh : Sh → Ctr → DV × Ctr
  | .int k, c => (.int k (.iv c.i), { c with i := c.i + 1 })
  | .bool, c => (.bool (.bv c.b), { c with b := c.b + 1 })
  | .str, c => (.str (.sv c.s), { c with s := c.s + 1 })
  | .raw, c => (.raw c.v, { c with v := c.v + 1 })
  | .tup l, c => let (ds, c) := Sh.freshL l c; (.tup ds, c)
  | .agg l, c => let (ds, c) := Sh.freshL l c; (.agg ds, c)
def Sh.freshL : List Sh → Ctr → List DV × Ctr
  | [], c => ([], c)
  | x :: l, c => let (d, c) := x.fresh c; let (ds, c) := Sh.freshL l c; (d :: ds, c)
end

/-! ### Looking up -/
def look {α : Type} (n : Nat) : List (Nat × α) → Option α
  | [] => none
  | (m, v) :: l => if m == n then some v else look n l

def pcOf (c : E) : List (E × Bool) → Option Bool
  | [] => none
  | (d, v) :: l => if d.beq c then some v else pcOf c l

/-- Is a number known to be at least so great? -/
def leLit (m : Int) (e : E) : List (E × Bool) → Bool
  | [] => false
  | (.o2 .le (.lit n) e', true) :: l => (decide (m ≤ n) && e'.beq e) || leLit m e l
  | _ :: l => leLit m e l

/-- Is a number known to be at most so great? -/
def upLit (e : E) (m : Int) : List (E × Bool) → Bool
  | [] => false
  | (.o2 .le e' (.lit n), true) :: l => (decide (n ≤ m) && e'.beq e) || upLit e m l
  | _ :: l => upLit e m l

/-- Is a number known to be another one? -/
def neLit (e : E) (b : Int) : List (E × Bool) → Bool
  | [] => false
  | (.o2 .eqi e' (.lit a), true) :: l => (a != b && e'.beq e) || neLit e b l
  | _ :: l => neLit e b l

/-- Is a number surely at least, at most so great? -/
def atLeast (pc : List (E × Bool)) (m : Int) : E → Bool
  | .lit n => decide (m ≤ n)
  | .o1 .len a => decide (m ≤ 0) || leLit m (.o1 .len a) pc
  | .o2 .imax a b => atLeast pc m a || atLeast pc m b || leLit m (.o2 .imax a b) pc
  | .o2 .imin a b => (atLeast pc m a && atLeast pc m b) || leLit m (.o2 .imin a b) pc
  | e => leLit m e pc
def atMost (pc : List (E × Bool)) (m : Int) : E → Bool
  | .lit n => decide (n ≤ m)
  | .o2 .imax a b => (atMost pc m a && atMost pc m b) || upLit (.o2 .imax a b) m pc
  | .o2 .imin a b => atMost pc m a || atMost pc m b || upLit (.o2 .imin a b) m pc
  | e => upLit e m pc

/-- What is known of a bool on this way. -/
def decideE (pc : List (E × Bool)) : E → Option Bool
  | .bl b => some b
  | .o1 .not a => (decideE pc a).map (!·)
  | .o2 .and a b => match decideE pc a, decideE pc b with
    | some true, some true => some true
    | some false, _ => some false
    | _, some false => some false
    | _, _ => pcOf (.o2 .and a b) pc
  | .o2 .or a b => match decideE pc a, decideE pc b with
    | some false, some false => some false
    | some true, _ => some true
    | _, some true => some true
    | _, _ => pcOf (.o2 .or a b) pc
  | .o2 .le (.lit m) e => if atLeast pc m e then some true else pcOf (.o2 .le (.lit m) e) pc
  | .o2 .le e (.lit m) => if atMost pc m e then some true else pcOf (.o2 .le e (.lit m)) pc
  | .o2 .eqi e (.lit b) => if neLit e b pc then some false else pcOf (.o2 .eqi e (.lit b)) pc
  | c => pcOf c pc

/-- A condition met: its parts are known then. -/
def assume (c : E) (v : Bool) (pc : List (E × Bool)) : List (E × Bool) :=
  match c, v with
  | .o1 .not a, v => assume a (!v) pc
  | .o2 .and a b, true => assume a true (assume b true pc)
  | .o2 .or a b, false => assume a false (assume b false pc)
  | c, v => (c, v) :: pc

def branch (s : St) (c : E) (t e : St → Tr) : Tr :=
  match decideE s.pc c with
  | some true => t s
  | some false => e s
  | none => .br c (t { s with pc := assume c true s.pc }) (e { s with pc := assume c false s.pc })

def oblige (s : St) (c : E) (t : St → Tr) : Tr :=
  match decideE s.pc c with
  | some true => t s
  | _ => .ob c (t { s with pc := assume c true s.pc })

/-! ### Constants of the code as values -/
mutual
def ofValue : Value → Option DV
  | .bool b => some (.bool (.bl b))
  | .int k n => some (.int k (.lit n))
  | .string s => some (.str (.sl (s.data.toList.map (·.toNat))))
  | .pointer none => some .nilptr
  | .slice none 0 0 => some .nilslice
  | .map none => some .nilmap
  | .nilFunc => some .nilfn
  | .nilIface => some .nilif
  | .agg l => (ofValues l.toList).map .agg
  | .tuple l => (ofValues l.toList).map .tup
  | .iface t v => (ofValue v).map (.iface t)
  | _ => none
def ofValues : List Value → Option (List DV)
  | [] => some []
  | v :: l => match ofValue v, ofValues l with | some d, some ds => some (d :: ds) | _, _ => none
end

def undefD : DV := .tup []

def St.get (s : St) (t : Nat) : Option DV := if t < s.nt then look t s.env else none

/-- Strip a guarded value whose guard is known here. -/
def strip (pc : List (E × Bool)) : DV → DV
  | .gd c v => match decideE pc c with
    | some true => strip pc v
    | some false => undefD
    | none => .gd c v
  | d => d

def opd (s : St) : Operand → Option DV
  | .tmp t => (s.get t).map fun d => strip s.pc d
  | .const v => ofValue v
  | .global g => some (.ptr ⟨.at_ ⟨g, 0, none⟩, .lit 0⟩)
  | .func f => some (.fn (.func f) [] [])

def St.put (s : St) (dst : Option Tmp) (d : DV) : St :=
  match dst with
  | some t => { s with env := (t, d) :: s.env }
  | none => s

def DV.cellsL : DV → List DV
  | .agg l => l
  | d => [d]

/-! ### Types -/
def aggOf (P : Program) (t : TypeId) : Option Bool :=
  match P.underlying t with
  | some (.struct _) => some true
  | some (.array _ _) => some true
  | some _ => some false
  | none => none

def oneOf (P : Program) (t : TypeId) (cs : List DV) : Option DV :=
  match aggOf P t with
  | some true => some (.agg cs)
  | some false => match cs with | [d] => some d | _ => none
  | none => none

/-- Values of one cell. -/
def DV.oneD : DV → Bool
  | .agg _ | .tup _ | .gd _ _ => false
  | _ => true
def allOne (l : List DV) : Bool := l.all DV.oneD

def zeroD (P : Program) (t : TypeId) : Option (List DV) :=
  match P.info? t with
  | some i => match i.zero with
    | some v => match ofValues v.cells.toList with | some l => if allOne l then some l else none | none => none
    | none => none
  | none => none

/-- A type's zero as one value. -/
def zeroV (P : Program) (t : TypeId) : Option DV := ((P.info? t).bind (·.zero)).bind ofValue

def fieldsOf (P : Program) (t : TypeId) : Option (Array Field) :=
  match P.underlying t with
  | some (.struct fs) => some fs
  | _ => none

def elemT (P : Program) (t : TypeId) : Option TypeId :=
  match P.underlying t with
  | some (.slice e) => some e
  | _ => none

/-! ### Memory -/
def heapGet (h : List (Id × DO)) (id : Id) : Option DO := look id h

def takeAt {α : Type} (l : List α) (off n : Nat) : Option (List α) :=
  if off + n ≤ l.length then some ((l.drop off).take n) else none

def setAt {α : Type} (l : List α) (off : Nat) (new : List α) : Option (List α) :=
  if off + new.length ≤ l.length then some (l.take off ++ new ++ l.drop (off + new.length)) else none

def litNat : E → Option Nat
  | .lit (.ofNat n) => some n
  | _ => none

def Ref.plus (r : Ref) (n : E) : Ref := { r with off := mk2 .add r.off n }

/-- Package-level variables: what they hold; pointers to blocks of their own that stay. -/
structure Glob where
  l : List (Nat × List DV) := []
  sep : List Nat := []

/-- A row of cells that is remembered. -/
def memoRow (j : Nat) : List (TypeId × Ref × DV) → Option (List DV)
  | [] => none
  | (_, ⟨.rv i, e⟩, .agg l) :: m => if i == j && litNat e == some 0 then some l else memoRow j m
  | _ :: m => memoRow j m

/-- n cells at a place. -/
def readCells (gl : Glob) (s : St) (r : Ref) (n : Nat) : Option (List DV) :=
  match r.base, litNat r.off with
  | .id i, some off => match heapGet s.heap i with
    | some (.cells cs _ _) => takeAt cs off n
    | _ => none
  | .at_ a, some off => if a.spot.isSome then none else match look a.block gl.l with
    | some cs => takeAt cs (a.off + off) n
    | none => none
  | .rv j, some off => if n == 0 then none else match memoRow j s.memo with
    | some cs => takeAt cs off n
    | none => none
  | _, _ => none

def writeCells (s : St) (r : Ref) (new : List DV) : Option St :=
  match r.base, litNat r.off with
  | .id i, some off => match heapGet s.heap i with
    | some (.cells cs e m) => (setAt cs off new).map fun cs' => { s with heap := (i, .cells cs' e m) :: s.heap }
    | _ => none
  | _, _ => none

def St.new (s : St) (o : DO) : Id × St := (s.nx, { s with heap := (s.nx, o) :: s.heap, nx := s.nx + 1 })

/-! ### Cells of memory that is not known: their kinds by type -/
def shCell (P : Program) : Nat → TypeId → Option (List Sh)
  | 0, _ => none
  | d + 1, t =>
    match P.underlying t with
    | some (.int k) => some [.int k]
    | some .bool => some [.bool]
    | some .string => some [.str]
    | some (.struct fs) => fs.toList.foldr (fun f acc => match shCell P d f.type, acc with | some a, some b => some (a ++ b) | _, _ => none) (some [])
    | some (.array _ _) => none
    | some _ => some [.raw]
    | none => none

/-! ### Operations -/
def bad (w : String) : Tr := .fail w

def retv (s : St) (d : DV) : Tr := .leaf (.val d) s

def asInt? : DV → Option (IntKind × E)
  | .int k e => some (k, e)
  | _ => none

/-- Cells of a part as one value. -/
def partD (P : Program) (t : TypeId) (l : List DV) (off : Nat) : Option DV := (takeAt l off (P.cellsOf t)).bind (oneOf P t)

mutual
/-- Are two values the same ('==' at a type)? -/
def eqT (P : Program) : Nat → TypeId → DV → DV → Option E
  | 0, _, _, _ => none
  | n + 1, t, x, y => match P.underlying t, x, y with
    | some (.int _), .int k a, .int k' b => if k == k' then some (mk2 .eqi a b) else none
    | some .bool, .bool a, .bool b => some (mk2 .eqb a b)
    | some .string, .str a, .str b => some (mk2 .eqs a b)
    | some (.interface _), .nilif, .nilif => some (.bl true)
    | some (.interface _), .nilif, .iface _ _ => some (.bl false)
    | some (.interface _), .iface _ _, .nilif => some (.bl false)
    | some (.interface _), .iface t v, .iface u w => if t != u then some (.bl false) else
      match P.info? t with
      | some i => if i.comparable then eqT P n t v w else none
      | none => none
    | some (.func _ _ _), .nilfn, .nilfn => some (.bl true)
    | some (.func _ _ _), .nilfn, .fn _ _ _ => some (.bl false)
    | some (.func _ _ _), .fn _ _ _, .nilfn => some (.bl false)
    | some (.pointer _), .nilptr, .nilptr => some (.bl true)
    | some (.pointer _), .nilptr, .ptr r => (match r.base with | .id _ | .at_ _ => some (.bl false) | _ => none)
    | some (.pointer _), .ptr r, .nilptr => (match r.base with | .id _ | .at_ _ => some (.bl false) | _ => none)
    | some (.pointer e), .ptr r, .ptr q => (match r.base, q.base, litNat r.off, litNat q.off with
      | .id i, .id j, some m, some n => if i == j && P.cellsOf e != 0 && (P.info? e).isSome then some (.bl (m == n)) else none
      | _, _, _, _ => none)
    | some (.slice _), .nilslice, .nilslice => some (.bl true)
    | some (.slice _), .slice r _ _, .nilslice => (match r.base with | .id _ | .at_ _ => some (.bl false) | _ => none)
    | some (.slice _), .nilslice, .slice r _ _ => (match r.base with | .id _ | .at_ _ => some (.bl false) | _ => none)
    | some (.struct fs), .agg a, .agg b => if P.stoodInHeld t then none else eqFs P n a b fs.toList
    | _, _, _ => none
def eqFs (P : Program) : Nat → List DV → List DV → List Field → Option E
  | 0, _, _, _ => none
  | _ + 1, _, _, [] => some (.bl true)
  | n + 1, a, b, f :: fs =>
    if f.name == "_" then eqFs P n a b fs else
    match partD P f.type a f.offset, partD P f.type b f.offset with
    | some x, some y => match eqT P n f.type x y, eqFs P n a b fs with
      | some p, some q => some (mk2 .and p q)
      | _, _ => none
    | _, _ => none
end

/-- Is a value neither a struct or an array, nor the nil interface value? -/
def plainD : DV → Bool
  | .agg _ | .nilif | .raw _ | .gd _ _ => false
  | _ => true

/-- May two values be compared so, ahead of the comparison itself? -/
def eqOKD (P : Program) (t : TypeId) (const : Bool) (x y : DV) : Bool :=
  plainD x || plainD y || match x, y with
  | .agg _, .agg _ => !P.eqGuardType P.depth t
  | .nilif, .nilif => const
  | _, _ => false

def cmpHead : DV → Bool
  | .int _ _ | .str _ | .raw _ | .gd _ _ => false
  | _ => true

def cmpD (P : Program) (s : St) (o : BinOp) (t : TypeId) (const : Bool) (x y : DV) : Tr :=
  if !(cmpHead x && eqOKD P t const x y) then bad "==" else
  match o, eqT P 60 t x y with
  | .eql, some e => retv s (.bool e)
  | .neq, some e => retv s (.bool (mk1 .not e))
  | _, _ => bad "== of what"

def binD (s : St) (o : BinOp) (x y : DV) : Tr :=
  match o, x, y with
  | .shl, .int k a, .int _ b => oblige s (mk2 .le (.lit 0) b) fun s => retv s (.int k (mk2 (.shl k) a b))
  | .shr, .int k a, .int _ b => oblige s (mk2 .le (.lit 0) b) fun s => retv s (.int k (mk2 (.shr k) a b))
  | o, .int k a, .int k' b =>
    if k != k' then bad "kinds" else
    match o with
    | .add => retv s (.int k (mk1 (.wrap k) (mk2 .add a b)))
    | .sub => retv s (.int k (mk1 (.wrap k) (mk2 .sub a b)))
    | .mul => retv s (.int k (mk1 (.wrap k) (mk2 .mul a b)))
    | .quo => oblige s (mk1 .not (mk2 .eqi b (.lit 0))) fun s => retv s (.int k (mk1 (.wrap k) (mk2 .tdiv a b)))
    | .rem => oblige s (mk1 .not (mk2 .eqi b (.lit 0))) fun s => retv s (.int k (mk2 .tmod a b))
    | .and => retv s (.int k (mk2 (.bits .and k) a b))
    | .or => retv s (.int k (mk2 (.bits .or k) a b))
    | .xor => retv s (.int k (mk2 (.bits .xor k) a b))
    | .andNot => retv s (.int k (mk2 (.bits .andNot k) a b))
    | .eql => retv s (.bool (mk2 .eqi a b))
    | .neq => retv s (.bool (mk1 .not (mk2 .eqi a b)))
    | .lss => retv s (.bool (mk2 .lt a b))
    | .leq => retv s (.bool (mk2 .le a b))
    | .gtr => retv s (.bool (mk2 .lt b a))
    | .geq => retv s (.bool (mk2 .le b a))
    | _ => bad "int op"
  | o, .str a, .str b =>
    match o with
    | .add => oblige s (mk2 .le (mk2 .add (mk1 .len a) (mk1 .len b)) (.lit 9223372036854775807)) fun s => retv s (.str (mk2 .app a b))
    | .eql => retv s (.bool (mk2 .eqs a b))
    | .neq => retv s (.bool (mk1 .not (mk2 .eqs a b)))
    | .lss => retv s (.bool (mk2 .lts a b))
    | _ => bad "string op"
  | _, _, _ => bad "binop"

def fillD (place : Nat → Option (Nat × Nat)) (cells : List DV) : List (Nat × DV) → Option (List DV)
  | [] => some cells
  | (i, v) :: rest => match place i with
    | none => none
    | some (off, size) =>
      if v.cellsL.length != size then none else
      match setAt cells off v.cellsL with
      | some cells' => fillD place cells' rest
      | none => none

def opds (s : St) : List Operand → Option (List DV)
  | [] => some []
  | x :: l => match opd s x, opds s l with | some d, some ds => some (d :: ds) | _, _ => none

def opdParts (s : St) : List (Nat × Operand) → Option (List (Nat × DV))
  | [] => some []
  | (i, x) :: l => match opd s x, opdParts s l with | some d, some ds => some ((i, d) :: ds) | _, _ => none

def rep {α : Type} (n : Nat) (l : List α) : List α := match n with | 0 => [] | n + 1 => l ++ rep n l

def Base.beq : Base → Base → Bool
  | .id a, .id b => a == b
  | .av a, .av b => a == b
  | .rv a, .rv b => a == b
  | .at_ a, .at_ b => a == b
  | _, _ => false

def memoGet (t : TypeId) (r : Ref) : List (TypeId × Ref × DV) → Option DV
  | [] => none
  | (u, q, d) :: l => if u == t && q.base.beq r.base && q.off.beq r.off then some d else memoGet t r l

/-- Is a value one of a type's variables (a struct or an array, or one cell)? -/
def memoOK (P : Program) (t : TypeId) (d : DV) : Bool :=
  match aggOf P t, d with
  | some true, .agg l => l.length == P.cellsOf t
  | some false, d => d.oneD
  | _, _ => false

/-- Load a variable of a type. -/
def loadD (P : Program) (gl : Glob) (s : St) (t : TypeId) (x : DV) : Tr :=
  match x with
  | .ptr r =>
    match readCells gl s r (P.cellsOf t) with
    | some cs => match oneOf P t cs with | some d => retv s d | none => bad "load: cells"
    | none =>
      match r.base with
      | .id _ => bad "load: id"
      | _ => match memoGet t r s.memo with | some d => (if memoOK P t d then retv s d else bad "load: memo") | none => match shCell P 20 t, aggOf P t with
        | some sh, some true => if sh.length != P.cellsOf t then bad "load: size" else
          let (d, c) := (Sh.agg sh).fresh s.ct
          .load r (.agg sh) s (retv { s with ct := c, memo := (t, r, d) :: s.memo } d)
        | some [sh], some false =>
          if !(sh.fresh s.ct).1.oneD then bad "load: shape" else
          let (d, c) := sh.fresh s.ct
          .load r sh s (retv { s with ct := c, memo := (t, r, d) :: s.memo } d)
        | _, _ => bad "load: type"
  | _ => bad "load: address"

def storeD (P : Program) (s : St) (t : TypeId) (x v : DV) : Tr :=
  match x with
  | .ptr r =>
    if v.cellsL.length == P.cellsOf t && (P.info? t).isSome && allOne v.cellsL then
      match writeCells s r v.cellsL with
      | some s' => retv s' undefD
      | none => bad "store"
    else bad "store: size"
  | _ => bad "store: address"

/-- An index within bounds. -/
def inBounds (i n : E) : E := mk2 .and (mk2 .le (.lit 0) i) (mk2 .lt i n)

/-- Is a number surely not below 0? -/
def nonneg (pc : List (E × Bool)) : E → Bool
  | .lit n => decide (0 ≤ n)
  | .o2 .add a b => nonneg pc a && nonneg pc b
  | .o2 .mul a b => nonneg pc a && nonneg pc b
  | .o1 .len _ => true
  | .vv .slen _ | .vv .scap _ => true
  | e => decideE pc (.o2 .le (.lit 0) e) == some true

/-- A place further on. -/
def plusD (s : St) (r : Ref) (n : E) (f : Ref → Tr) : Tr :=
  if nonneg s.pc r.off && nonneg s.pc n then f (r.plus n) else bad "plus: below 0?"

/-- Has a place a block? -/
def hasBase (r : Ref) : E := match r.base with | .rv j => .vv .isSome j | .av _ => .bl false | _ => .bl true

/-- A value that is not known, met as a slice. -/
def withSlice (s : St) (x : DV) (k : St → DV → Tr) : Tr :=
  match x with
  | .raw j => oblige s (.vv .isSl j) fun s => k s (.slice ⟨.rv j, .lit 0⟩ (.vv .slen j) (.vv .scap j))
  | x => k s x

/-- Are all variables of an expression there already? -/
def E.inCt (c : Ctr) : E → Bool
  | .lit _ | .bl _ | .sl _ => true
  | .iv i => decide (i < c.i)
  | .bv i => decide (i < c.b)
  | .sv i => decide (i < c.s)
  | .vv _ i => decide (i < c.v)
  | .o1 _ a => a.inCt c
  | .o2 _ a b => a.inCt c && b.inCt c
  | .o3 _ a b d => a.inCt c && b.inCt c && d.inCt c

def boundE (o : Option DV) (dflt : E) : Option E := match o with | none => some dflt | some (.int _ e) => some e | some _ => none

/-- The two bounds of a slice. -/
def boundsD (s : St) (lo hi : Option DV) (len cap : E) (f : St → E → E → Tr) : Tr :=
  match boundE lo (.lit 0), boundE hi len with
  | some l, some h =>
    if !(len.inCt s.ct && cap.inCt s.ct) then bad "slice: lengths" else
    oblige s (mk2 .and (mk2 .le (.lit 0) h) (mk2 .le h cap)) fun s =>
    oblige s (mk2 .and (mk2 .le (.lit 0) l) (mk2 .le l h)) fun s => f s l h
  | _, _ => bad "slice: bound"

def sliceS (s : St) (x : DV) (lo hi : Option DV) : Tr :=
  match x with
  | .str e => boundsD s lo hi (mk1 .len e) (mk1 .len e) fun s l h => retv s (.str (mkSub e l h))
  | _ => bad "slice: no string"

def sliceD (s : St) (esz : Nat) (x : DV) (lo hi : Option DV) : Tr :=
  withSlice s x fun s x => match x with
  | .slice r n c => boundsD s lo hi n c fun s l h =>
    match l with
    | .lit 0 => retv s (.slice r h c)
    | l => branch s (mk2 .eqi l c)
      (fun s => retv s (.slice r (mk2 .sub h l) (mk2 .sub c l)))
      (fun s => plusD s r (mk2 .mul l (.lit esz)) fun r => retv s (.slice r (mk2 .sub h l) (mk2 .sub c l)))
  | .nilslice => boundsD s lo hi (.lit 0) (.lit 0) fun s _ _ => retv s .nilslice
  | _ => bad "slice: what"

end Go.Sx
/- The run of the symbolic executor: operations, code, calls (no proofs here). -/
namespace Go.Sx

def withOp (s : St) (x : Operand) (k : DV → Tr) : Tr := match opd s x with | some d => k d | none => bad "operand"
def withOps (s : St) (xs : List Operand) (k : List DV → Tr) : Tr := match opds s xs with | some ds => k ds | none => bad "operands"

def withOpt (s : St) (o : Option Operand) (k : Option DV → Tr) : Tr := match o with | none => k none | some x => withOp s x fun d => k (some d)

def gdOpd (s : St) (pc : List (E × Bool)) : Operand → Option DV
  | .tmp t => (s.get t).map fun d => strip pc d
  | x => opd s x

def pickD (s : St) (c a b : Operand) : Tr :=
  withOp s c fun c => match c with
  | .bool e => match decideE s.pc e with
    | some true => withOp s a (retv s)
    | some false => withOp s b (retv s)
    | none => match gdOpd s (assume e true s.pc) a, gdOpd s (assume e false s.pc) b with
      | some (.bool x), some (.bool y) => retv s (.bool (mkIte e x y))
      | some (.int k x), some (.int k' y) => if k == k' then retv s (.int k (.o3 .ite e x y)) else bad "pick: kinds"
      | some (.str x), some (.str y) => retv s (.str (.o3 .ite e x y))
      | _, _ => branch s e (fun s => withOp s a (retv s)) (fun s => withOp s b (retv s))
  | _ => bad "pick"

def buildD (P : Program) (s : St) (t : TypeId) (ps : List (Nat × DV)) : Tr :=
  if !allOne (ps.flatMap fun p => p.2.cellsL) then bad "build: a guarded part" else
  match zeroD P t with
  | none => bad "build: zero"
  | some z => match P.underlying t with
    | some (.struct fs) =>
      if !(fs.all fun f => (P.info? f.type).isSome) then bad "build: types" else
      match fillD (fun i => (fs[i]?).map fun f => (f.offset, P.cellsOf f.type)) z ps with
      | some cs => retv s (.agg cs)
      | none => bad "build: parts"
    | some (.array _ e) =>
      if (P.info? e).isNone then bad "build: types" else
      match fillD (fun i => some (i * P.cellsOf e, P.cellsOf e)) z ps with
      | some cs => retv s (.agg cs)
      | none => bad "build: parts"
    | _ => bad "build: type"

def buildSliceD (P : Program) (s : St) (t : TypeId) (n : Nat) (ps : List (Nat × DV)) : Tr :=
  if !allOne (ps.flatMap fun p => p.2.cellsL) then bad "build: a guarded part" else
  match elemT P t with
  | none => bad "buildSlice"
  | some e => match zeroD P e with
    | none => bad "buildSlice: zero"
    | some z => if z.length != P.cellsOf e then bad "buildSlice: size" else match fillD (fun i => some (i * P.cellsOf e, P.cellsOf e)) (rep n z) ps with
      | some cs => if allOne cs && n * P.cellsOf e ≤ 16777216 then let (i, s) := s.new (.row cs e); retv s (.slice ⟨.id i, .lit 0⟩ (.lit n) (.lit n)) else bad "buildSlice: cells"
      | none => bad "buildSlice: parts"

def unD (s : St) (o : UnOp) (x : DV) : Tr :=
  match o, x with
  | .not, .bool e => retv s (.bool (mk1 .not e))
  | .neg, .int k e => retv s (.int k (mk1 (.wrap k) (mk2 .sub (.lit 0) e)))
  | .xor, .int k e => retv s (.int k (mk2 (.bits .xor k) (.lit (if k.signed then -1 else k.max)) e))
  | _, _ => bad "unop"

def intsOf : List DV → Option (List E)
  | [] => some []
  | .int .u8 e :: l => (intsOf l).map (e :: ·)
  | _ => none

def strStep (acc e : E) : E :=
  match acc, e with
  | .sl xs, .lit (.ofNat n) => if n < 256 then .sl (xs ++ [n]) else .o2 .push acc e
  | _, _ => .o2 .push acc e

def strOf (l : List E) : E := l.foldl strStep (.sl [])

def convD (P : Program) (gl : Glob) (s : St) (src dst : TypeId) (x : DV) : Tr :=
  match P.underlying src, P.underlying dst, x with
  | some _, some (.int k), .int _ e => retv s (.int k (mk1 (.wrap k) e))
  | some _, some .string, .str e => retv s (.str e)
  | some (.slice e), some .string, x =>
    match P.underlying e with
    | some (.int .u8) => match x with
      | .nilslice => retv s (.str (.sl []))
      | .slice r n _ => match litNat n with
        | some n => match readCells gl s r n with
          | some cs => match intsOf cs with | some es => retv s (.str (strOf es)) | none => bad "convert: bytes"
          | none => bad "convert: cells"
        | none => bad "convert: length"
      | _ => bad "convert: slice"
    | _ => bad "convert: elem"
  | some (.pointer _), some .unsafePointer, .nilptr => retv s .nilptr
  | some .unsafePointer, some (.pointer _), .nilptr => retv s .nilptr
  | some (.pointer t), some .unsafePointer, .ptr r => (match r.base, litNat r.off with
    | .id i, some off => match heapGet s.heap i with
      | some (.cells _ _ m) => match litNat m with
        | some n => if P.cellsOf t != 0 && off < n && (P.info? t).isSome then retv s (.ptr r) else bad "convert: to u.Pointer"
        | none => bad "convert: room"
      | _ => bad "convert: block"
    | _, _ => bad "convert: what pointer")
  | some .unsafePointer, some (.pointer u), .ptr r => (match r.base, litNat r.off with
    | .id i, some off => match heapGet s.heap i with
      | some (.cells _ e m) => match litNat m with
        | some n => if P.cellsOf u != 0 && (P.info? u).isSome && liesAt P P.depth e (n / P.cellsOf e) off u 1 then retv s (.ptr r) else bad "convert: from u.Pointer"
        | none => bad "convert: room"
      | _ => bad "convert: block"
    | _, _ => bad "convert: what pointer")
  | _, _, _ => bad "convert"

def fieldAddrD (P : Program) (s : St) (t : TypeId) (x : DV) (f : Nat) : Tr :=
  match x with
  | .ptr r => match (fieldsOf P t).bind (·[f]?) with
    | some fd => if P.cellsOf fd.type == 0 then bad "fieldAddr: empty" else oblige s (hasBase r) fun s => plusD s r (.lit fd.offset) fun r => retv s (.ptr r)
    | none => bad "fieldAddr"
  | _ => bad "fieldAddr: address"

def fieldD (P : Program) (s : St) (t : TypeId) (x : DV) (f : Nat) : Tr :=
  match x with
  | .agg l => match (fieldsOf P t).bind (·[f]?) with
    | some fd => match takeAt l fd.offset (P.cellsOf fd.type) with
      | some cs => match oneOf P fd.type cs with | some d => retv s d | none => bad "field: cells"
      | none => bad "field"
    | none => bad "field"
  | _ => bad "field: what"

def indexAddrD (P : Program) (s : St) (t : TypeId) (x i : DV) : Tr :=
  match i with
  | .int _ i => withSlice s x fun s x => match P.underlying t, x with
    | some (.slice e), .slice r n _ => if (P.info? e).isNone then bad "indexAddr: type" else oblige s (hasBase r) fun s => oblige s (inBounds i n) fun s => plusD s r (mk2 .mul i (.lit (P.cellsOf e))) fun r => retv s (.ptr r)
    | some (.array n e), .ptr r => if (P.info? e).isNone then bad "indexAddr: type" else oblige s (hasBase r) fun s => oblige s (inBounds i (.lit n)) fun s => plusD s r (mk2 .mul i (.lit (P.cellsOf e))) fun r => retv s (.ptr r)
    | _, _ => bad "indexAddr"
  | _ => bad "indexAddr: index"

def indexD (P : Program) (s : St) (t : TypeId) (x i : DV) : Tr :=
  match i with
  | .int _ i => match P.underlying t, x with
    | some .string, .str e => oblige s (inBounds i (mk1 .len e)) fun s => retv s (.int .u8 (mk2 .byte e i))
    | some (.array n e), .agg l => match litNat i with
      | some j => if n ≤ j then bad "index: out" else match takeAt l (j * P.cellsOf e) (P.cellsOf e) with
        | some cs => match oneOf P e cs with | some d => retv s d | none => bad "index: cells"
        | none => bad "index"
      | none => bad "index: array at a place that is not known"
    | _, _ => bad "index"
  | _ => bad "index: index"

/-- Is a key an entry's? -/
def keyEq (kind : TypeDesc) (k k' : DV) : Option E :=
  match kind, k, k' with
  | .int _, .int t a, .int u b => if t == u then some (mk2 .eqi a b) else none
  | .string, .str a, .str b => some (mk2 .eqs a b)
  | .bool, .bool a, .bool b => some (mk2 .eqb a b)
  | _, _, _ => none

def kindOK : TypeDesc → Bool
  | .int _ | .string | .bool => true
  | _ => false

/-- Look a key up: way by way. -/
def lookD (kind : TypeDesc) (s : St) (k : DV) (none_ : St → Tr) (hit : St → DV → Tr) : List (DV × DV) → Tr
  | [] => none_ s
  | (k', v) :: l => match keyEq kind k k' with
    | some e => branch s e (fun s => hit s v) (fun s => lookD kind s k none_ hit l)
    | none => bad "lookup: key"

def lookupD (P : Program) (s : St) (t : TypeId) (x k : DV) (ok : Bool) : Tr :=
  match P.underlying t with
  | some (.map kt e) => match P.underlying kt, zeroV P e with
    | some kind, some z =>
      if !kindOK kind then bad "lookup: kind" else
      let fin (s : St) (v : DV) (b : Bool) : Tr := retv s (if ok then .tup [v, .bool (.bl b)] else v)
      match x with
      | .map id => match heapGet s.heap id with
        | some (.map es) => lookD kind s k (fun s => fin s z false) (fun s v => fin s v true) es
        | _ => bad "lookup: no map"
      | _ => bad "lookup: what"
    | _, _ => bad "lookup: zero"
  | _ => bad "lookup: type"

/-- Put a key: way by way. -/
def mapPutD (kind : TypeDesc) (s : St) (id : Id) (k v : DV) (pre : List (DV × DV)) : List (DV × DV) → Tr
  | [] => retv { s with heap := (id, .map (pre ++ [(k, v)])) :: s.heap } undefD
  | (k', v') :: l => match keyEq kind k k' with
    | some e => branch s e
      (fun s => retv { s with heap := (id, .map (pre ++ (k', v) :: l)) :: s.heap } undefD)
      (fun s => mapPutD kind s id k v (pre ++ [(k', v')]) l)
    | none => bad "map: key"

def mapUpdateD (P : Program) (s : St) (t : TypeId) (x k v : DV) : Tr :=
  match P.underlying t with
  | some (.map kt _) => match P.underlying kt, x with
    | some kind, .map id => if !kindOK kind then bad "map: kind" else match heapGet s.heap id with
      | some (.map es) => mapPutD kind s id k v [] es
      | _ => bad "map: none"
    | _, _ => bad "map: what"
  | _ => bad "map: type"

def nextD (s : St) (it : DV) : Tr :=
  match it with
  | .ptr r => match r.base with
    | .id i => match litNat r.off, heapGet s.heap i with
      | some 0, some (.siter e p) =>
        branch s (mk2 .lt p (mk1 .len e))
          (fun s => retv { s with heap := (i, .siter e (mk2 .add p (mk2 .rwid e p))) :: s.heap } (.tup [.bool (.bl true), .int .i64 p, .int .i32 (mk2 .rune e p)]))
          (fun s => retv s (.tup [.bool (.bl false)]))
      | _, _ => bad "next"
    | _ => bad "next"
  | _ => bad "next"

def typeAssertD (P : Program) (s : St) (x : DV) (asT : TypeId) (ok : Bool) : Tr :=
  let holds (d : DV) : Tr := retv s (if ok then .tup [d, .bool (.bl true)] else d)
  let fails : Tr := if ok then match zeroV P asT with | some z => retv s (.tup [z, .bool (.bl false)]) | none => bad "typeAssert: zero" else bad "typeAssert: panics"
  match P.underlying asT, x with
  | some (.interface _), .nilif => fails
  | some (.interface want), .iface t v => match P.info? t with
    | some i => match Instr.missingMethod want i.methods with | none => holds (.iface t v) | some _ => fails
    | none => bad "typeAssert"
  | some _, .nilif => fails
  | some _, .iface t v => if t == asT then holds v else fails
  | _, _ => bad "typeAssert: what"

def makeSliceD (P : Program) (s : St) (t : TypeId) (n c : DV) : Tr :=
  match elemT P t, n, c with
  | some e, .int _ n, .int _ c => match litNat n, litNat c, zeroD P e with
    | some n, some c, some z => if n ≤ c && c ≤ 1000000 && P.bytesOf e ≤ 65536 && z.length == P.cellsOf e then
        let (i, s) := s.new (.row (rep c z) e); retv s (.slice ⟨.id i, .lit 0⟩ (.lit n) (.lit c))
      else bad "makeSlice: size"
    | _, _, _ => bad "makeSlice: not known"
  | _, _, _ => bad "makeSlice"

def lenD (P : Program) (s : St) (t : TypeId) (x : DV) : Tr :=
  match P.underlying t with
  | some .string => (match x with | .str e => retv s (.int .i64 (mk1 .len e)) | _ => bad "len")
  | some (.slice _) => withSlice s x fun s x => match x with
    | .slice _ n _ => if nonneg s.pc n then retv s (.int .i64 n) else bad "len: below 0?"
    | .nilslice => retv s (.int .i64 (.lit 0))
    | _ => bad "len"
  | some (.map _ _) => (match x with
    | .nilmap => retv s (.int .i64 (.lit 0))
    | .map i => (match heapGet s.heap i with | some (.map es) => retv s (.int .i64 (.lit es.length)) | _ => bad "len")
    | _ => bad "len")
  | _ => bad "len: type"

def maxFrom (o : O2) (k : IntKind) (a : E) : List DV → Option E
  | [] => some a
  | .int _ b :: l => maxFrom o k (mk2 o a b) l
  | _ => none

/-- The lesser of two, where it is known which. -/
def redMin (pc : List (E × Bool)) : E → E
  | .o2 .imin a (.lit n) => if decideE pc (mk2 .le (.lit n) a) == some true then .lit n else .o2 .imin a (.lit n)
  | e => e

def maxsD (s : St) (o : O2) : List DV → Tr
  | .int k a :: l => match maxFrom o k a l with | some e => retv s (.int k (redMin s.pc e)) | none => bad "max, min"
  | _ => bad "max, min"

/-- A store that tells of a block no more. -/
def killO (h : List (Id × DO)) : Option Id → List (Id × DO)
  | some i => (i, .dead) :: h
  | none => h

def maxLenE : E := .lit 9223372036854775807

/-- What append reads of its first operand: the block, the cells, the length. -/
def appOld (s : St) (e : TypeId) (esz : Nat) (x : DV) : Option (Option Id × List DV × Nat) :=
  match x with
  | .nilslice => some (none, [], 0)
  | .slice ⟨.id i, off⟩ n c => match litNat off, litNat n, heapGet s.heap i with
    | some 0, some n, some (.cells cs e' m) =>
      if e' == e && n * esz ≤ cs.length && m.beq (mk2 .mul c (.lit esz)) && decideE s.pc (mk2 .le (.lit n) c) == some true && decideE s.pc (mk2 .le c maxLenE) == some true
      then some (some i, cs.take (n * esz), n) else none
    | _, _, _ => none
  | _ => none

/-- A row of bytes with some more behind. -/
def appStr (s : St) (el : TypeId) (i : Option Id) (e : E) : Tr :=
  let len := mk1 .len e
  let c := s.ct.i
  oblige s (mk2 .le len (.lit 1000000)) fun s =>
  .any (.int .i64) (mk2 .and (mk2 .le len (.iv c)) (mk2 .and (mk2 .le (.iv c) maxLenE) (mk2 .le (.lit 1) (.iv c)))) s <| retv { s with
      ct := { s.ct with i := c + 1 }
      pc := (mk2 .le len (.iv c), true) :: (mk2 .le (.iv c) maxLenE, true) :: (mk2 .le (.lit 1) (.iv c), true) :: s.pc
      heap := (s.nx, .bytes e el (.iv c)) :: killO s.heap i
      nx := s.nx + 1 }
    (.slice ⟨.id s.nx, .lit 0⟩ len (.iv c))

def appendStrD (P : Program) (s : St) (el : TypeId) (x : DV) (e : E) : Tr :=
  match P.underlying el, zeroD P el with
  | some (.int .u8), some [_] =>
    if !(P.cellsOf el == 1 && P.bytesOf el == 1 && e.inCt s.ct) then bad "append: bytes" else
    match x with
    | .nilslice => branch s (mk2 .eqi (mk1 .len e) (.lit 0)) (fun s => retv s .nilslice) fun s => appStr s el none e
    | .slice ⟨.id i, off⟩ n c => match litNat off, heapGet s.heap i with
      | some 0, some (.bytes eo el' m) =>
        if el' == el && n.beq (mk1 .len eo) && m.beq c && eo.inCt s.ct && decideE s.pc (mk2 .le c maxLenE) == some true && decideE s.pc (mk2 .le (.lit 1) c) == some true
        then appStr s el (some i) (mk2 .app eo e) else bad "append: the row of bytes"
      | _, _ => bad "append: no row of bytes"
    | _ => bad "append: to what"
  | _, _ => bad "append: no bytes"

def unsafeStringD (P : Program) (s : St) (pt : TypeId) (p n : DV) : Tr :=
  match p, n with
  | .nilptr, .int .i64 n => oblige s (mk2 .eqi n (.lit 0)) fun s => retv s (.str (.sl []))
  | .ptr ⟨.id i, off⟩, .int .i64 n => match litNat off, heapGet s.heap i, P.underlying pt with
    | some 0, some (.bytes e el m), some (.pointer u) =>
      if u == el && P.cellsOf el == 1 && n.beq (mk1 .len e) && decideE s.pc (mk2 .le m maxLenE) == some true then retv { s with heap := (i, .dead) :: s.heap } (.str e) else bad "u.String: bytes"
    | _, _, _ => bad "u.String: row"
  | _, _ => bad "u.String"

/-- append where the lengths are known: the block that comes of it is a new one, and the old one is told of no more. -/
def appendD (P : Program) (gl : Glob) (s : St) (t : TypeId) (x y : DV) : Tr :=
  match elemT P t with
  | none => bad "append: type"
  | some e =>
    let esz := P.cellsOf e
    match zeroD P e, y with
    | some z, .slice r m _ =>
      if z.length != esz || esz == 0 || P.bytesOf e > 65536 then bad "append: element" else
      match litNat m with
      | some (m + 1) => match readCells gl s r ((m + 1) * esz), appOld s e esz x with
        | some new, some (i, old, n) =>
          if !allOne new || n + m > 1000000 then bad "append: size" else
          let c := s.ct.i
          let len := n + (m + 1)
          .any (.int .i64) (mk2 .and (mk2 .le (.lit len) (.iv c)) (mk2 .le (.iv c) maxLenE)) s <| retv { s with
              ct := { s.ct with i := c + 1 }
              pc := (mk2 .le (.lit len) (.iv c), true) :: (mk2 .le (.iv c) maxLenE, true) :: s.pc
              heap := (s.nx, .cells (old ++ new) e (mk2 .mul (.iv c) (.lit esz))) :: killO s.heap i
              nx := s.nx + 1 }
            (.slice ⟨.id s.nx, .lit 0⟩ (.lit len) (.iv c))
        | _, _ => bad "append: cells"
      | some 0 => (match x with | .nilslice => retv s .nilslice | _ => bad "append: nothing")
      | none => bad "append: what is appended"
    | _, _ => bad "append: element, second"

def builtinD (P : Program) (gl : Glob) (s : St) (b : Builtin) (argT : List TypeId) (args : List DV) : Tr :=
  match b, args with
  | .len, [x] => match argT with | t :: _ => lenD P s t x | _ => bad "len"
  | .max, l => maxsD s .imax l
  | .min, l => maxsD s .imin l
  | .append, [x, y] => match argT with
    | [t, u] => if t == u then appendD P gl s t x y else match y, elemT P t, P.underlying u with
      | .str e, some el, some .string => appendStrD P s el x e
      | _, _, _ => bad "append: types"
    | _ => bad "append"
  | .unsafeSliceData, [x] => (match x with
    | .nilslice => retv s .nilptr
    | .slice r _ c => oblige s (mk2 .le (.lit 1) c) fun s => retv s (.ptr r)
    | _ => bad "u.SliceData")
  | .unsafeString, [p, n] => (match argT with | [t, _] => unsafeStringD P s t p n | _ => bad "u.String")
  | _, _ => bad ("builtin " ++ (reprStr b))

def isConst : Operand → Bool
  | .const _ => true
  | _ => false

def nilCheckD (s : St) (d : DV) : Tr :=
  match d with
  | .ptr r => oblige s (hasBase r) fun s => retv s d
  | .fn (.func _) _ _ | .iface _ _ => retv s d
  | _ => bad "nilCheck"

def rangeD (P : Program) (s : St) (t : TypeId) (d : DV) : Tr :=
  match P.underlying t, d with
  | some .string, .str e => let (i, s) := s.new (.siter e (.lit 0)); retv s (.ptr ⟨.id i, .lit 0⟩)
  | _, _ => bad "range"

def extractD (s : St) (i : Nat) (d : DV) : Tr :=
  match d with
  | .tup l => (match l[i]? with | some d => retv s d | none => bad "extract")
  | _ => bad "extract: no tuple"

def makeMapOK (P : Program) (s : St) (t : TypeId) (r : Option Operand) : Bool :=
  match r with
  | none => true
  | some x => match P.underlying t, opd s x with | some (.map _ _), some (.int _ _) => true | _, _ => false

/-- An operation that is no call of a function. -/
def opD (P : Program) (gl : Glob) (s : St) (o : Oper) : Tr :=
  match o.op with
  | .move x | .assign x => withOp s x (retv s)
  | .pick c a b => pickD s c a b
  | .alloc t => match zeroD P t with | some z => let (i, s) := s.new (.row z t); retv s (.ptr ⟨.id i, .lit 0⟩) | none => bad "alloc"
  | .box t x => withOp s x fun d => if allOne d.cellsL then let (i, s) := s.new (.row d.cellsL t); retv s (.ptr ⟨.id i, .lit 0⟩) else bad "box"
  | .build t ps => match opdParts s ps.toList with | some l => buildD P s t l | none => bad "operands"
  | .buildSlice t n ps => match opdParts s ps.toList with | some l => buildSliceD P s t n l | none => bad "operands"
  | .load t x => withOp s x (loadD P gl s t)
  | .store t x v => withOp s x fun x => withOp s v fun v => storeD P s t x v
  | .nilCheck x => withOp s x (nilCheckD s)
  | .binOp op t x y _ => withOp s x fun a => withOp s y fun b =>
    match a, b with
    | .int _ _, .int _ _ => binD s op a b
    | .str _, .str _ => binD s op a b
    | a, b => cmpD P s op t (isConst x || isConst y) a b
  | .unOp op _ x => withOp s x (unD s op)
  | .convert a b x => withOp s x (convD P gl s a b)
  | .makeInterface t x => withOp s x fun d => match P.underlying t with | some (.interface _) => bad "makeInterface" | some _ => retv s (.iface t d) | none => bad "makeInterface"
  | .makeFunc f fs cs => withOps s fs.toList fun fs => withOps s cs.toList fun cs => retv s (.fn f fs cs)
  | .makeMap t r =>
    if makeMapOK P s t r then let (i, s) := s.new (.map []); retv s (.map i) else bad "makeMap"
  | .makeSlice t n c => withOp s n fun n => withOp s c fun c => makeSliceD P s t n c
  | .slice t x l h m =>
    if m.isSome then bad "slice: three" else
    withOp s x fun d => withOpt s l fun l => withOpt s h fun h =>
      match P.underlying t with
      | some .string => sliceS s d l h
      | some (.slice e) => if (P.info? e).isNone then bad "slice: type" else sliceD s (P.cellsOf e) d l h
      | _ => bad "slice: type"
  | .fieldAddr t x f => withOp s x fun d => fieldAddrD P s t d f
  | .field t x f => withOp s x fun d => fieldD P s t d f
  | .indexAddr t x i => withOp s x fun d => withOp s i fun i => indexAddrD P s t d i
  | .index t x i => withOp s x fun d => withOp s i fun i => indexD P s t d i
  | .lookup t x i ok => withOp s x fun d => withOp s i fun i => lookupD P s t d i ok
  | .mapUpdate t m k v | .insert t m k v => withOp s m fun m => withOp s k fun k => withOp s v fun v => mapUpdateD P s t m k v
  | .range t x => withOp s x (rangeD P s t)
  | .next it true => withOp s it (nextD s)
  | .typeAssert x _ t ok => withOp s x fun d => typeAssertD P s d t ok
  | .extract x i => withOp s x (extractD s i)
  | .call { callee := .builtin b, args, argTypes } => withOps s args.toList fun ds => builtinD P gl s b argTypes.toList ds
  | _ => bad "op"

/-- Operations that touch no memory, always go through, and never part: they may stand under a guard that is not decided. -/
def pureOp : Op → Bool
  | .move _ | .assign _ | .pick .. | .build .. | .unOp .. | .makeInterface .. | .makeFunc .. | .extract .. | .field .. | .convert .. => true
  | .binOp o .. => (match o with | .quo | .rem | .shl | .shr => false | _ => true)
  | .call { callee := .builtin .len, .. } | .call { callee := .builtin .max, .. } | .call { callee := .builtin .min, .. } => true
  | .load .. | .fieldAddr .. => true
  | _ => false

/-- When a guard lets by. -/
def guardE (d : DV) (want : Bool) : Option E :=
  match d with
  | .bool e => some (if want then e else mk1 .not e)
  | .gd c v => (guardE v want).map (mk2 .and c ·)
  | .tup [] => some (.bl false)
  | _ => none

/-- How a loop is cut: the temporaries that go round, with their kinds; the temporaries that hold iterators over strings. -/
structure LoopSpec where
  tmps : List (Tmp × Sh) := []
  its : List Tmp := []

structure Cfg where
  P : Program
  ctr : FuncId → List DV → Option Sh := fun _ _ => none
  unroll : Nat := 40
  gl : Glob := {}
  /-- loops that are cut: by function, by the number of the loop's first region -/
  cut : FuncId → Nat → Option LoopSpec := fun _ _ => none
  /-- calls that are answered in place, by what was shown of the function before -/
  prim : FuncId → List DV → St → Option (DV × St) := fun _ _ _ => none

/-- Either order: a bool more. -/
def forkS (s : St) : St := { s with ct := { s.ct with b := s.ct.b + 1 } }

inductive Job
  | code (c : Code)
  | ops (l : List Oper) (all : Array Oper)
  | call (f : DV) (args : List DV)
  | enter (f : FuncId) (args : List DV)
  | loop (c : Code) (left : Nat)
  | draw (ops : Array Oper) (done : Array Bool) (rd : List (Nat × Tmp × DV))
  deriving Inhabited

def zipParams (ps : List Tmp) (ds : List DV) (env : List (Nat × DV)) : List (Nat × DV) :=
  match ps, ds with
  | p :: ps, d :: ds => zipParams ps ds ((p, d) :: env)
  | _, _ => env

def argEnv (n : Nat) : List DV → List (Nat × DV)
  | [] => []
  | d :: l => (n, d) :: argEnv (n + 1) l

def undefs (n : Nat) (k : Nat) : List (Nat × DV) := match k with | 0 => [] | k + 1 => (n, undefD) :: undefs (n + 1) k

def resultOf (P : Program) (gl : Glob) (s : St) : ResultVar → Option DV
  | .tmp t => s.get t
  | .cell a t => match s.get a with
    | some (.ptr r) => (readCells gl s r (P.cellsOf t)).bind (oneOf P t)
    | _ => none

def resultsOf (P : Program) (gl : Glob) (s : St) : List ResultVar → Option (List DV)
  | [] => some []
  | r :: l => match resultOf P gl s r, resultsOf P gl s l with | some d, some ds => some (d :: ds) | _, _ => none

def killMarks (h : List (Id × DO)) : List Id → Option (List (Id × DO))
  | [] => some h
  | i :: l => match heapGet h i with
    | some (.dfr true) => killMarks ((i, .dfr false) :: h) l
    | _ => none

def retOf : List DV → DV
  | [d] => d
  | ds => .tup ds

def dstOf (all : Array Oper) (j : Nat) : Option Tmp := (all[j]?).bind (·.dst)

def fnParts : DV → Option (FuncId × List DV × List DV)
  | .fn (.func g) first caps => some (g, first, caps)
  | _ => none

/-- Behind a range over a function: the pending jump. -/
def endRange (l : Id) (out : Out) (s3 : St) : Tr :=
  match out with
  | .val _ => match heapGet s3.heap l with
    | some (.loop st pend fn env nt ps asg body dfs) =>
      if st == LoopState.busy then .fail "endLoop: busy" else
      let s4 := { s3 with heap := (l, .loop .exhausted pend fn env nt ps asg body dfs) :: s3.heap }
      match pend with
      | none => .leaf .norm s4
      | some .ret => .leaf .ret s4
      | some (.exit i) => .leaf (.exit i) s4
      | some (.goto t) => .leaf (.goto t) s4
      | some _ => .fail "pending"
    | _ => .fail "endLoop: none"
  | _ => .fail "rangeFunc: no value"

/-- Operations that read, and do no more. -/
def readOp : Op → Bool
  | .move _ | .pick .. | .unOp .. | .makeInterface .. | .makeFunc .. | .extract .. | .field .. | .load .. | .fieldAddr .. | .indexAddr .. | .index .. | .convert ..
  | .binOp .. | .build .. | .slice .. | .lookup .. | .typeAssert .. | .nilCheck _ => true
  | .call { callee := .builtin .len, .. } | .call { callee := .builtin .max, .. } | .call { callee := .builtin .min, .. } | .call { callee := .builtin .unsafeSliceData, .. } => true
  | _ => false

/-- Does an operation come directly after another one? -/
def forced (md : Region.Mode) (ops : Array Oper) (j i : Nat) : Bool := match ops[j]? with
  | some o => o.after.any fun e => Region.binds md e && e.on == i
  | none => false

/-- May a reader be late, as far as the temporaries go? -/
def mayLate (md : Region.Mode) (ops : Array Oper) (i : Nat) (t : Tmp) : Bool :=
  match ops[i]? with
  | some oi => oi.dst == some t && !(oi.looksAt ops).contains t && !(oi.op matches .select _ _) && !(oi.op matches .defer _) &&
    (List.range ops.size).all fun j => j == i || forced md ops j i || (match ops[j]? with | some oj => !(oj.looksAt ops).contains t && !(oj.dst == some t) && !(oj.op matches .select _ _) && !(oj.op matches .defer _) | none => true)
  | none => false

/-- The first reader among those that are ready. -/
def pickRd (ops : Array Oper) : List Nat → Option (Nat × Tmp × Oper)
  | [] => none
  | i :: l => match ops[i]? with
    | some o => if readOp o.op then (match o.dst with | some t => if mayLate .any ops i t then some (i, t, o) else pickRd ops l | none => pickRd ops l) else pickRd ops l
    | none => pickRd ops l

/-- An operation under its guard. -/
def guardTr (s : St) (all : Array Oper) (o : Oper) (doIt skip : St → Tr) : Tr :=
  match o.guard with
  | none => doIt s
  | some (j, want) => match ((dstOf all j).bind (s.get ·)).bind fun d => guardE (strip s.pc d) want with
    | some g => branch s g doIt skip
    | none => .fail "guard"

def readTr (P : Program) (gl : Glob) (all : Array Oper) (o : Oper) (s : St) : Tr := guardTr s all o (fun s => opD P gl s o) fun s => retv s undefD

mutual
def DV.beq : DV → DV → Bool
  | .int k e, .int k' e' => k == k' && e.beq e'
  | .bool e, .bool e' => e.beq e'
  | .str e, .str e' => e.beq e'
  | .ptr r, .ptr r' => r.base == r'.base && r.off.beq r'.off
  | .nilptr, .nilptr => true
  | .slice r n c, .slice r' n' c' => r.base == r'.base && r.off.beq r'.off && n.beq n' && c.beq c'
  | .nilslice, .nilslice => true
  | .map i, .map j => i == j
  | .nilmap, .nilmap => true
  | .fn f l m, .fn f' l' m' => (match f, f' with | .func g, .func g' => g == g' | _, _ => false) && DV.beqs l l' && DV.beqs m m'
  | .yld i, .yld j => i == j
  | .nilfn, .nilfn => true
  | .iface t v, .iface t' v' => t == t' && v.beq v'
  | .nilif, .nilif => true
  | .agg l, .agg l' => DV.beqs l l'
  | .tup l, .tup l' => DV.beqs l l'
  | .raw i, .raw j => i == j
  | .gd c v, .gd c' v' => c.beq c' && v.beq v'
  | _, _ => false
def DV.beqs : List DV → List DV → Bool
  | [], [] => true
  | a :: l, b :: m => a.beq b && DV.beqs l m
  | _, _ => false
end

/-- Readers that may be late are read once more: the same values. -/
def recheck (P : Program) (gl : Glob) (all : Array Oper) : List (Nat × Tmp × DV) → St → Tr
  | [], s => .leaf .norm s
  | (i, _, d) :: l, s => match all[i]? with
    | some o => (readTr P gl all o s).bind fun out s' => match out with
      | .val d' => if d'.beq d then recheck P gl all l s' else .fail "draw: another value"
      | _ => .fail "draw"
    | none => .fail "draw"

/-- Operations that make a block. -/
def isMake : Op → Bool
  | .alloc _ => true
  | .buildSlice _ _ _ => true
  | _ => false

/-- An operation that makes a block, and may be early as far as the temporaries go: its temporary. -/
def floatT (ops : Array Oper) (i : Nat) : Option Tmp :=
  match ops[i]? with
  | some o => match o.dst, o.guard with
    | some t, none =>
      if isMake o.op && !(o.looksAt ops).contains t && (List.range ops.size).all (fun j => j == i || (match (ops[j]?).bind (·.dst) with | some u => u != t && (!(o.looksAt ops).contains u || forced .any ops i j) | none => true)) then some t else none
    | _, _ => none
  | none => none

def floatNow (P : Program) (gl : Glob) (s : St) (ops : Array Oper) (i : Nat) : Bool :=
  match ops[i]? with
  | some o => (match opD P gl s o with | .leaf (.val _) _ => true | _ => false)
  | none => false

def setDone (l : List Nat) (done : Array Bool) : Array Bool := l.foldl (fun d i => d.setIfInBounds i true) done

def St.drop (s : St) (t : Tmp) : St := { s with env := s.env.filter fun p => p.1 != t }

def St.drops (s : St) (ts : List Tmp) : St := ts.foldl St.drop s

/-- One operation is carried out; the others that are ready make blocks, and may be early. -/
def pickM1 (P : Program) (gl : Glob) (s : St) (ops : Array Oper) (done : Array Bool) (r : List Nat) (j : Nat) : Option (List Tmp) :=
  let others := r.filter (· != j)
  if others.all (fun i => (floatT ops i).isSome && floatNow P gl s ops i) && Region.ready .any ops (setDone others done) == [j] then some (others.filterMap (floatT ops)) else none

def pickM (P : Program) (gl : Glob) (s : St) (ops : Array Oper) (done : Array Bool) (r : List Nat) : List Nat → Option (List Tmp × Nat)
  | [] => none
  | j :: l => match pickM1 P gl s ops done r j with
    | some ts => some (ts, j)
    | none => pickM P gl s ops done r l

/-- A store into a block of the run's own: the block, and what it holds then. -/
def storeAt (P : Program) (s : St) (o : Oper) : Option (Id × DO) :=
  if o.guard.isSome || o.dst.isSome then none else match o.op with
  | .store t x v => match opd s x, opd s v with
    | some (.ptr ⟨.id i, off⟩), some d => if d.cellsL.length == P.cellsOf t && (P.info? t).isSome && allOne d.cellsL then (match litNat off, heapGet s.heap i with
        | some off, some (.cells cs e m) => (setAt cs off d.cellsL).map fun cs' => (i, .cells cs' e m)
        | _, _ => none) else none
    | _, _ => none
  | _ => none

def isLeafN : Tr → Bool
  | .leaf .norm _ => true
  | _ => false

/-- Two stores into two blocks, in either order. -/
def pairAt (P : Program) (gl : Glob) (s : St) (ops : Array Oper) (done : Array Bool) (rd : List (Nat × Tmp × DV)) (x y : Nat) : Option St :=
  match ops[x]?, ops[y]? with
  | some ox, some oy => match storeAt P s ox, storeAt P s oy with
    | some (i, X), some (j, Y) =>
      if i != j && Region.ready .any ops (done.setIfInBounds x true) == [y] && Region.ready .any ops (done.setIfInBounds y true) == [x] && Region.ready .any ops done == [x, y] && (rd.all fun r => forced .any ops x r.1) &&
        isLeafN (recheck P gl ops (rd.filter fun r => !forced .any ops y r.1) { s with heap := (j, Y) :: s.heap })
      then some { s with heap := (j, Y) :: (i, X) :: s.heap } else none
    | _, _ => none
  | _, _ => none

def noDraw : Op → Bool
  | .defer _ | .select _ _ => true
  | _ => false

def loopKey : Code → Nat
  | .region id _ _ => id
  | .seq a _ => loopKey a
  | .block _ a => loopKey a
  | .scope a => loopKey a
  | .loop a => loopKey a
  | _ => 0

/-- The temporaries that code may set. -/
def setBy : Code → List Tmp
  | .region _ ops _ => ops.toList.filterMap (·.dst)
  | .seq a b => setBy a ++ setBy b
  | .cond _ a b => setBy a ++ setBy b
  | .block _ a => setBy a
  | .loop a => setBy a
  | .scope a => setBy a
  | .rangeFunc _ ps asg body => ps.toList ++ setBy asg ++ setBy body
  | _ => []

/-- Kinds of one number, bool or text. -/
def Sh.flat : Sh → Bool
  | .int _ | .bool | .str => true
  | _ => false

def LoopSpec.shs (sp : LoopSpec) : List Sh := sp.tmps.map (·.2) ++ sp.its.map fun _ => .int .i64

/-- Has a value a kind? -/
def hasSh : Sh → DV → Bool
  | .int k, .int k' _ => k == k'
  | .bool, .bool _ => true
  | .str, .str _ => true
  | _, _ => false

def carried (s2 : St) : List (Tmp × Sh) → Option (List DV)
  | [] => some []
  | (t, sh) :: l => match s2.get t, carried s2 l with
    | some d, some ds => if hasSh sh d then some (d :: ds) else none
    | _, _ => none

/-- The iterator that a temporary holds. -/
def iterAt (s : St) (t : Tmp) : Option (Id × E × E) :=
  match s.get t with
  | some (.ptr ⟨.id i, .lit 0⟩) => match heapGet s.heap i with
    | some (.siter e p) => some (i, e, p)
    | _ => none
  | _ => none

def carriedIt (s s2 : St) : List Tmp → Option (List DV)
  | [] => some []
  | t :: l => match iterAt s t, carriedIt s s2 l with
    | some (i, e, _), some ds => match heapGet s2.heap i with
      | some (.siter e' p') => if e'.beq e then some (.int .i64 p' :: ds) else none
      | _ => none
    | _, _ => none

def DO.beq : DO → DO → Bool
  | .cells cs e m, .cells cs' e' m' => DV.beqs cs cs' && e == e' && m.beq m'
  | .bytes e t m, .bytes e' t' m' => e.beq e' && t == t' && m.beq m'
  | .map l, .map l' => DV.beqs (l.map (·.1)) (l'.map (·.1)) && DV.beqs (l.map (·.2)) (l'.map (·.2))
  | .siter e p, .siter e' p' => e.beq e' && p.beq p'
  | .dfr b, .dfr b' => b == b'
  | .dead, _ => true
  | _, _ => false

def itIds (s : St) (l : List Tmp) : List Id := l.filterMap fun t => (iterAt s t).map (·.1)

/-- Has nothing turned but what goes round? -/
def sameBut (s s2 : St) (sp : LoopSpec) (mods : List Tmp) : Bool :=
  s2.nt == s.nt && s2.marks == s.marks && s2.rnd == s.rnd && s2.fn == s.fn && decide (s.nx ≤ s2.nx) &&
  (s.env.all fun p => mods.contains p.1 || (match look p.1 s.env, look p.1 s2.env with | some d, some d' => d'.beq d | _, _ => false)) &&
  (s.heap.all fun p => (itIds s sp.its).contains p.1 || (match look p.1 s.heap, look p.1 s2.heap with | some o, some o' => o.beq o' | _, _ => false))

/-- What goes round, at a state. -/
def roundVals (s s2 : St) (sp : LoopSpec) (mods : List Tmp) : Option (List DV) :=
  if sameBut s s2 sp mods then match carried s2 sp.tmps, carriedIt s s2 sp.its with
    | some a, some b => some (a ++ b)
    | _, _ => none
  else none

def setIts (s : St) : List Tmp → List DV → List (Id × DO) → List (Id × DO)
  | t :: l, d :: ds, h => match iterAt s t, d with
    | some (i, e, _), .int _ p => (i, .siter e p) :: setIts s l ds h
    | _, _ => setIts s l ds h
  | _, _, h => h

/-- A state at any round. -/
def genState (s : St) (sp : LoopSpec) (mods : List Tmp) : St :=
  let f := Sh.freshL sp.shs s.ct
  { s with
    env := (sp.tmps.map (·.1)).zip f.1 ++ s.env.filter fun p => !mods.contains p.1
    heap := setIts s sp.its (f.1.drop sp.tmps.length) s.heap
    ct := f.2 }

/-- May a loop be cut so? -/
def specOK (s : St) (sp : LoopSpec) (mods : List Tmp) : Bool :=
  sp.tmps.all (fun p => p.2.flat && mods.contains p.1) && (itIds s sp.its).length == sp.its.length && decide (itIds s sp.its).Nodup && (s.heap.all fun p => match p.2 with | .loop .. => false | _ => true) && decide (sp.tmps.map (·.1)).Nodup

def ev (C : Cfg) : Nat → Job → St → Tr
  | 0, _, _ => .fail "fuel"
  | n + 1, job, s =>
    match job with
    | .ops [] _ => .leaf .norm s
    | .ops (o :: l) all =>
      let doIt (s : St) : Tr :=
        (match o.op with
        | .call { callee := .value f, args, .. } => withOp s f fun f => withOps s args.toList fun ds => ev C n (.call f ds) s
        | _ => opD C.P C.gl s o).bind fun out s => match out with
          | .val d => ev C n (.ops l all) (s.put o.dst d)
          | _ => .fail "ops: no value"
      match o.guard with
      | none => doIt s
      | some (j, want) => match ((dstOf all j).bind (s.get ·)).bind fun d => guardE (strip s.pc d) want with
        | some g =>
          let skip (s : St) : Tr := ev C n (.ops l all) (s.put o.dst undefD)
          match decideE s.pc g with
          | some true => doIt s
          | some false => skip s
          | none =>
            if pureOp o.op then
              match opD C.P C.gl { s with pc := assume g true s.pc } o with
              | .leaf (.val d) _ => ev C n (.ops l all) (s.put o.dst (.gd g d))
              | _ => branch s g doIt skip
            else branch s g doIt skip
        | none => .fail "guard"
    | .call f args =>
      match f with
      | .fn (.func g) first caps => match C.prim g (first ++ args ++ caps) s with
        | some (d, s') => retv s' d
        | none => match C.ctr g (first ++ args ++ caps) with
          | some sh => if ((C.P.funcs[g]?).bind (·.body)).isNone then .fail "contract: no body" else let (d, c) := sh.fresh s.ct; .call g (first ++ args ++ caps) sh s (retv { s with ct := c } d)
          | none => ev C n (.enter g (first ++ args ++ caps)) s
      | .yld l => match heapGet s.heap l with
        | some (.loop .ready _ fn env nt ps asg body _) =>
          if ps.length != args.length then .fail "yield: arguments" else
          let s1 : St := { s with fn := fn, env := zipParams ps args env, nt := nt, rnd := some l, marks := [] }
          (ev C n (.code asg) s1).bind fun out s2 => match out with
            | .norm => match heapGet s2.heap l with
              | some (.loop .ready p2 f2 e2 n2 ps2 a2 b2 d2) =>
                (ev C n (.code body) { s2 with heap := (l, .loop .busy p2 f2 e2 n2 ps2 a2 b2 d2) :: s2.heap }).bind fun out s3 =>
                  match heapGet s3.heap l with
                  | some (.loop _ _ f3 e3 n3 ps3 a3 b3 d3) =>
                    let fin (jump : Option Code) : Tr := .leaf (.val (.bool (.bl jump.isNone)))
                      { s3 with fn := s.fn, env := s.env, nt := s.nt, rnd := s.rnd, marks := s.marks, heap := (l, .loop (if jump.isNone then .ready else .done) jump f3 e3 n3 ps3 a3 b3 d3) :: s3.heap }
                    match out with
                    | .norm => fin none
                    | .ret => fin (some .ret)
                    | .exit id => fin (some (.exit id))
                    | .goto t => fin (some (.goto t))
                    | .val _ => .fail "round: value"
                  | _ => .fail "round: no loop behind it"
              | _ => .fail "round: no loop"
            | _ => .fail "round: assign"
        | _ => .fail "yield: no loop"
      | _ => .fail "call: what"
    | .enter g args =>
      match C.P.funcs[g]? with
      | some fn => match fn.body with
        | some c =>
          (ev C n (.code c) { s with fn := g, env := argEnv 0 args ++ undefs args.length (fn.ntmps - args.length), nt := max fn.ntmps args.length, rnd := none, marks := [] }).bind fun out s2 =>
            let fin : Tr := match killMarks s2.heap s2.marks with
              | some h => match resultsOf C.P C.gl { s2 with heap := h } fn.results.toList with
                | some ds => .leaf (.val (retOf ds)) { s2 with heap := h, fn := s.fn, env := s.env, nt := s.nt, rnd := s.rnd, marks := s.marks }
                | none => .fail "results"
              | none => .fail "marks"
            match out with
            | .norm => fin
            | .ret => fin
            | _ => .fail "body: jump"
        | none => .fail ("no body: " ++ fn.name)
      | none => .fail "no function"
    | .loop c left =>
      match left with
      | 0 => .fail "loop: too many rounds"
      | left + 1 => (ev C n (.code c) s).bind fun out s => match out with
        | .norm => ev C n (.loop c left) s
        | o => .leaf o s
    | .draw ops done rd =>
      match pickRd ops (Region.ready .any ops done) with
      | some (i, t, o) => (readTr C.P C.gl ops o s).bind fun out s' => match out with
        | .val d => ev C n (.draw ops (done.setIfInBounds i true) ((i, t, d) :: rd)) (s'.put (some t) d)
        | _ => .fail "draw"
      | none =>
        let eff (j : Nat) (s : St) : Tr := match ops[j]? with
          | some o => if noDraw o.op then .fail "draw: op" else
            (guardTr s ops o (fun s => match o.op with
              | .call { callee := .value f, args, .. } => withOp s f fun f => withOps s args.toList fun ds => ev C n (.call f ds) s
              | _ => opD C.P C.gl s o) fun s => retv s undefD).bind fun out s' => match out with
            | .val d => (recheck C.P C.gl ops (rd.filter fun r => !forced .any ops j r.1) (s'.put o.dst d)).bind fun out s2 => match out with
              | .norm => ev C n (.draw ops (done.setIfInBounds j true) (rd.filter fun r => !forced .any ops j r.1)) s2
              | _ => .fail "draw"
            | _ => .fail "draw"
          | none => .fail "draw"
        match Region.ready .any ops done with
        | [] => .leaf .norm s
        | [j] => eff j s
        | r => match pickM C.P C.gl s ops done r r with
          | some (ts, j) => (recheck C.P C.gl ops rd (s.drops ts)).bind fun out s1 => match out with
            | .norm => eff j s1
            | _ => .fail "draw"
          | none => match r with
            | [x, y] => match pairAt C.P C.gl s ops done rd x y with
              | some s' => ev C n (.draw ops ((done.setIfInBounds x true).setIfInBounds y true) []) s'
              | none => if (floatT ops x).isNone && (floatT ops y).isNone then .any .bool (.bl true) s (.br (.bv s.ct.b) (eff x (forkS s)) (eff y (forkS s))) else .fail "draw: two"
            | _ => .fail "draw: more than one"
    | .code c =>
      match c with
      | .skip | .label _ => .leaf .norm s
      | .region _ ops draw => if draw then ev C n (.draw ops (Array.replicate ops.size false) []) s else ev C n (.ops ops.toList ops) s
      | .seq a b => (ev C n (.code a) s).bind fun out s => match out with | .norm => ev C n (.code b) s | o => .leaf o s
      | .cond c t e => withOp s c fun d => match d with
        | .bool x => branch s x (ev C n (.code t)) (ev C n (.code e))
        | _ => .fail "cond"
      | .block id b => (ev C n (.code b) s).bind fun out s => match out with
        | .exit i => if i == id then .leaf .norm s else .leaf (.exit i) s
        | o => .leaf o s
      | .loop b => match C.cut s.fn (loopKey b) with
        | none => ev C n (.loop b C.unroll) s
        | some sp =>
          if !specOK s sp (setBy b) then .fail "loop: how it is cut" else
          match roundVals s s sp (setBy b) with
          | some vals => .loop sp.shs vals s ((ev C n (.code b) (genState s sp (setBy b))).bind fun out s2 => match out with
            | .norm => match roundVals s s2 sp (setBy b) with
              | some us => .back 0 us s2
              | none => .fail "loop: something else has turned"
            | o => .leaf o s2)
          | none => .fail "loop: what goes round"
      | .rangeFunc f ps asg body => withOp s f fun fv =>
        match (match s.rnd with
          | some l => (match heapGet s.heap l with | some (.loop _ _ _ _ _ _ _ _ d) => some (d, s) | _ => none)
          | none => some (s.nx, { s with heap := (s.nx, .dfr true) :: s.heap, nx := s.nx + 1, marks := s.nx :: s.marks }) : Option (Id × St)) with
        | none => .fail "rangeFunc: no loop around"
        | some (dfs, s1) =>
          let l := s1.nx
          let s2 : St := { s1 with heap := (l, .loop .ready none s.fn s.env s.nt ps.toList asg body dfs) :: s1.heap, nx := l + 1 }
          (match fnParts fv with | some (g, first, caps) => ev C n (.enter g (first ++ [DV.yld l] ++ caps)) s2 | none => Tr.fail "rangeFunc" : Tr).bind (endRange l)
      | .exit id => .leaf (.exit id) s
      | .scope b => (ev C n (.code b) s).bind fun out s => match out with | .goto _ => .fail "goto" | o => .leaf o s
      | .goto l => .leaf (.goto l) s
      | .ret => .leaf .ret s
      | .refuse w => .fail ("refused: " ++ w)

end Go.Sx
