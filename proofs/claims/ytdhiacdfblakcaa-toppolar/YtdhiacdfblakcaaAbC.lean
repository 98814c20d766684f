/- The operations that compute: a small machine of their own, its values, and that the model's operations come to the same. -/
import Derived.Test.YtdhiacdfblakcaaAbB
namespace Go.Ab
open Go

/-- Bits of whole numbers, as the model has them. -/
def abits (op : BinOp) (k : IntKind) (x y : Int) : Int :=
  let a := BitVec.ofInt k.bits x
  let b := BitVec.ofInt k.bits y
  match op with
  | .and => k.wrap ((a &&& b).toNat : Int)
  | .or => k.wrap ((a ||| b).toNat : Int)
  | .xor => k.wrap ((a ^^^ b).toNat : Int)
  | _ => k.wrap ((a &&& ~~~b).toNat : Int)

def abin : BinOp → Value → Value → Option Value
  | .add, .int k a, .int k' b => if k = k' then some (.int k (k.wrap (a + b))) else none
  | .sub, .int k a, .int k' b => if k = k' then some (.int k (k.wrap (a - b))) else none
  | .mul, .int k a, .int k' b => if k = k' then some (.int k (k.wrap (a * b))) else none
  | .quo, .int k a, .int k' b => if k = k' then if b = 0 then none else some (.int k (k.wrap (a.tdiv b))) else none
  | .rem, .int k a, .int k' b => if k = k' then if b = 0 then none else some (.int k (a.tmod b)) else none
  | .and, .int k a, .int k' b => if k = k' then some (.int k (abits .and k a b)) else none
  | .or, .int k a, .int k' b => if k = k' then some (.int k (abits .or k a b)) else none
  | .xor, .int k a, .int k' b => if k = k' then some (.int k (abits .xor k a b)) else none
  | .andNot, .int k a, .int k' b => if k = k' then some (.int k (abits .andNot k a b)) else none
  | .shl, .int k a, .int _ b => if b < 0 then none else some (.int k (k.wrap (a * 2 ^ (min b.toNat k.bits))))
  | .shr, .int k a, .int _ b => if b < 0 then none else some (.int k (a.fdiv (2 ^ (min b.toNat k.bits))))
  | .eql, .int k a, .int k' b => if k = k' then some (.bool (a == b)) else none
  | .neq, .int k a, .int k' b => if k = k' then some (.bool (a != b)) else none
  | .lss, .int k a, .int k' b => if k = k' then some (.bool (decide (a < b))) else none
  | .leq, .int k a, .int k' b => if k = k' then some (.bool (decide (a ≤ b))) else none
  | .gtr, .int k a, .int k' b => if k = k' then some (.bool (decide (a > b))) else none
  | .geq, .int k a, .int k' b => if k = k' then some (.bool (decide (a ≥ b))) else none
  | .eql, .string a, .string b => some (.bool (a.toList == b.toList))
  | .neq, .string a, .string b => some (.bool (!(a.toList == b.toList)))
  | .add, .string a, .string b => if ((a.size + b.size : Nat) : Int) > 9223372036854775807 then none else some (.string (a ++ b))
  | _, _, _ => none

section
variable {P : Program} {w : World} {μ : Mu}

theorem s_bin {op : BinOp} {x y v x' y' : Value} (ty : TypeId) (ox oy : Operand) (h : abin op x y = some v) (hx : VR μ x x') (hy : VR μ y y') :
    ∃ v', (do eqGuard op ty ox oy x' y'; binOp op ty x' y' : Sem Value).run P w = .ok v' w ∧ VR μ v v' := by
  unfold abin at h
  split at h
  all_goals first
    | (simp at h; done)
    | (cases hx; cases hy; (repeat' split at h) <;> first
        | (simp at h; done)
        | (cases h; subst_vars; refine ⟨_, ?_, VR.int _ _⟩; simp [eqGuard, binOp, Op.intArith, Op.intDiv, Op.intBits, Op.shift, abits, *])
        | (cases h; subst_vars; refine ⟨_, ?_, VR.bool _⟩; simp [eqGuard, binOp, Op.intCmp, Op.stringOp, *])
        | (cases h; subst_vars; refine ⟨_, ?_, VR.string _⟩; simp [eqGuard, binOp, Op.stringOp, *]; omega))

def aun : UnOp → Value → Option Value
  | .neg, .int k n => some (.int k (k.wrap (0 - n)))
  | .xor, .int k n => some (.int k (abits .xor k (if k.signed then -1 else k.max) n))
  | .not, .bool b => some (.bool !b)
  | _, _ => none

theorem s_un {op : UnOp} {x v x' : Value} (h : aun op x = some v) (hx : VR μ x x') : ∃ v', (Op.unary op x').run P w = .ok v' w ∧ VR μ v v' := by
  unfold aun at h
  split at h <;> cases h <;> cases hx
  · exact ⟨_, rfl, .int _ _⟩
  · exact ⟨_, rfl, .int _ _⟩
  · exact ⟨_, rfl, .bool _⟩

end

/-- What is known of a part of an aggregate. -/
def apart (l : List Value) (off size : Nat) (agg : Bool) : Option Value :=
  if agg then if off + size ≤ l.length then some (.agg ((l.drop off).take size).toArray) else none else l[off]?

/-- Parts laid into cells. -/
def afill (c : List Value) : List (Nat × Nat × Value) → Option (List Value)
  | [] => some c
  | (off, size, v) :: r => if v.cells.toList.length = size ∧ off + size ≤ c.length then afill (setR c off v.cells.toList) r else none

/-- The bounds of x[lo:hi:mx]. -/
def abound (d : Nat) (top : Nat) : Option Value → Option Nat
  | none => some d
  | some (.int _ i) => if 0 ≤ i ∧ i ≤ (top : Int) then some i.toNat else none
  | some _ => none

def abounds (len cap : Nat) (lo hi mx : Option Value) : Option (Nat × Nat × Nat) :=
  match abound cap cap mx with
  | none => none
  | some m => if (hi.isNone && mx.isSome) = true then none else match abound len m hi with
    | none => none
    | some h => match abound 0 h lo with
      | none => none
      | some l => some (l, h, m)

def ev (t : Env) : Operand → Value
  | .tmp i => t i
  | .const v => v
  | .func f => .func (.func f) #[] #[]
  | .global _ => undefV

/-- The small machine's operations: their types are looked up already. -/
inductive AOp where
  | mov (x : Operand)
  | pick (c a b : Operand)
  | bin (op : BinOp) (x y : Operand)
  | un (op : UnOp) (x : Operand)
  | isnil (kind : Nat) (neg : Bool) (x : Operand)
  | conv (k : IntKind) (x : Operand)
  | chk (x : Operand)
  | fn (f : FuncId) (first captured : List Operand)
  | ext (x : Operand) (i : Nat)
  | faddr (x : Operand) (off : Nat)
  | field (x : Operand) (off size : Nat) (agg : Bool)
  | iaddr (x i : Operand) (esz : Nat)
  | iaddrA (x i : Operand) (n esz : Nat)
  | idxS (x i : Operand)
  | idxA (x i : Operand) (n esz : Nat) (agg : Bool)
  | slcS (x : Operand) (lo hi : Option Operand)
  | build (zero : List Value) (parts : List (Nat × Nat × Operand))
  | len (x : Operand)
  | lenS (x : Operand)
  | mm (max : Bool) (x y : Operand)
  -- reads
  | slc (x : Operand) (lo hi mx : Option Operand) (esz : Nat)
  | load (x : Operand) (size : Nat) (agg : Bool)
  -- new blocks
  | alloc (zero : List Value)
  | box (x : Operand)
  | mkslice (n c : Operand) (esz bytes : Nat) (zero : List Value)
  | bslice (len esz : Nat) (zero : List Value) (parts : List (Nat × Nat × Operand))
  -- all else
  | store (x v : Operand) (size : Nat)
  | app (s x : Operand) (esz bytes : Nat)
  | copy (d x : Operand) (esz : Nat)
  | call (f : Operand) (args : List Operand)
  deriving Inhabited

inductive Kind where
  | pure | read | alloc | heavy
  deriving DecidableEq

def AOp.kind : AOp → Kind
  | .slc .. | .load .. => .read
  | .alloc _ | .box .. | .mkslice .. | .bslice .. => .alloc
  | .store .. | .app .. | .copy .. | .call .. => .heavy
  | _ => .pure

def anil : Nat → Value → Option Bool
  | 0, .slice a _ _ => some a.isNone
  | 1, .pointer a => some a.isNone
  | 2, .map a => some a.isNone
  | 3, .nilFunc => some true
  | 3, .func .. => some false
  | _, _ => none

/-- What an operation that only computes comes to. -/
def apure (t : Env) : AOp → Option Value
  | .mov x => some (ev t x)
  | .pick c a b => match ev t c with | .bool c => some (if c then ev t a else ev t b) | _ => none
  | .bin op x y => abin op (ev t x) (ev t y)
  | .un op x => aun op (ev t x)
  | .isnil k neg x => (anil k (ev t x)).map fun b => .bool (b != neg)
  | .conv k x => match ev t x with | .int _ n => some (.int k (k.wrap n)) | _ => none
  | .chk x => match ev t x with | .pointer (some a) => some (.pointer (some a)) | _ => none
  | .fn f first captured => some (.func (.func f) (first.map (ev t)).toArray (captured.map (ev t)).toArray)
  | .ext x i => match ev t x with | .tuple vs => vs.toList[i]? | _ => none
  | .faddr x off => match ev t x with | .pointer (some ⟨b, o, none⟩) => some (.pointer (some ⟨b, o + off, none⟩)) | _ => none
  | .field x off size agg => match ev t x with | .agg cs => apart cs.toList off size agg | _ => none
  | .iaddr x i esz => match ev t x, ev t i with
    | .slice (some ⟨b, o, none⟩) len _, .int _ i => if 0 ≤ i ∧ i < (len : Int) then some (.pointer (some ⟨b, o + i.toNat * esz, none⟩)) else none
    | _, _ => none
  | .iaddrA x i n esz => match ev t x, ev t i with
    | .pointer (some ⟨b, o, none⟩), .int _ i => if 0 ≤ i ∧ i < (n : Int) then some (.pointer (some ⟨b, o + i.toNat * esz, none⟩)) else none
    | _, _ => none
  | .idxS x i => match ev t x, ev t i with
    | .string s, .int _ i => if 0 ≤ i then (s[i.toNat]?).map fun b => .int .u8 b.toNat else none
    | _, _ => none
  | .idxA x i n esz agg => match ev t x, ev t i with
    | .agg cs, .int _ i => if 0 ≤ i ∧ i < (n : Int) then apart cs.toList (i.toNat * esz) esz agg else none
    | _, _ => none
  | .slcS x lo hi => match ev t x with
    | .string s => (abounds s.size s.size (lo.map (ev t)) (hi.map (ev t)) none).map fun b => .string (s.extract b.1 b.2.1)
    | _ => none
  | .build zero parts => (afill zero (parts.map fun p => (p.1, p.2.1, ev t p.2.2))).map fun c => .agg c.toArray
  | .len x => match ev t x with | .slice _ n _ => some (.int .i64 n) | _ => none
  | .lenS x => match ev t x with | .string s => some (.int .i64 s.size) | _ => none
  | .mm mx x y => match ev t x, ev t y with
    | .int k a, .int _ b => some (.int k (if mx then (if b > a then b else a) else (if b < a then b else a)))
    | _, _ => none
  | _ => none

/-- A frame of the machine stands for these slots. -/
structure EnvR (μ : Mu) (nt : Nat) (t : Env) (a : Act) : Prop where
  size : a.tmps.size = nt
  defers : a.defers = []
  at_ : ∀ i, i < nt → VR μ (t i) (a.tmps.getD i undef)

def okS (nt : Nat) : Operand → Bool
  | .tmp i => decide (i < nt)
  | .const v => plain v
  | .func _ => true
  | .global _ => false

theorem EnvR.ev {μ : Mu} {nt : Nat} {t : Env} {a : Act} (h : EnvR μ nt t a) {x : Operand} (hx : okS nt x = true) : VR μ (ev t x) (a.eval x) := by
  cases x with
  | tmp i => exact h.at_ i (by simpa [okS] using hx)
  | const v => exact VR.of_plain μ v (by simpa [okS] using hx)
  | func f => exact .func .nil .nil
  | global g => simp [okS] at hx

theorem EnvR.mono {μ ν : Mu} {nt : Nat} {t : Env} {a : Act} (h : EnvR μ nt t a) (hm : μ.le ν) : EnvR ν nt t a := ⟨h.size, h.defers, fun i hi => (h.at_ i hi).mono hm⟩

def putO (t : Env) : Option Nat → Value → Env
  | none, _ => t
  | some d, v => upd t d v

theorem EnvR.put {μ : Mu} {nt : Nat} {t : Env} {a : Act} (h : EnvR μ nt t a) {dst : Option Nat} (hd : ∀ d, dst = some d → d < nt) {v v' : Value} (hv : VR μ v v') :
    EnvR μ nt (putO t dst v) (a.put dst v') := by
  cases dst with
  | none => exact h
  | some d =>
    have hdn := hd d rfl
    refine ⟨by simp [Act.put, h.size], h.defers, fun i hi => ?_⟩
    simp only [putO, upd, Act.put]
    by_cases e : i = d
    · subst e
      rw [if_pos rfl]
      simp only [Array.getD_eq_getD_getElem?]
      rw [Array.getElem?_setIfInBounds_self]
      rw [if_pos (by rw [h.size]; exact hdn)]
      exact hv
    · rw [if_neg e]
      simp only [Array.getD_eq_getD_getElem?]
      rw [Array.getElem?_setIfInBounds_ne (by omega)]
      have := h.at_ i hi
      simpa only [Array.getD_eq_getD_getElem?] using this

end Go.Ab
