/- A small logic of abstract memory over the kit's 'Code.wp': values up to a renaming of blocks, the relation between an abstract heap and the world, what a step may touch. -/
import Derived.Calls
import Derived.Orders
import Derived.WideLaws
namespace Go.Ab
open Go

/-- The slots of a frame. -/
abbrev Env := Nat → Value

def upd (t : Env) (d : Nat) (v : Value) : Env := fun i => if i = d then v else t i

def undefV : Value := .tuple #[]

/-- Where an abstract block lies. -/
structure Loc where
  block : Nat
  off : Nat
  size : Nat
  spare : Nat
  esz : Nat

inductive AObj where
  | cells (c : List Value) (esz : Nat) (exact : Bool)
  | ro (c : List Value) (esz : Nat)
  | map (es : List (Value × Value × Nat)) (clock : Nat)
  | iter (m : Option Nat) (since : Nat) (seen : List Nat) (stepped : Nat)

def AObj.own : AObj → Bool
  | .ro .. => false
  | _ => true

/-- An abstract heap: what stands in each block; all numbers from n on are free. -/
structure St where
  H : Nat → Option AObj
  n : Nat

def St.put (s : St) (b : Nat) (o : AObj) : St := { s with H := fun i => if i = b then some o else s.H i }
def St.new (s : St) (o : AObj) : St := { H := fun i => if i = s.n then some o else s.H i, n := s.n + 1 }
def St.kill (s : St) (b : Nat) : St := { s with H := fun i => if i = b then none else s.H i }

abbrev Mu := Nat → Option Loc

def Mu.le (μ ν : Mu) : Prop := ∀ b L, μ b = some L → ν b = some L
theorem Mu.le_refl (μ : Mu) : μ.le μ := fun _ _ h => h
theorem Mu.le_trans {μ ν ξ : Mu} (h : μ.le ν) (k : ν.le ξ) : μ.le ξ := fun b L e => k b L (h b L e)

mutual
/-- An abstract value and what stands for it. -/
inductive VR (μ : Mu) : Value → Value → Prop
  | bool (b : Bool) : VR μ (.bool b) (.bool b)
  | int (k : IntKind) (n : Int) : VR μ (.int k n) (.int k n)
  | float (k : FloatKind) (n : Nat) : VR μ (.float k n) (.float k n)
  | string (s : ByteArray) : VR μ (.string s) (.string s)
  | ptrNil : VR μ (.pointer none) (.pointer none)
  | ptr {b o : Nat} {L : Loc} (h : μ b = some L) : VR μ (.pointer (some ⟨b, o, none⟩)) (.pointer (some ⟨L.block, L.off + o, none⟩))
  | sliceNil : VR μ (.slice none 0 0) (.slice none 0 0)
  | slice {b o len cap cap' : Nat} {L : Loc} {A : Addr} (h : μ b = some L) (hz : 0 < L.esz) (hs : o + cap * L.esz ≤ L.size) (hl : len ≤ cap) (hc : cap ≤ cap')
      (hc' : cap' ≤ cap + (if o + cap * L.esz = L.size then L.spare else 0)) (hA : cap' = 0 ∨ A = ⟨L.block, L.off + o, none⟩) :
      VR μ (.slice (some ⟨b, o, none⟩) len cap) (.slice (some A) len cap')
  | mapNil : VR μ (.map none) (.map none)
  | map {b : Nat} {L : Loc} (h : μ b = some L) : VR μ (.map (some b)) (.map (some L.block))
  | func {fn : Fn} {f c f' c' : Array Value} (h₁ : VRs μ f.toList f'.toList) (h₂ : VRs μ c.toList c'.toList) : VR μ (.func fn f c) (.func fn f' c')
  | nilFunc : VR μ .nilFunc .nilFunc
  | nilIface : VR μ .nilIface .nilIface
  | iface {t : TypeId} {v v' : Value} (h : VR μ v v') : VR μ (.iface t v) (.iface t v')
  | agg {c c' : Array Value} (h : VRs μ c.toList c'.toList) : VR μ (.agg c) (.agg c')
  | tuple {c c' : Array Value} (h : VRs μ c.toList c'.toList) : VR μ (.tuple c) (.tuple c')
inductive VRs (μ : Mu) : List Value → List Value → Prop
  | nil : VRs μ [] []
  | cons {v v' : Value} {l l' : List Value} (h : VR μ v v') (t : VRs μ l l') : VRs μ (v :: l) (v' :: l')
end

theorem VR.undefR (μ : Mu) : VR μ undefV Go.undef := .tuple .nil

mutual
theorem VR.mono {μ ν : Mu} (hm : μ.le ν) : ∀ {v v' : Value}, VR μ v v' → VR ν v v'
  | _, _, .bool b => .bool b
  | _, _, .int k n => .int k n
  | _, _, .float k n => .float k n
  | _, _, .string s => .string s
  | _, _, .ptrNil => .ptrNil
  | _, _, .ptr h => .ptr (hm _ _ h)
  | _, _, .sliceNil => .sliceNil
  | _, _, .slice h hz hs hl hc hc' hA => .slice (hm _ _ h) hz hs hl hc hc' hA
  | _, _, .mapNil => .mapNil
  | _, _, .map h => .map (hm _ _ h)
  | _, _, .func h₁ h₂ => .func (VRs.mono hm h₁) (VRs.mono hm h₂)
  | _, _, .nilFunc => .nilFunc
  | _, _, .nilIface => .nilIface
  | _, _, .iface h => .iface (VR.mono hm h)
  | _, _, .agg h => .agg (VRs.mono hm h)
  | _, _, .tuple h => .tuple (VRs.mono hm h)
theorem VRs.mono {μ ν : Mu} (hm : μ.le ν) : ∀ {l l' : List Value}, VRs μ l l' → VRs ν l l'
  | _, _, .nil => .nil
  | _, _, .cons h t => .cons (VR.mono hm h) (VRs.mono hm t)
end

theorem VRs.length {μ : Mu} {l l' : List Value} (h : VRs μ l l') : l'.length = l.length := by
  induction l generalizing l' with
  | nil => cases h; rfl
  | cons v l ih => cases h with | cons h t => simp [ih t]

theorem VRs.get {μ : Mu} {l l' : List Value} (h : VRs μ l l') {i : Nat} {v : Value} (hi : l[i]? = some v) : ∃ v', l'[i]? = some v' ∧ VR μ v v' := by
  induction l generalizing l' i with
  | nil => simp at hi
  | cons x l ih =>
    cases h with
    | cons h t =>
      cases i with
      | zero => simp at hi; subst hi; exact ⟨_, rfl, h⟩
      | succ i => simp at hi; obtain ⟨v', h1, h2⟩ := ih t hi; exact ⟨v', by simpa using h1, h2⟩

theorem VRs.get' {μ : Mu} {l l' : List Value} (h : VRs μ l l') {i : Nat} {v' : Value} (hi : l'[i]? = some v') : ∃ v, l[i]? = some v ∧ VR μ v v' := by
  induction l generalizing l' i with
  | nil => cases h; simp at hi
  | cons x l ih =>
    cases h with
    | cons h t =>
      cases i with
      | zero => simp at hi; subst hi; exact ⟨_, rfl, h⟩
      | succ i => simp at hi; obtain ⟨v', h1, h2⟩ := ih t hi; exact ⟨v', by simpa using h1, h2⟩

theorem VRs.of_get {μ : Mu} {l l' : List Value} (hl : l'.length = l.length) (h : ∀ (i : Nat) (v v' : Value), l[i]? = some v → l'[i]? = some v' → VR μ v v') : VRs μ l l' := by
  induction l generalizing l' with
  | nil => cases l' with | nil => exact .nil | cons x l' => simp at hl
  | cons x l ih =>
    cases l' with
    | nil => simp at hl
    | cons y l' => exact .cons (h 0 x y rfl rfl) (ih (by simpa using hl) fun i v v' h1 h2 => h (i + 1) v v' (by simpa using h1) (by simpa using h2))

theorem VRs.append {μ : Mu} {l l' m m' : List Value} (h : VRs μ l l') (k : VRs μ m m') : VRs μ (l ++ m) (l' ++ m') := by
  induction l generalizing l' with
  | nil => cases h; exact k
  | cons x l ih => cases h with | cons h t => exact .cons h (ih t)

theorem VRs.take {μ : Mu} {l l' : List Value} (h : VRs μ l l') (n : Nat) : VRs μ (l.take n) (l'.take n) := by
  induction l generalizing l' n with
  | nil => cases h; simp; exact .nil
  | cons x l ih => cases h with | cons h t => cases n with | zero => exact .nil | succ n => exact .cons h (ih t n)

theorem VRs.drop {μ : Mu} {l l' : List Value} (h : VRs μ l l') (n : Nat) : VRs μ (l.drop n) (l'.drop n) := by
  induction l generalizing l' n with
  | nil => cases h; simp; exact .nil
  | cons x l ih => cases h with | cons h t => cases n with | zero => exact .cons h t | succ n => exact ih t n

theorem VRs.set {μ : Mu} {l l' : List Value} (h : VRs μ l l') (n : Nat) {v v' : Value} (hv : VR μ v v') : VRs μ (l.set n v) (l'.set n v') := by
  induction l generalizing l' n with
  | nil => cases h; exact .nil
  | cons x l ih => cases h with | cons h t => cases n with | zero => exact .cons hv t | succ n => exact .cons h (ih t n)

theorem VRs.replicate {μ : Mu} {v v' : Value} (h : VR μ v v') (n : Nat) : VRs μ (List.replicate n v) (List.replicate n v') := by
  induction n with
  | zero => exact .nil
  | succ n ih => exact .cons h ih

theorem VRs.map₂ {μ : Mu} {α : Type} (l : List α) (f g : α → Value) (h : ∀ x ∈ l, VR μ (f x) (g x)) : VRs μ (l.map f) (l.map g) := by
  induction l with
  | nil => exact .nil
  | cons x l ih => exact .cons (h x (by simp)) (ih fun y hy => h y (by simp [hy]))

theorem VRs.cells {μ : Mu} {v v' : Value} (h : VR μ v v') : VRs μ v.cells.toList v'.cells.toList := by
  cases h <;> first | exact (by assumption) | (simp only [Value.cells]; refine .cons ?_ .nil; constructor <;> assumption)

/-- Values in which no address stands. -/
def plain1 : Value → Bool
  | .bool _ | .int .. | .float .. | .string _ | .pointer none | .map none | .nilFunc | .nilIface => true
  | .slice none 0 0 => true
  | .func _ f c => f.size == 0 && c.size == 0
  | _ => false

def plain : Value → Bool
  | .tuple l => l.toList.all plain1
  | .agg l => l.toList.all plain1
  | v => plain1 v

theorem VR.of_plain1 (μ : Mu) : ∀ (v : Value), plain1 v = true → VR μ v v
  | .bool b, _ => .bool b
  | .int k n, _ => .int k n
  | .float k n, _ => .float k n
  | .string s, _ => .string s
  | .pointer none, _ => .ptrNil
  | .map none, _ => .mapNil
  | .nilFunc, _ => .nilFunc
  | .nilIface, _ => .nilIface
  | .slice none 0 0, _ => .sliceNil
  | .func fn f c, h => by
    simp [plain1] at h
    obtain ⟨rfl, rfl⟩ := h
    exact .func .nil .nil
  | .tuple _, h => by simp [plain1] at h
  | .agg _, h => by simp [plain1] at h
  | .pointer (some _), h => by simp [plain1] at h
  | .map (some _), h => by simp [plain1] at h
  | .complex .., h => by simp [plain1] at h
  | .chan _, h => by simp [plain1] at h
  | .iface .., h => by simp [plain1] at h
  | .slice (some _) _ _, h => by simp [plain1] at h
  | .slice none (_ + 1) _, h => by simp [plain1] at h
  | .slice none 0 (_ + 1), h => by simp [plain1] at h

theorem VRs.of_plain1 (μ : Mu) : ∀ (l : List Value), l.all plain1 = true → VRs μ l l
  | [], _ => .nil
  | v :: l, h => by
    simp only [List.all_cons, Bool.and_eq_true] at h
    exact .cons (VR.of_plain1 μ v h.1) (VRs.of_plain1 μ l h.2)

theorem VR.of_plain (μ : Mu) (v : Value) (h : plain v = true) : VR μ v v := by
  unfold plain at h
  split at h
  · exact .tuple (VRs.of_plain1 μ _ h)
  · exact .agg (VRs.of_plain1 μ _ h)
  · exact VR.of_plain1 μ v h

/-- What an abstract block asks of the world. -/
def ObjR (μ : Mu) (w : World) (b : Nat) : AObj → Prop
  | .cells c esz ex => ∃ L, μ b = some L ∧ L.size = c.length ∧ L.esz = esz ∧ (ex = true → L.spare = 0) ∧
      ∃ cs e, w.heap[L.block]? = some (.cells cs e (0, 0)) ∧ L.off + L.size + L.spare * L.esz ≤ cs.size ∧ VRs μ c ((cs.toList.drop L.off).take c.length)
  | .ro c esz => ∃ L, μ b = some L ∧ L.size = c.length ∧ L.esz = esz ∧ L.spare = 0 ∧
      ∃ cs e fr, w.heap[L.block]? = some (.cells cs e fr) ∧ L.off + L.size ≤ cs.size ∧ VRs μ c ((cs.toList.drop L.off).take c.length)
  | .map es clock => ∃ L, μ b = some L ∧ ∃ es', w.heap[L.block]? = some (.map es' clock) ∧
      VRs μ (es.map (·.1)) (es'.toList.map (·.key)) ∧ VRs μ (es.map (·.2.1)) (es'.toList.map (·.val)) ∧ es.map (·.2.2) = es'.toList.map (·.born)
  | .iter m since seen stepped => ∃ L, μ b = some L ∧ ∃ m', VR μ (.map m) (.map m') ∧ w.heap[L.block]? = some (.mapIter m' since seen.toArray stepped)

structure Rel (μ : Mu) (s : St) (w : World) : Prop where
  lt : ∀ b L, μ b = some L → b < s.n
  obj : ∀ b o, s.H b = some o → ObjR μ w b o
  disj : ∀ b₁ b₂ o₁ o₂ L₁ L₂, b₁ ≠ b₂ → s.H b₁ = some o₁ → s.H b₂ = some o₂ → o₁.own = true → μ b₁ = some L₁ → μ b₂ = some L₂ → L₁.block ≠ L₂.block

/-- The world's blocks that are the call's own. -/
def Own (μ : Mu) (s : St) (k : Nat) : Prop := ∃ b o L, s.H b = some o ∧ o.own = true ∧ μ b = some L ∧ L.block = k

/-- What a step may have touched. -/
structure Step (μ : Mu) (s : St) (w : World) (μ' : Mu) (s' : St) (w' : World) : Prop where
  mu : μ.le μ'
  n : s.n ≤ s'.n
  os : w'.os = w.os
  tape : w'.tape = w.tape
  output : w'.output = w.output
  size : w.heap.size ≤ w'.heap.size
  frame : ∀ k, k < w.heap.size → ¬ Own μ s k → w'.heap[k]? = w.heap[k]?
  own : ∀ k, k < w.heap.size → Own μ' s' k → Own μ s k
  dead : ∀ b, b < s.n → s.H b = none → s'.H b = none
  ro : ∀ b c e, s'.H b = some (.ro c e) → s.H b = some (.ro c e)
  mu_new : ∀ b L, μ' b = some L → μ b = some L ∨ s.n ≤ b

theorem Step.refl (μ : Mu) (s : St) (w : World) : Step μ s w μ s w :=
  ⟨Mu.le_refl μ, Nat.le_refl _, rfl, rfl, rfl, Nat.le_refl _, fun _ _ _ => rfl, fun _ _ h => h, fun _ _ h => h, fun _ _ _ h => h, fun _ _ h => .inl h⟩

theorem Step.trans {μ μ₁ μ₂ : Mu} {s s₁ s₂ : St} {w w₁ w₂ : World} (h : Step μ s w μ₁ s₁ w₁) (k : Step μ₁ s₁ w₁ μ₂ s₂ w₂) : Step μ s w μ₂ s₂ w₂ :=
  ⟨Mu.le_trans h.mu k.mu, Nat.le_trans h.n k.n, k.os.trans h.os, k.tape.trans h.tape, k.output.trans h.output, Nat.le_trans h.size k.size,
    fun i hi ho => (k.frame i (Nat.lt_of_lt_of_le hi h.size) fun o => ho (h.own i hi o)).trans (h.frame i hi ho),
    fun i hi o => h.own i hi (k.own i (Nat.lt_of_lt_of_le hi h.size) o), fun b hb e => k.dead b (Nat.lt_of_lt_of_le hb h.n) (h.dead b hb e),
    fun b c e x => h.ro b c e (k.ro b c e x), fun b L x => (k.mu_new b L x).elim (h.mu_new b L) fun y => .inr (Nat.le_trans h.n y)⟩

theorem ObjR.lt {μ : Mu} {w : World} {b : Nat} {o : AObj} (h : ObjR μ w b o) : ∃ L, μ b = some L ∧ L.block < w.heap.size := by
  cases o <;> (simp only [ObjR] at h)
  · obtain ⟨L, h1, _, _, _, cs, e, h5, _⟩ := h; exact ⟨L, h1, (Array.getElem?_eq_some_iff.1 h5).1⟩
  · obtain ⟨L, h1, _, _, _, cs, e, fr, h5, _⟩ := h; exact ⟨L, h1, (Array.getElem?_eq_some_iff.1 h5).1⟩
  · obtain ⟨L, h1, es', h5, _⟩ := h; exact ⟨L, h1, (Array.getElem?_eq_some_iff.1 h5).1⟩
  · obtain ⟨L, h1, m', _, h5⟩ := h; exact ⟨L, h1, (Array.getElem?_eq_some_iff.1 h5).1⟩

/-- A block's contents hang on its own place alone. -/
theorem ObjR.mono {μ ν : Mu} {w w' : World} {b : Nat} {o : AObj} (hm : μ.le ν) (h : ObjR μ w b o) (hw : ∀ L, μ b = some L → w'.heap[L.block]? = w.heap[L.block]?) : ObjR ν w' b o := by
  cases o <;> (simp only [ObjR] at h ⊢)
  · obtain ⟨L, h1, h2, h3, h4, cs, e, h5, h6, h7⟩ := h
    exact ⟨L, hm _ _ h1, h2, h3, h4, cs, e, (hw L h1).trans h5, h6, h7.mono hm⟩
  · obtain ⟨L, h1, h2, h3, h4, cs, e, fr, h5, h6, h7⟩ := h
    exact ⟨L, hm _ _ h1, h2, h3, h4, cs, e, fr, (hw L h1).trans h5, h6, h7.mono hm⟩
  · obtain ⟨L, h1, es', h5, h6, h7, h8⟩ := h
    exact ⟨L, hm _ _ h1, es', (hw L h1).trans h5, h6.mono hm, h7.mono hm, h8⟩
  · obtain ⟨L, h1, m', h6, h5⟩ := h
    exact ⟨L, hm _ _ h1, m', h6.mono hm, (hw L h1).trans h5⟩

theorem Rel.drew {μ : Mu} {s : St} {w w' : World} (h : Rel μ s w) (hh : w'.heap = w.heap) : Rel μ s w' :=
  ⟨h.lt, fun b o e => (h.obj b o e).mono (Mu.le_refl _) fun _ _ => by rw [hh], h.disj⟩

/-- The renaming with one block more. -/
def Mu.put (μ : Mu) (b : Nat) (L : Loc) : Mu := fun i => if i = b then some L else μ i

theorem Mu.le_put {μ : Mu} {b : Nat} {L : Loc} (h : μ b = none) : μ.le (μ.put b L) := by
  intro i L' hi
  unfold Mu.put
  by_cases e : i = b
  · subst e; rw [h] at hi; cases hi
  · rw [if_neg e]; exact hi

theorem Rel.fresh {μ : Mu} {s : St} {w : World} (h : Rel μ s w) {b : Nat} (hb : s.n ≤ b) : μ b = none := by
  cases e : μ b with
  | none => rfl
  | some L => have := h.lt b L e; omega

/-- A new block. -/
theorem Rel.new {μ : Mu} {s : St} {w w' : World} (h : Rel μ s w) (o : AObj) (obj : Obj) (L : Loc) (hw : w'.heap = w.heap.push obj) (hL : L.block = w.heap.size)
    (ho : ∀ ν : Mu, μ.le ν → ν s.n = some L → ObjR ν w' s.n o) : Rel (μ.put s.n L) (s.new o) w' := by
  have hfr := h.fresh (Nat.le_refl s.n)
  have hle : μ.le (μ.put s.n L) := Mu.le_put hfr
  refine ⟨?_, ?_, ?_⟩
  · intro b L' hb
    unfold Mu.put at hb
    by_cases e : b = s.n
    · simp [St.new]; omega
    · rw [if_neg e] at hb; have := h.lt b L' hb; simp [St.new]; omega
  · intro b o' hb
    simp only [St.new] at hb
    by_cases e : b = s.n
    · rw [if_pos e] at hb; cases hb; subst e; exact ho _ hle (by simp [Mu.put])
    · rw [if_neg e] at hb
      have h1 := h.obj b o' hb
      obtain ⟨L1, hL1, hlt⟩ := h1.lt
      refine h1.mono hle fun L2 hL2 => ?_
      rw [hL1] at hL2; cases hL2
      rw [hw, Array.getElem?_push, if_neg (by omega)]
  · intro b₁ b₂ o₁ o₂ L₁ L₂ hne h₁ h₂ hown m₁ m₂
    simp only [St.new] at h₁ h₂
    unfold Mu.put at m₁ m₂
    by_cases e₁ : b₁ = s.n
    · have e₂ : b₂ ≠ s.n := fun e => hne (e₁.trans e.symm)
      rw [if_neg e₂] at h₂ m₂
      rw [if_pos e₁] at m₁; cases m₁
      obtain ⟨L3, hL3, hlt⟩ := (h.obj b₂ o₂ h₂).lt
      rw [m₂] at hL3; cases hL3; omega
    · rw [if_neg e₁] at h₁ m₁
      by_cases e₂ : b₂ = s.n
      · rw [if_pos e₂] at m₂; cases m₂
        obtain ⟨L3, hL3, hlt⟩ := (h.obj b₁ o₁ h₁).lt
        rw [m₁] at hL3; cases hL3; omega
      · rw [if_neg e₂] at h₂ m₂
        exact h.disj b₁ b₂ o₁ o₂ L₁ L₂ hne h₁ h₂ hown m₁ m₂

theorem Step.of_new {μ : Mu} {s : St} {w w' : World} (h : Rel μ s w) (o : AObj) (obj : Obj) (L : Loc) (hw : w'.heap = w.heap.push obj) (hL : L.block = w.heap.size) (hown : o.own = true)
    (h1 : w'.os = w.os) (h2 : w'.tape = w.tape) (h3 : w'.output = w.output) : Step μ s w (μ.put s.n L) (s.new o) w' := by
  refine ⟨Mu.le_put (h.fresh (Nat.le_refl _)), by simp [St.new], h1, h2, h3, by simp [hw], ?_, ?_, ?_, ?_, ?_⟩
  · intro k hk _
    rw [hw, Array.getElem?_push, if_neg (by omega)]
  · rintro k hk ⟨b, o', L', hb, ho, hm, e⟩
    simp only [St.new] at hb
    unfold Mu.put at hm
    by_cases eb : b = s.n
    · rw [if_pos eb] at hm; cases hm; omega
    · rw [if_neg eb] at hb hm; exact ⟨b, o', L', hb, ho, hm, e⟩
  · intro b hb e
    simp only [St.new]
    rw [if_neg (by omega)]; exact e
  · intro b c e hb
    simp only [St.new] at hb
    by_cases eb : b = s.n
    · rw [if_pos eb] at hb; cases hb; cases hown
    · rw [if_neg eb] at hb; exact hb
  · intro b L' hb
    unfold Mu.put at hb
    by_cases eb : b = s.n
    · right; omega
    · rw [if_neg eb] at hb; exact .inl hb

end Go.Ab
