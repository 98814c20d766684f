/- Words by which a walk through the small machine's code is reckoned from the top: they hold at a marked state alone, so that what follows is not looked at before it is reached. -/
import Derived.Test.YtdhiacdfblakcaaAbR
import Derived.Test.YtdhiacdfblakcaaAbS
namespace Go.Ab
open Go

/-- The mark. -/
def On (s : St) : St := s
theorem On_eq (s : St) : On s = s := rfl

def bindO (o : Option Value) (k : Value → St → Prop) (s : St) : Prop := match o with | some v => k v s | none => False
def bindA (o : Option (AObj × (Nat → Value))) (k : Value → St → Prop) (s : St) : Prop := match o with | some (ob, f) => k (f s.n) (s.new ob) | none => False
def bindD (o : Option Value) (k : Value → St → Pend → Reads → Prop) (s : St) (pend : Pend) (reads : Reads) : Prop := match o with | some v => k v s pend reads | none => False
def bindL (o : Option Value) (num idx : Nat) (t : Env) (op : AOp) (k : Value → St → Pend → Reads → Prop) (s : St) (pend : Pend) (reads : Reads) : Prop := match o with
  | some v => k v s pend (if num = 0 then reads else (idx, t, op, v) :: reads) | none => False
def bindB (o : Option (AObj × (Nat → Value))) (b idx : Nat) (k : Value → St → Pend → Reads → Prop) (s : St) (pend : Pend) (reads : Reads) : Prop := match o with
  | some (ob, f) => k (f b) s ((idx, b, ob) :: pend) reads | none => False
def condB (v : Value) (A B : St → Prop) (s : St) : Prop := match v with | .bool x => (x = true → A s) ∧ (x = false → B s) | _ => False
def guardB (x : Bool) (A B : St → Prop) (s : St) : Prop := if x = true then A s else B s
def dropR (anc : List Nat) (reads : Reads) : Reads := reads.filter fun x => !anc.contains x.1
def okR (s : St) (reads : Reads) : Prop := ∀ x ∈ reads, aread x.2.1 s x.2.2.1 = some x.2.2.2
def keepP (merge : List Nat) (pend : Pend) : Pend := pend.filter fun p => merge.contains p.1
def dropP (merge : List Nat) (pend : Pend) : Pend := pend.filter fun p => !merge.contains p.1

theorem bindO_some (v : Value) (k : Value → St → Prop) (s : St) : bindO (some v) k (On s) = k v (On s) := rfl
theorem bindA_some (ob : AObj) (f : Nat → Value) (k : Value → St → Prop) (s : St) : bindA (some (ob, f)) k (On s) = k (f s.n) (On (s.new ob)) := rfl
theorem bindD_some (v : Value) (k : Value → St → Pend → Reads → Prop) (s : St) (p : Pend) (r : Reads) : bindD (some v) k (On s) p r = k v (On s) p r := rfl
theorem bindL_zero (v : Value) (idx : Nat) (t : Env) (op : AOp) (k : Value → St → Pend → Reads → Prop) (s : St) (p : Pend) (r : Reads) : bindL (some v) 0 idx t op k (On s) p r = k v (On s) p r := rfl
theorem bindL_succ (v : Value) (n idx : Nat) (t : Env) (op : AOp) (k : Value → St → Pend → Reads → Prop) (s : St) (p : Pend) (r : Reads) : bindL (some v) (n + 1) idx t op k (On s) p r = k v (On s) p ((idx, t, op, v) :: r) := rfl
theorem bindB_some (ob : AObj) (f : Nat → Value) (b idx : Nat) (k : Value → St → Pend → Reads → Prop) (s : St) (p : Pend) (r : Reads) : bindB (some (ob, f)) b idx k (On s) p r = k (f b) (On s) ((idx, b, ob) :: p) r := rfl
theorem condB_true (A B : St → Prop) (s : St) : condB (.bool true) A B (On s) = A (On s) := by simp [condB]
theorem condB_false (A B : St → Prop) (s : St) : condB (.bool false) A B (On s) = B (On s) := by simp [condB]
theorem condB_intro {x : Bool} {A B : St → Prop} {s : St} (h1 : x = true → A s) (h2 : x = false → B s) : condB (.bool x) A B s := ⟨h1, h2⟩
/-- A test of a proposition. -/
theorem condB_dec {p : Prop} [Decidable p] {A B : St → Prop} {s : St} (h1 : p → A s) (h2 : ¬ p → B s) : condB (.bool (decide p)) A B s := ⟨fun h => h1 (of_decide_eq_true h), fun h => h2 (of_decide_eq_false h)⟩
theorem condB_beq {a b : Int} {A B : St → Prop} {s : St} (h1 : a = b → A s) (h2 : ¬ a = b → B s) : condB (.bool (a == b)) A B s := ⟨fun h => h1 (by simpa using h), fun h => h2 (by simpa using h)⟩
theorem condB_bne {a b : Int} {A B : St → Prop} {s : St} (h1 : ¬ a = b → A s) (h2 : a = b → B s) : condB (.bool (a != b)) A B s := ⟨fun h => h1 (by simpa using h), fun h => h2 (by simpa using h)⟩
theorem guardB_true (A B : St → Prop) (s : St) : guardB true A B (On s) = A (On s) := rfl
theorem guardB_false (A B : St → Prop) (s : St) : guardB false A B (On s) = B (On s) := rfl
theorem guardB_intro {x : Bool} {A B : St → Prop} {s : St} (h1 : x = true → A s) (h2 : x = false → B s) : guardB x A B s := by
  cases x
  · exact h2 rfl
  · exact h1 rfl
theorem dropR_nil (anc : List Nat) : dropR anc [] = [] := rfl
theorem okR_nil (s : St) : okR s [] = True := by simp [okR]
theorem keepP_nil (m : List Nat) : keepP m [] = [] := rfl
theorem dropP_nil (m : List Nat) : dropP m [] = [] := rfl
theorem addP_nil (s : St) : addP s [] = s := rfl

section
variable {P : Program} {nt : Nat} {t : Env} {s : St} {K : Value → St → Prop} {Q : Exit → Env → St → Prop}

/-- The walk goes on behind a call. -/
theorem ACalls.then {f : FuncId} {args : List Value} {K' : Value → St → Prop} (h : ACalls P f args s K') (hk : ∀ v s', K' v s' → K v (On s')) : ACalls P f args s K := h.mono hk
theorem asem_on {c : AC} (h : asem P nt c t (On s) Q) : AW P nt c t s Q := asem_sound _ _ _ _ h

theorem wskip : asem P nt .skip t (On s) Q = Q .normal t (On s) := rfl
theorem wops (l : List AIns) : asem P nt (.ops l) t (On s) Q = aops P l t (On s) (Q .normal) := rfl
theorem wdraw0 (ds : List DIns) : asem P nt (.draw ds 0) t (On s) Q = adraw P s.n ds t (On s) [] [] (Q .normal) := rfl
theorem wdraw (ds : List DIns) (na : Nat) : asem P nt (.draw ds (na + 1)) t (On s) Q = adraw P s.n ds t (On ⟨s.H, s.n + (na + 1)⟩) [] [] (Q .normal) := rfl
theorem wseq (a b : AC) : asem P nt (.seq a b) t (On s) Q = asem P nt a t (On s) fun e t' s' => match e with | .normal => asem P nt b t' s' Q | e => Q e t' s' := rfl
theorem wcond (c : Operand) (a b : AC) : asem P nt (.cond c a b) t (On s) Q = condB (ev t c) (fun s => asem P nt a t s Q) (fun s => asem P nt b t s Q) (On s) := rfl
theorem wblock (id : Nat) (b : AC) : asem P nt (.block id b) t (On s) Q = asem P nt b t (On s) fun e t' s' => match e with | .exit id' => if id' = id then Q .normal t' s' else Q (.exit id') t' s' | e => Q e t' s' := rfl
theorem wloop (b : AC) : asem P nt (.loop b) t (On s) Q = AW P nt (.loop b) t s Q := rfl
theorem wexit (id : Nat) : asem P nt (.exit id) t (On s) Q = Q (.exit id) t (On s) := rfl
theorem wret : asem P nt .ret t (On s) Q = Q .ret t (On s) := rfl

theorem wnil {K : Env → St → Prop} : aops P [] t (On s) K = K t (On s) := rfl
theorem wcons {d : Nat} {op : AOp} {r : List AIns} {K : Env → St → Prop} : aops P (⟨some d, none, op⟩ :: r) t (On s) K = aop P t (On s) op (fun v s' => aops P r (upd t d v) s' K) := rfl
theorem wcons_none {op : AOp} {r : List AIns} {K : Env → St → Prop} : aops P (⟨none, none, op⟩ :: r) t (On s) K = aop P t (On s) op (fun _ s' => aops P r t s' K) := rfl
theorem wcons_guard {d : Nat} {g : Nat} {b : Bool} {op : AOp} {r : List AIns} {K : Env → St → Prop} : aops P (⟨some d, some (g, b), op⟩ :: r) t (On s) K =
  guardB (isB (t g) b) (fun s => aop P t s op (fun v s' => aops P r (upd t d v) s' K)) (fun s => aops P r (upd t d undefV) s K) (On s) := rfl
theorem wdnil {base : Nat} {p : Pend} {rd : Reads} {K : Env → St → Prop} : adraw P base [] t (On s) p rd K = K t (On (addP s p)) := rfl
theorem wdcons {base i n d : Nat} {a m : List Nat} {op : AOp} {r : List DIns} {p : Pend} {rd : Reads} {K : Env → St → Prop} :
    adraw P base (⟨i, ⟨some d, none, op⟩, a, m, n⟩ :: r) t (On s) p rd K = adop P base i a m n op t (On s) p rd fun v s' p' rd' => adraw P base r (upd t d v) s' p' rd' K := adraw_cons
theorem wdcons_none {base i n : Nat} {a m : List Nat} {op : AOp} {r : List DIns} {p : Pend} {rd : Reads} {K : Env → St → Prop} :
    adraw P base (⟨i, ⟨none, none, op⟩, a, m, n⟩ :: r) t (On s) p rd K = adop P base i a m n op t (On s) p rd fun _ s' p' rd' => adraw P base r t s' p' rd' K := adraw_cons
theorem wdcons_guard {base i n g d : Nat} {b : Bool} {a m : List Nat} {op : AOp} {r : List DIns} {p : Pend} {rd : Reads} {K : Env → St → Prop} :
    adraw P base (⟨i, ⟨some d, some (g, b), op⟩, a, m, n⟩ :: r) t (On s) p rd K =
      guardB (isB (t g) b) (fun s => adop P base i a m n op t s p rd fun v s' p' rd' => adraw P base r (upd t d v) s' p' rd' K) (fun s => adraw P base r (upd t d undefV) s p rd K) (On s) := adraw_cons_guard
theorem isB_true (b : Bool) : isB (.bool b) true = b := by cases b <;> rfl
theorem isB_false (b : Bool) : isB (.bool b) false = !b := by cases b <;> rfl
theorem waop_mov (x : Operand) : aop P t (On s) (.mov x) K = bindO (some (ev t x)) K (On s) := rfl
theorem waop_pick (c a b : Operand) : aop P t (On s) (.pick c a b) K = bindO (apickV (ev t c) (ev t a) (ev t b)) K (On s) := rfl
theorem waop_bin (o : BinOp) (x y : Operand) : aop P t (On s) (.bin o x y) K = bindO (abin o (ev t x) (ev t y)) K (On s) := rfl
theorem waop_un (o : UnOp) (x : Operand) : aop P t (On s) (.un o x) K = bindO (aun o (ev t x)) K (On s) := rfl
theorem waop_isnil (k : Nat) (n : Bool) (x : Operand) : aop P t (On s) (.isnil k n x) K = bindO ((anil k (ev t x)).map (fun b => Value.bool (b != n))) K (On s) := rfl
theorem waop_conv (k : IntKind) (x : Operand) : aop P t (On s) (.conv k x) K = bindO (aconv k (ev t x)) K (On s) := rfl
theorem waop_chk (x : Operand) : aop P t (On s) (.chk x) K = bindO (achk (ev t x)) K (On s) := rfl
theorem waop_fn (f : FuncId) (a b : List Operand) : aop P t (On s) (.fn f a b) K = bindO (some (.func (.func f) (a.map (ev t)).toArray (b.map (ev t)).toArray)) K (On s) := rfl
theorem waop_ext (x : Operand) (i : Nat) : aop P t (On s) (.ext x i) K = bindO (aext (ev t x) i) K (On s) := rfl
theorem waop_faddr (x : Operand) (o : Nat) : aop P t (On s) (.faddr x o) K = bindO (apure t (.faddr x o)) K (On s) := rfl
theorem waop_field (x : Operand) (o n : Nat) (g : Bool) : aop P t (On s) (.field x o n g) K = bindO (apure t (.field x o n g)) K (On s) := rfl
theorem waop_iaddr (x i : Operand) (e : Nat) : aop P t (On s) (.iaddr x i e) K = bindO (aidx e (ev t x) (ev t i)) K (On s) := rfl
theorem waop_iaddrA (x i : Operand) (n e : Nat) : aop P t (On s) (.iaddrA x i n e) K = bindO (aidxAr n e (ev t x) (ev t i)) K (On s) := rfl
theorem waop_idxS (x i : Operand) : aop P t (On s) (.idxS x i) K = bindO (apure t (.idxS x i)) K (On s) := rfl
theorem waop_idxA (x i : Operand) (n e : Nat) (g : Bool) : aop P t (On s) (.idxA x i n e g) K = bindO (apure t (.idxA x i n e g)) K (On s) := rfl
theorem waop_slcS (x : Operand) (a b : Option Operand) : aop P t (On s) (.slcS x a b) K = bindO (apure t (.slcS x a b)) K (On s) := rfl
theorem waop_build (z : List Value) (p : List (Nat × Nat × Operand)) : aop P t (On s) (.build z p) K = bindO (apure t (.build z p)) K (On s) := rfl
theorem waop_len (x : Operand) : aop P t (On s) (.len x) K = bindO (alen (ev t x)) K (On s) := rfl
theorem waop_lenS (x : Operand) : aop P t (On s) (.lenS x) K = bindO (alenS (ev t x)) K (On s) := rfl
theorem waop_mm (m : Bool) (x y : Operand) : aop P t (On s) (.mm m x y) K = bindO (apure t (.mm m x y)) K (On s) := rfl
theorem waop_slc (x : Operand) (a b c : Option Operand) (e : Nat) : aop P t (On s) (.slc x a b c e) K = bindO (aslc s e (ev t x) (a.map (ev t)) (b.map (ev t)) (c.map (ev t))) K (On s) := rfl
theorem waop_load (x : Operand) (n : Nat) (g : Bool) : aop P t (On s) (.load x n g) K = bindO (aread t s (.load x n g)) K (On s) := rfl
theorem waop_load1 (x : Operand) : aop P t (On s) (.load x 1 false) K = bindO (rdv s (ev t x)) K (On s) := by
  rw [waop_load, aread_load1]
theorem waop_loadA (x : Operand) (n : Nat) : aop P t (On s) (.load x n true) K = bindO (aread t s (.load x n true)) K (On s) := rfl
theorem waop_alloc (z : List Value) : aop P t (On s) (.alloc z) K = K (.pointer (some ⟨s.n, 0, none⟩)) (On (s.new (.cells z z.length true))) := rfl
theorem waop_box (x : Operand) : aop P t (On s) (.box x) K = K (.pointer (some ⟨s.n, 0, none⟩)) (On (s.new (.cells (ev t x).cells.toList (ev t x).cells.toList.length true))) := rfl
theorem waop_mkslice (n c : Operand) (e b : Nat) (z : List Value) : aop P t (On s) (.mkslice n c e b z) K = bindA (amks (ev t n) (ev t c) e b z) K (On s) := rfl
theorem waop_bslice (n e : Nat) (z : List Value) (p : List (Nat × Nat × Operand)) : aop P t (On s) (.bslice n e z p) K = bindA (absl n e z (p.map fun p => (p.1, p.2.1, ev t p.2.2))) K (On s) := rfl
theorem waop_store (x v : Operand) (n : Nat) : aop P t (On s) (.store x v n) K = astore s n (ev t x) (ev t v) K := rfl
theorem waop_app (x y : Operand) (e b : Nat) : aop P t (On s) (.app x y e b) K = aapp s e b (ev t x) (ev t y) K := rfl
theorem waop_copy (x y : Operand) (e : Nat) : aop P t (On s) (.copy x y e) K = acopy s e (ev t x) (ev t y) K := rfl
theorem waop_call (f : Operand) (a : List Operand) : aop P t (On s) (.call f a) K = acall P (ev t f) (a.map (ev t)) s K := rfl
end

section
variable {P : Program} {t : Env} {s : St} {C : Value → St → Pend → Reads → Prop} {base idx num : Nat} {anc merge : List Nat} {pend : Pend} {reads : Reads}
theorem wadop_mov (x : Operand) : adop P base idx anc merge num (.mov x) t (On s) pend reads C = bindD (some (ev t x)) C (On s) pend reads := rfl
theorem wadop_pick (c a b : Operand) : adop P base idx anc merge num (.pick c a b) t (On s) pend reads C = bindD (apickV (ev t c) (ev t a) (ev t b)) C (On s) pend reads := rfl
theorem wadop_bin (o : BinOp) (x y : Operand) : adop P base idx anc merge num (.bin o x y) t (On s) pend reads C = bindD (abin o (ev t x) (ev t y)) C (On s) pend reads := rfl
theorem wadop_un (o : UnOp) (x : Operand) : adop P base idx anc merge num (.un o x) t (On s) pend reads C = bindD (aun o (ev t x)) C (On s) pend reads := rfl
theorem wadop_isnil (k : Nat) (n : Bool) (x : Operand) : adop P base idx anc merge num (.isnil k n x) t (On s) pend reads C = bindD ((anil k (ev t x)).map (fun b => Value.bool (b != n))) C (On s) pend reads := rfl
theorem wadop_conv (k : IntKind) (x : Operand) : adop P base idx anc merge num (.conv k x) t (On s) pend reads C = bindD (aconv k (ev t x)) C (On s) pend reads := rfl
theorem wadop_chk (x : Operand) : adop P base idx anc merge num (.chk x) t (On s) pend reads C = bindD (achk (ev t x)) C (On s) pend reads := rfl
theorem wadop_fn (f : FuncId) (a b : List Operand) : adop P base idx anc merge num (.fn f a b) t (On s) pend reads C = bindD (some (.func (.func f) (a.map (ev t)).toArray (b.map (ev t)).toArray)) C (On s) pend reads := rfl
theorem wadop_ext (x : Operand) (i : Nat) : adop P base idx anc merge num (.ext x i) t (On s) pend reads C = bindD (aext (ev t x) i) C (On s) pend reads := rfl
theorem wadop_len (x : Operand) : adop P base idx anc merge num (.len x) t (On s) pend reads C = bindD (alen (ev t x)) C (On s) pend reads := rfl
theorem wadop_lenS (x : Operand) : adop P base idx anc merge num (.lenS x) t (On s) pend reads C = bindD (alenS (ev t x)) C (On s) pend reads := rfl
theorem wadop_faddr (x : Operand) (o : Nat) : adop P base idx anc merge num (.faddr x o) t (On s) pend reads C = bindD (apure t (.faddr x o)) C (On s) pend reads := rfl
theorem wadop_field (x : Operand) (o n : Nat) (g : Bool) : adop P base idx anc merge num (.field x o n g) t (On s) pend reads C = bindD (apure t (.field x o n g)) C (On s) pend reads := rfl
theorem wadop_iaddr (x i : Operand) (e : Nat) : adop P base idx anc merge num (.iaddr x i e) t (On s) pend reads C = bindD (aidx e (ev t x) (ev t i)) C (On s) pend reads := rfl
theorem wadop_iaddrA (x i : Operand) (n e : Nat) : adop P base idx anc merge num (.iaddrA x i n e) t (On s) pend reads C = bindD (aidxAr n e (ev t x) (ev t i)) C (On s) pend reads := rfl
theorem wadop_idxS (x i : Operand) : adop P base idx anc merge num (.idxS x i) t (On s) pend reads C = bindD (apure t (.idxS x i)) C (On s) pend reads := rfl
theorem wadop_idxA (x i : Operand) (n e : Nat) (g : Bool) : adop P base idx anc merge num (.idxA x i n e g) t (On s) pend reads C = bindD (apure t (.idxA x i n e g)) C (On s) pend reads := rfl
theorem wadop_build (z : List Value) (p : List (Nat × Nat × Operand)) : adop P base idx anc merge num (.build z p) t (On s) pend reads C = bindD (apure t (.build z p)) C (On s) pend reads := rfl
theorem wadop_mm (m : Bool) (x y : Operand) : adop P base idx anc merge num (.mm m x y) t (On s) pend reads C = bindD (apure t (.mm m x y)) C (On s) pend reads := rfl
theorem wadop_slc (x : Operand) (a b c : Option Operand) (e : Nat) : adop P base idx anc merge num (.slc x a b c e) t (On s) pend reads C = bindL (aslc s e (ev t x) (a.map (ev t)) (b.map (ev t)) (c.map (ev t))) num idx t (.slc x a b c e) C (On s) pend reads := rfl
theorem wadop_load (x : Operand) (n : Nat) (g : Bool) : adop P base idx anc merge num (.load x n g) t (On s) pend reads C = bindL (aread t s (.load x n g)) num idx t (.load x n g) C (On s) pend reads := rfl
theorem wadop_load1 (x : Operand) : adop P base idx anc merge num (.load x 1 false) t (On s) pend reads C = bindL (rdv s (ev t x)) num idx t (.load x 1 false) C (On s) pend reads := by
  rw [wadop_load, aread_load1]
theorem wadop_loadA (x : Operand) (n : Nat) : adop P base idx anc merge num (.load x n true) t (On s) pend reads C = bindL (aread t s (.load x n true)) num idx t (.load x n true) C (On s) pend reads := rfl
theorem wadop_alloc (z : List Value) : adop P base idx anc merge num (.alloc z) t (On s) pend reads C = C (.pointer (some ⟨base + num, 0, none⟩)) (On s) ((idx, base + num, .cells z z.length true) :: pend) reads := rfl
theorem wadop_box (x : Operand) : adop P base idx anc merge num (.box x) t (On s) pend reads C = C (.pointer (some ⟨base + num, 0, none⟩)) (On s) ((idx, base + num, .cells (ev t x).cells.toList (ev t x).cells.toList.length true) :: pend) reads := rfl
theorem wadop_mkslice (n c : Operand) (e b : Nat) (z : List Value) : adop P base idx anc merge num (.mkslice n c e b z) t (On s) pend reads C = bindB (amks (ev t n) (ev t c) e b z) (base + num) idx C (On s) pend reads := rfl
theorem wadop_bslice (n e : Nat) (z : List Value) (p : List (Nat × Nat × Operand)) : adop P base idx anc merge num (.bslice n e z p) t (On s) pend reads C = bindB (absl n e z (p.map fun p => (p.1, p.2.1, ev t p.2.2))) (base + num) idx C (On s) pend reads := rfl
theorem wadop_store (x v : Operand) (n : Nat) : adop P base idx anc merge num (.store x v n) t (On s) pend reads C = astore (addP s (keepP merge pend)) n (ev t x) (ev t v) (fun v s' => okR s' (dropR anc reads) ∧ C v s' (dropP merge pend) (dropR anc reads)) := rfl
theorem wadop_app (x y : Operand) (e b : Nat) : adop P base idx anc merge num (.app x y e b) t (On s) pend reads C = aapp (addP s (keepP merge pend)) e b (ev t x) (ev t y) (fun v s' => okR s' (dropR anc reads) ∧ C v s' (dropP merge pend) (dropR anc reads)) := rfl
theorem wadop_copy (x y : Operand) (e : Nat) : adop P base idx anc merge num (.copy x y e) t (On s) pend reads C = acopy (addP s (keepP merge pend)) e (ev t x) (ev t y) (fun v s' => okR s' (dropR anc reads) ∧ C v s' (dropP merge pend) (dropR anc reads)) := rfl
theorem wadop_call (f : Operand) (a : List Operand) : adop P base idx anc merge num (.call f a) t (On s) pend reads C = acall P (ev t f) (a.map (ev t)) (addP s (keepP merge pend)) (fun v s' => okR s' (dropR anc reads) ∧ C v s' (dropP merge pend) (dropR anc reads)) := rfl
end
end Go.Ab
