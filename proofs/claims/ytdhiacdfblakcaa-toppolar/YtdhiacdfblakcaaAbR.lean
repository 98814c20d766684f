/- Words by which a walk through the small machine's code is reckoned. -/
import Derived.Test.YtdhiacdfblakcaaAbQ
import Derived.KernelRfl
namespace Go.Ab
open Go

section
variable {P : Program} {nt : Nat} {t : Env} {s : St} {K : Value → St → Prop}

theorem aops_nil {K : Env → St → Prop} : aops P [] t s K = K t s := rfl
theorem aops_cons {d : Option Nat} {op : AOp} {r : List AIns} {K : Env → St → Prop} : aops P (⟨d, none, op⟩ :: r) t s K = aop P t s op (fun v s' => aops P r (putO t d v) s' K) := rfl
theorem aops_cons_guard {d : Option Nat} {g : Nat} {b : Bool} {op : AOp} {r : List AIns} {K : Env → St → Prop} : aops P (⟨d, some (g, b), op⟩ :: r) t s K =
  if isB (t g) b = true then aop P t s op (fun v s' => aops P r (putO t d v) s' K) else aops P r (putO t d undefV) s K := rfl
theorem isB_bool (b c : Bool) : isB (.bool b) c = (b == c) := rfl

theorem aop_mov (x : Operand) : aop P t s (.mov x) K = K (ev t x) s := rfl
theorem aop_pick (c a b : Operand) : aop P t s (.pick c a b) K = match (match ev t c with | .bool c => some (if c then ev t a else ev t b) | _ => none : Option Value) with | some v => K v s | none => False := rfl
theorem aop_bin (o : BinOp) (x y : Operand) : aop P t s (.bin o x y) K = match abin o (ev t x) (ev t y) with | some v => K v s | none => False := rfl
theorem aop_un (o : UnOp) (x : Operand) : aop P t s (.un o x) K = match aun o (ev t x) with | some v => K v s | none => False := rfl
theorem aop_isnil (k : Nat) (n : Bool) (x : Operand) : aop P t s (.isnil k n x) K = match (anil k (ev t x)).map (fun b => Value.bool (b != n)) with | some v => K v s | none => False := rfl
theorem aop_conv (k : IntKind) (x : Operand) : aop P t s (.conv k x) K = match (match ev t x with | .int _ n => some (.int k (k.wrap n)) | _ => none : Option Value) with | some v => K v s | none => False := rfl
theorem aop_chk (x : Operand) : aop P t s (.chk x) K = match (match ev t x with | .pointer (some a) => some (.pointer (some a)) | _ => none : Option Value) with | some v => K v s | none => False := rfl
theorem aop_fn (f : FuncId) (a b : List Operand) : aop P t s (.fn f a b) K = K (.func (.func f) (a.map (ev t)).toArray (b.map (ev t)).toArray) s := rfl
theorem aop_ext (x : Operand) (i : Nat) : aop P t s (.ext x i) K = match (match ev t x with | .tuple vs => vs.toList[i]? | _ => none : Option Value) with | some v => K v s | none => False := rfl
theorem aop_faddr (x : Operand) (o : Nat) : aop P t s (.faddr x o) K = match apure t (.faddr x o) with | some v => K v s | none => False := rfl
theorem aop_field (x : Operand) (o n : Nat) (g : Bool) : aop P t s (.field x o n g) K = match apure t (.field x o n g) with | some v => K v s | none => False := rfl
theorem aop_iaddr (x i : Operand) (e : Nat) : aop P t s (.iaddr x i e) K = match apure t (.iaddr x i e) with | some v => K v s | none => False := rfl
theorem aop_iaddrA (x i : Operand) (n e : Nat) : aop P t s (.iaddrA x i n e) K = match apure t (.iaddrA x i n e) with | some v => K v s | none => False := rfl
theorem aop_idxS (x i : Operand) : aop P t s (.idxS x i) K = match apure t (.idxS x i) with | some v => K v s | none => False := rfl
theorem aop_idxA (x i : Operand) (n e : Nat) (g : Bool) : aop P t s (.idxA x i n e g) K = match apure t (.idxA x i n e g) with | some v => K v s | none => False := rfl
theorem aop_slcS (x : Operand) (a b : Option Operand) : aop P t s (.slcS x a b) K = match apure t (.slcS x a b) with | some v => K v s | none => False := rfl
theorem aop_build (z : List Value) (p : List (Nat × Nat × Operand)) : aop P t s (.build z p) K = match apure t (.build z p) with | some v => K v s | none => False := rfl
theorem aop_len (x : Operand) : aop P t s (.len x) K = match (match ev t x with | .slice _ n _ => some (.int .i64 n) | _ => none : Option Value) with | some v => K v s | none => False := rfl
theorem aop_lenS (x : Operand) : aop P t s (.lenS x) K = match (match ev t x with | .string s => some (.int .i64 s.size) | _ => none : Option Value) with | some v => K v s | none => False := rfl
theorem aop_mm (m : Bool) (x y : Operand) : aop P t s (.mm m x y) K = match apure t (.mm m x y) with | some v => K v s | none => False := rfl
theorem aop_slc (x : Operand) (a b c : Option Operand) (e : Nat) : aop P t s (.slc x a b c e) K = match aread t s (.slc x a b c e) with | some v => K v s | none => False := rfl
theorem aop_load (x : Operand) (n : Nat) (g : Bool) : aop P t s (.load x n g) K = match aread t s (.load x n g) with | some v => K v s | none => False := rfl
theorem aop_alloc (z : List Value) : aop P t s (.alloc z) K = K (.pointer (some ⟨s.n, 0, none⟩)) (s.new (.cells z z.length true)) := rfl
theorem aop_box (x : Operand) : aop P t s (.box x) K = K (.pointer (some ⟨s.n, 0, none⟩)) (s.new (.cells (ev t x).cells.toList (ev t x).cells.toList.length true)) := rfl
theorem aop_mkslice (n c : Operand) (e b : Nat) (z : List Value) : aop P t s (.mkslice n c e b z) K = match aalloc t (.mkslice n c e b z) with | some (ob, f) => K (f s.n) (s.new ob) | none => False := rfl
theorem aop_bslice (n e : Nat) (z : List Value) (p : List (Nat × Nat × Operand)) : aop P t s (.bslice n e z p) K = match aalloc t (.bslice n e z p) with | some (ob, f) => K (f s.n) (s.new ob) | none => False := rfl
theorem aop_store (x v : Operand) (n : Nat) : aop P t s (.store x v n) K = astore s n (ev t x) (ev t v) K := rfl
theorem aop_app (x y : Operand) (e b : Nat) : aop P t s (.app x y e b) K = aapp s e b (ev t x) (ev t y) K := rfl
theorem aop_copy (x y : Operand) (e : Nat) : aop P t s (.copy x y e) K = acopy s e (ev t x) (ev t y) K := rfl
theorem aop_call (f : Operand) (a : List Operand) : aop P t s (.call f a) K = acall P (ev t f) (a.map (ev t)) s K := rfl
theorem acall_func (g : FuncId) (fi ca : Array Value) (a : List Value) : acall P (.func (.func g) fi ca) a s K = ACalls P g (fi.toList ++ a ++ ca.toList) s K := rfl

theorem ev_tmp (i : Nat) : ev t (.tmp i) = t i := rfl
theorem ev_const (v : Value) : ev t (.const v) = v := rfl
theorem ev_func (f : FuncId) : ev t (.func f) = .func (.func f) #[] #[] := rfl
theorem putO_some (d : Nat) (v : Value) : putO t (some d) v = upd t d v := rfl
theorem putO_none (v : Value) : putO t none v = t := rfl
theorem upd_apply (d i : Nat) (v : Value) : upd t d v i = if i = d then v else t i := rfl

theorem abin_add (k : IntKind) (a b : Int) : abin .add (.int k a) (.int k b) = some (.int k (k.wrap (a + b))) := by simp [abin]
theorem abin_sub (k : IntKind) (a b : Int) : abin .sub (.int k a) (.int k b) = some (.int k (k.wrap (a - b))) := by simp [abin]
theorem abin_mul (k : IntKind) (a b : Int) : abin .mul (.int k a) (.int k b) = some (.int k (k.wrap (a * b))) := by simp [abin]
theorem abin_quo (k : IntKind) (a b : Int) : abin .quo (.int k a) (.int k b) = if b = 0 then none else some (.int k (k.wrap (a.tdiv b))) := by simp [abin]
theorem abin_rem (k : IntKind) (a b : Int) : abin .rem (.int k a) (.int k b) = if b = 0 then none else some (.int k (a.tmod b)) := by simp [abin]
theorem abin_and (k : IntKind) (a b : Int) : abin .and (.int k a) (.int k b) = some (.int k (abits .and k a b)) := by simp [abin]
theorem abin_or (k : IntKind) (a b : Int) : abin .or (.int k a) (.int k b) = some (.int k (abits .or k a b)) := by simp [abin]
theorem abin_xor (k : IntKind) (a b : Int) : abin .xor (.int k a) (.int k b) = some (.int k (abits .xor k a b)) := by simp [abin]
theorem abin_andNot (k : IntKind) (a b : Int) : abin .andNot (.int k a) (.int k b) = some (.int k (abits .andNot k a b)) := by simp [abin]
theorem abin_shl (k j : IntKind) (a b : Int) : abin .shl (.int k a) (.int j b) = if b < 0 then none else some (.int k (k.wrap (a * 2 ^ (min b.toNat k.bits)))) := by simp [abin]
theorem abin_shr (k j : IntKind) (a b : Int) : abin .shr (.int k a) (.int j b) = if b < 0 then none else some (.int k (a.fdiv (2 ^ (min b.toNat k.bits)))) := by simp [abin]
theorem abin_eql (k : IntKind) (a b : Int) : abin .eql (.int k a) (.int k b) = some (.bool (a == b)) := by simp [abin]
theorem abin_neq (k : IntKind) (a b : Int) : abin .neq (.int k a) (.int k b) = some (.bool (a != b)) := by simp [abin]
theorem abin_lss (k : IntKind) (a b : Int) : abin .lss (.int k a) (.int k b) = some (.bool (decide (a < b))) := by simp [abin]
theorem abin_leq (k : IntKind) (a b : Int) : abin .leq (.int k a) (.int k b) = some (.bool (decide (a ≤ b))) := by simp [abin]
theorem abin_gtr (k : IntKind) (a b : Int) : abin .gtr (.int k a) (.int k b) = some (.bool (decide (a > b))) := by simp [abin]
theorem abin_geq (k : IntKind) (a b : Int) : abin .geq (.int k a) (.int k b) = some (.bool (decide (a ≥ b))) := by simp [abin]

/-- Sums that stay within 64 bits. -/
theorem w64 {n : Int} (h1 : -9223372036854775808 ≤ n) (h2 : n ≤ 9223372036854775807) : IntKind.i64.wrap n = n := by
  simp only [IntKind.wrap, IntKind.bits, IntKind.signed]
  simp
  omega

theorem w64_range (n : Int) : -9223372036854775808 ≤ IntKind.i64.wrap n ∧ IntKind.i64.wrap n ≤ 9223372036854775807 := by
  simp only [IntKind.wrap, IntKind.bits, IntKind.signed]
  simp
  omega

variable {C : Value → St → Pend → Reads → Prop} {base idx num : Nat} {anc merge : List Nat} {pend : Pend} {reads : Reads}
theorem adop_mov (x : Operand) : adop P base idx anc merge num (.mov x) t s pend reads C = C (ev t x) s pend reads := rfl
theorem adop_pick (c a b : Operand) : adop P base idx anc merge num (.pick c a b) t s pend reads C = match (match ev t c with | .bool c => some (if c then ev t a else ev t b) | _ => none : Option Value) with | some v => C v s pend reads | none => False := rfl
theorem adop_bin (o : BinOp) (x y : Operand) : adop P base idx anc merge num (.bin o x y) t s pend reads C = match abin o (ev t x) (ev t y) with | some v => C v s pend reads | none => False := rfl
theorem adop_un (o : UnOp) (x : Operand) : adop P base idx anc merge num (.un o x) t s pend reads C = match aun o (ev t x) with | some v => C v s pend reads | none => False := rfl
theorem adop_isnil (k : Nat) (n : Bool) (x : Operand) : adop P base idx anc merge num (.isnil k n x) t s pend reads C = match (anil k (ev t x)).map (fun b => Value.bool (b != n)) with | some v => C v s pend reads | none => False := rfl
theorem adop_conv (k : IntKind) (x : Operand) : adop P base idx anc merge num (.conv k x) t s pend reads C = match (match ev t x with | .int _ n => some (.int k (k.wrap n)) | _ => none : Option Value) with | some v => C v s pend reads | none => False := rfl
theorem adop_chk (x : Operand) : adop P base idx anc merge num (.chk x) t s pend reads C = match (match ev t x with | .pointer (some a) => some (.pointer (some a)) | _ => none : Option Value) with | some v => C v s pend reads | none => False := rfl
theorem adop_fn (f : FuncId) (a b : List Operand) : adop P base idx anc merge num (.fn f a b) t s pend reads C = C (.func (.func f) (a.map (ev t)).toArray (b.map (ev t)).toArray) s pend reads := rfl
theorem adop_ext (x : Operand) (i : Nat) : adop P base idx anc merge num (.ext x i) t s pend reads C = match (match ev t x with | .tuple vs => vs.toList[i]? | _ => none : Option Value) with | some v => C v s pend reads | none => False := rfl
theorem adop_len (x : Operand) : adop P base idx anc merge num (.len x) t s pend reads C = match (match ev t x with | .slice _ n _ => some (.int .i64 n) | _ => none : Option Value) with | some v => C v s pend reads | none => False := rfl
theorem adop_lenS (x : Operand) : adop P base idx anc merge num (.lenS x) t s pend reads C = match (match ev t x with | .string s => some (.int .i64 s.size) | _ => none : Option Value) with | some v => C v s pend reads | none => False := rfl
theorem adop_faddr (x : Operand) (o : Nat) : adop P base idx anc merge num (.faddr x o) t s pend reads C = match apure t (.faddr x o) with | some v => C v s pend reads | none => False := rfl
theorem adop_field (x : Operand) (o n : Nat) (g : Bool) : adop P base idx anc merge num (.field x o n g) t s pend reads C = match apure t (.field x o n g) with | some v => C v s pend reads | none => False := rfl
theorem adop_iaddr (x i : Operand) (e : Nat) : adop P base idx anc merge num (.iaddr x i e) t s pend reads C = match apure t (.iaddr x i e) with | some v => C v s pend reads | none => False := rfl
theorem adop_iaddrA (x i : Operand) (n e : Nat) : adop P base idx anc merge num (.iaddrA x i n e) t s pend reads C = match apure t (.iaddrA x i n e) with | some v => C v s pend reads | none => False := rfl
theorem adop_idxS (x i : Operand) : adop P base idx anc merge num (.idxS x i) t s pend reads C = match apure t (.idxS x i) with | some v => C v s pend reads | none => False := rfl
theorem adop_idxA (x i : Operand) (n e : Nat) (g : Bool) : adop P base idx anc merge num (.idxA x i n e g) t s pend reads C = match apure t (.idxA x i n e g) with | some v => C v s pend reads | none => False := rfl
theorem adop_build (z : List Value) (p : List (Nat × Nat × Operand)) : adop P base idx anc merge num (.build z p) t s pend reads C = match apure t (.build z p) with | some v => C v s pend reads | none => False := rfl
theorem adop_mm (m : Bool) (x y : Operand) : adop P base idx anc merge num (.mm m x y) t s pend reads C = match apure t (.mm m x y) with | some v => C v s pend reads | none => False := rfl
theorem adop_slc (x : Operand) (a b c : Option Operand) (e : Nat) : adop P base idx anc merge num (.slc x a b c e) t s pend reads C =
  match aread t s (.slc x a b c e) with | some v => C v s pend (if num = 0 then reads else (idx, t, .slc x a b c e, v) :: reads) | none => False := rfl
theorem adop_load (x : Operand) (n : Nat) (g : Bool) : adop P base idx anc merge num (.load x n g) t s pend reads C =
  match aread t s (.load x n g) with | some v => C v s pend (if num = 0 then reads else (idx, t, .load x n g, v) :: reads) | none => False := rfl
theorem adop_alloc (z : List Value) : adop P base idx anc merge num (.alloc z) t s pend reads C = C (.pointer (some ⟨base + num, 0, none⟩)) s ((idx, base + num, .cells z z.length true) :: pend) reads := rfl
theorem adop_box (x : Operand) : adop P base idx anc merge num (.box x) t s pend reads C =
  C (.pointer (some ⟨base + num, 0, none⟩)) s ((idx, base + num, .cells (ev t x).cells.toList (ev t x).cells.toList.length true) :: pend) reads := rfl
theorem adop_mkslice (n c : Operand) (e b : Nat) (z : List Value) : adop P base idx anc merge num (.mkslice n c e b z) t s pend reads C =
  match aalloc t (.mkslice n c e b z) with | some (ob, f) => C (f (base + num)) s ((idx, base + num, ob) :: pend) reads | none => False := rfl
theorem adop_bslice (n e : Nat) (z : List Value) (p : List (Nat × Nat × Operand)) : adop P base idx anc merge num (.bslice n e z p) t s pend reads C =
  match aalloc t (.bslice n e z p) with | some (ob, f) => C (f (base + num)) s ((idx, base + num, ob) :: pend) reads | none => False := rfl
/-- A heavy one. -/
theorem adop_store (x v : Operand) (n : Nat) : adop P base idx anc merge num (.store x v n) t s pend reads C = astore (addP s (pend.filter fun p => merge.contains p.1)) n (ev t x) (ev t v) (fun v s' =>
      (∀ x ∈ reads.filter (fun x => !anc.contains x.1), aread x.2.1 s' x.2.2.1 = some x.2.2.2) ∧ C v s' (pend.filter fun p => !merge.contains p.1) (reads.filter fun x => !anc.contains x.1)) := rfl
theorem adop_app (x y : Operand) (e b : Nat) : adop P base idx anc merge num (.app x y e b) t s pend reads C = aapp (addP s (pend.filter fun p => merge.contains p.1)) e b (ev t x) (ev t y) (fun v s' =>
      (∀ x ∈ reads.filter (fun x => !anc.contains x.1), aread x.2.1 s' x.2.2.1 = some x.2.2.2) ∧ C v s' (pend.filter fun p => !merge.contains p.1) (reads.filter fun x => !anc.contains x.1)) := rfl
theorem adop_copy (x y : Operand) (e : Nat) : adop P base idx anc merge num (.copy x y e) t s pend reads C = acopy (addP s (pend.filter fun p => merge.contains p.1)) e (ev t x) (ev t y) (fun v s' =>
      (∀ x ∈ reads.filter (fun x => !anc.contains x.1), aread x.2.1 s' x.2.2.1 = some x.2.2.2) ∧ C v s' (pend.filter fun p => !merge.contains p.1) (reads.filter fun x => !anc.contains x.1)) := rfl
theorem adop_call (f : Operand) (a : List Operand) : adop P base idx anc merge num (.call f a) t s pend reads C = acall P (ev t f) (a.map (ev t)) (addP s (pend.filter fun p => merge.contains p.1)) (fun v s' =>
      (∀ x ∈ reads.filter (fun x => !anc.contains x.1), aread x.2.1 s' x.2.2.1 = some x.2.2.2) ∧ C v s' (pend.filter fun p => !merge.contains p.1) (reads.filter fun x => !anc.contains x.1)) := rfl

end

theorem asem_ops {P : Program} {nt : Nat} {t : Env} {s : St} {Q : Exit → Env → St → Prop} (l : List AIns) : asem P nt (.ops l) t s Q = aops P l t s (Q .normal) := rfl
theorem asem_draw {P : Program} {nt : Nat} {t : Env} {s : St} {Q : Exit → Env → St → Prop} (ds : List DIns) (na : Nat) : asem P nt (.draw ds na) t s Q = adraw P s.n ds t ⟨s.H, s.n + na⟩ [] [] (Q .normal) := rfl
end Go.Ab
