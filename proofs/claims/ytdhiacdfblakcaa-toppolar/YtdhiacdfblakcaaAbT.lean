/- One name for all rules of a simp -implicitDefEqProofs only [↓walkD, walkU, acall_func, apure, Nat.reduceEqDiff, reduceIte]; slices in a simp -implicitDefEqProofs only [↓walkD, walkU, acall_func, apure, Nat.reduceEqDiff, reduceIte]. -/
import Derived.Test.YtdhiacdfblakcaaAbV
namespace Go.Ab
open Go

theorem aun_neg (k : IntKind) (a : Int) : aun .neg (.int k a) = some (.int k (k.wrap (0 - a))) := rfl
theorem aun_not (a : Bool) : aun .not (.bool a) = some (.bool (!a)) := rfl
theorem aun_xor (k : IntKind) (a : Int) : aun .xor (.int k a) = some (.int k (abits .xor k (if k.signed then -1 else k.max) a)) := rfl
theorem anil0 (a : Option Addr) (n c : Nat) : anil 0 (.slice a n c) = some a.isNone := rfl
theorem anil1 (a : Option Addr) : anil 1 (.pointer a) = some a.isNone := rfl
theorem anil2 (a : Option Nat) : anil 2 (.map a) = some a.isNone := rfl
theorem anil3 : anil 3 .nilFunc = some true := rfl
theorem anil3f (f : Fn) (a b : Array Value) : anil 3 (.func f a b) = some false := rfl
theorem l_map_cons (f : Operand → Value) (a : Operand) (l : List Operand) : (a :: l).map f = f a :: l.map f := rfl
theorem l_map_nil (f : Operand → Value) : ([] : List Operand).map f = [] := rfl
theorem l_app_cons (a : Value) (l m : List Value) : a :: l ++ m = a :: (l ++ m) := rfl
theorem l_app_nil (l : List Value) : [] ++ l = l := rfl
theorem l_app_nil2 (l : List Value) : l ++ [] = l := List.append_nil l
theorem o_map_some (f : List Value → List Value) (a : List Value) : (some a).map f = some (f a) := rfl
theorem o_map_none (f : List Value → List Value) : (none : Option (List Value)).map f = none := rfl
theorem lv_map_cons (f : Value → Value) (a : Value) (l : List Value) : (a :: l).map f = f a :: l.map f := rfl
theorem lv_map_nil (f : Value → Value) : ([] : List Value).map f = [] := rfl
theorem ov_map_some (f : Operand → Value) (a : Operand) : (some a).map f = some (f a) := rfl
theorem ov_map_none (f : Operand → Value) : (none : Option Operand).map f = none := rfl
theorem lp_map_cons (f : Nat × Nat × Operand → Nat × Nat × Value) (a : Nat × Nat × Operand) (l : List (Nat × Nat × Operand)) : (a :: l).map f = f a :: l.map f := rfl
theorem lp_map_nil (f : Nat × Nat × Operand → Nat × Nat × Value) : ([] : List (Nat × Nat × Operand)).map f = [] := rfl
theorem packV1 (v : Value) : packV [v] = v := rfl
theorem packV2 (a b : Value) : packV [a, b] = .tuple #[a, b] := rfl
theorem packV3 (a b c : Value) : packV [a, b, c] = .tuple #[a, b, c] := rfl
theorem packV4 (a b c d : Value) : packV [a, b, c, d] = .tuple #[a, b, c, d] := rfl
theorem initE_0 (a : Value) (l : List Value) : initE (a :: l) 0 = a := rfl
theorem initE_1 (a b : Value) (l : List Value) : initE (a :: b :: l) 1 = b := rfl
theorem initE_2 (a b c : Value) (l : List Value) : initE (a :: b :: c :: l) 2 = c := rfl
theorem initE_3 (a b c d : Value) (l : List Value) : initE (a :: b :: c :: d :: l) 3 = d := rfl
theorem initE_4 (a b c d e : Value) (l : List Value) : initE (a :: b :: c :: d :: e :: l) 4 = e := rfl
theorem initE_5 (a b c d e f : Value) (l : List Value) : initE (a :: b :: c :: d :: e :: f :: l) 5 = f := rfl
theorem initE_6 (a b c d e f g : Value) (l : List Value) : initE (a :: b :: c :: d :: e :: f :: g :: l) 6 = g := rfl
theorem initE_7 (a b c d e f g h : Value) (l : List Value) : initE (a :: b :: c :: d :: e :: f :: g :: h :: l) 7 = h := rfl
theorem ares_nil (t : Env) (s : St) : ares t s [] = some [] := rfl
theorem ares_tmp (t : Env) (s : St) (x : Nat) (r : List ARes) : ares t s (.tmp x :: r) = (ares t s r).map (t x :: ·) := rfl

theorem aslc_on (s : St) (e : Nat) (x : Value) (a b c : Option Value) : aslc (On s) e x a b c = aslc s e x a b c := rfl
theorem rdv_on (s : St) (x : Value) : rdv (On s) x = rdv s x := rfl
theorem okR_on (s : St) (r : Reads) : okR (On s) r = okR s r := rfl
def memN (i : Nat) : List Nat → Bool
  | [] => false
  | j :: l => if i = j then true else memN i l
theorem memN_nil (i : Nat) : memN i [] = false := rfl
theorem memN_cons (i j : Nat) (l : List Nat) : memN i (j :: l) = if i = j then true else memN i l := rfl
theorem memN_eq (i : Nat) : ∀ l : List Nat, memN i l = l.contains i
  | [] => rfl
  | j :: l => by
    rw [memN_cons, memN_eq i l, List.contains_cons]
    by_cases h : i = j
    · simp [h]
    · have : (i == j) = false := by simpa using h
      rw [if_neg h, this, Bool.false_or]
theorem dropR_cons (anc : List Nat) (i : Nat) (t : Env) (op : AOp) (v : Value) (r : Reads) : dropR anc ((i, t, op, v) :: r) = if memN i anc = true then dropR anc r else (i, t, op, v) :: dropR anc r := by
  rw [memN_eq]
  simp only [dropR, List.filter_cons]
  cases anc.contains i <;> simp
theorem keepP_cons (m : List Nat) (i b : Nat) (o : AObj) (p : Pend) : keepP m ((i, b, o) :: p) = if memN i m = true then (i, b, o) :: keepP m p else keepP m p := by
  rw [memN_eq]
  simp only [keepP, List.filter_cons]
theorem dropP_cons (m : List Nat) (i b : Nat) (o : AObj) (p : Pend) : dropP m ((i, b, o) :: p) = if memN i m = true then dropP m p else (i, b, o) :: dropP m p := by
  rw [memN_eq]
  simp only [dropP, List.filter_cons]
  cases m.contains i <;> simp
theorem addP_cons (s : St) (i b : Nat) (o : AObj) (p : Pend) : addP s ((i, b, o) :: p) = (addP s p).put b o := rfl
theorem ob_map_some (f : Bool → Value) (b : Bool) : (some b).map f = some (f b) := rfl
theorem guardB_introN {x : Bool} {A B : St → Prop} {s : St} (h1 : x = false → A s) (h2 : x = true → B s) : guardB (!x) A B s := by
  cases x
  · exact h1 rfl
  · exact h2 rfl
theorem bne_f (b : Bool) : (b != false) = b := by cases b <;> rfl
theorem bne_t (b : Bool) : (b != true) = !b := by cases b <;> rfl
theorem okR_cons (s : St) (i : Nat) (t : Env) (op : AOp) (v : Value) (r : Reads) : okR s ((i, t, op, v) :: r) = (aread t s op = some v ∧ okR s r) := by
  simp [okR]

theorem walkD : type_of% (And.intro @wskip (And.intro @wops (And.intro @wdraw0 (And.intro @wdraw (And.intro @wseq (And.intro @wcond (And.intro @wblock (And.intro @wloop (And.intro @wexit (And.intro @wret (And.intro @wnil (And.intro @wcons (And.intro @wcons_none (And.intro @wcons_guard (And.intro @wdnil (And.intro @wdcons (And.intro @wdcons_none (And.intro @wdcons_guard (And.intro @waop_mov (And.intro @waop_pick (And.intro @waop_bin (And.intro @waop_un (And.intro @waop_isnil (And.intro @waop_conv (And.intro @waop_chk (And.intro @waop_fn (And.intro @waop_ext (And.intro @waop_faddr (And.intro @waop_field (And.intro @waop_iaddr (And.intro @waop_iaddrA (And.intro @waop_idxS (And.intro @waop_idxA (And.intro @waop_slcS (And.intro @waop_build (And.intro @waop_len (And.intro @waop_lenS (And.intro @waop_mm (And.intro @waop_slc (And.intro @waop_load1 (And.intro @waop_loadA (And.intro @waop_alloc (And.intro @waop_box (And.intro @waop_mkslice (And.intro @waop_bslice (And.intro @waop_store (And.intro @waop_app (And.intro @waop_copy (And.intro @waop_call (And.intro @wadop_mov (And.intro @wadop_pick (And.intro @wadop_bin (And.intro @wadop_un (And.intro @wadop_isnil (And.intro @wadop_conv (And.intro @wadop_chk (And.intro @wadop_fn (And.intro @wadop_ext (And.intro @wadop_len (And.intro @wadop_lenS (And.intro @wadop_faddr (And.intro @wadop_field (And.intro @wadop_iaddr (And.intro @wadop_iaddrA (And.intro @wadop_idxS (And.intro @wadop_idxA (And.intro @wadop_build (And.intro @wadop_mm (And.intro @wadop_slc (And.intro @wadop_load1 (And.intro @wadop_loadA (And.intro @wadop_alloc (And.intro @wadop_box (And.intro @wadop_mkslice (And.intro @wadop_bslice (And.intro @wadop_store (And.intro @wadop_app (And.intro @wadop_copy (@wadop_call))))))))))))))))))))))))))))))))))))))))))))))))))))))))))))))))))))))))))))))) :=
  And.intro @wskip (And.intro @wops (And.intro @wdraw0 (And.intro @wdraw (And.intro @wseq (And.intro @wcond (And.intro @wblock (And.intro @wloop (And.intro @wexit (And.intro @wret (And.intro @wnil (And.intro @wcons (And.intro @wcons_none (And.intro @wcons_guard (And.intro @wdnil (And.intro @wdcons (And.intro @wdcons_none (And.intro @wdcons_guard (And.intro @waop_mov (And.intro @waop_pick (And.intro @waop_bin (And.intro @waop_un (And.intro @waop_isnil (And.intro @waop_conv (And.intro @waop_chk (And.intro @waop_fn (And.intro @waop_ext (And.intro @waop_faddr (And.intro @waop_field (And.intro @waop_iaddr (And.intro @waop_iaddrA (And.intro @waop_idxS (And.intro @waop_idxA (And.intro @waop_slcS (And.intro @waop_build (And.intro @waop_len (And.intro @waop_lenS (And.intro @waop_mm (And.intro @waop_slc (And.intro @waop_load1 (And.intro @waop_loadA (And.intro @waop_alloc (And.intro @waop_box (And.intro @waop_mkslice (And.intro @waop_bslice (And.intro @waop_store (And.intro @waop_app (And.intro @waop_copy (And.intro @waop_call (And.intro @wadop_mov (And.intro @wadop_pick (And.intro @wadop_bin (And.intro @wadop_un (And.intro @wadop_isnil (And.intro @wadop_conv (And.intro @wadop_chk (And.intro @wadop_fn (And.intro @wadop_ext (And.intro @wadop_len (And.intro @wadop_lenS (And.intro @wadop_faddr (And.intro @wadop_field (And.intro @wadop_iaddr (And.intro @wadop_iaddrA (And.intro @wadop_idxS (And.intro @wadop_idxA (And.intro @wadop_build (And.intro @wadop_mm (And.intro @wadop_slc (And.intro @wadop_load1 (And.intro @wadop_loadA (And.intro @wadop_alloc (And.intro @wadop_box (And.intro @wadop_mkslice (And.intro @wadop_bslice (And.intro @wadop_store (And.intro @wadop_app (And.intro @wadop_copy (@wadop_call))))))))))))))))))))))))))))))))))))))))))))))))))))))))))))))))))))))))))))))

theorem walkU : type_of% (And.intro @upd_apply (And.intro @bindO_some (And.intro @bindA_some (And.intro @bindD_some (And.intro @bindL_zero (And.intro @bindL_succ (And.intro @bindB_some (And.intro @condB_true (And.intro @condB_false (And.intro @guardB_true (And.intro @guardB_false (And.intro @dropR_nil (And.intro @okR_nil (And.intro @keepP_nil (And.intro @dropP_nil (And.intro @addP_nil (And.intro @isB_true (And.intro @isB_false (And.intro @ev_tmp (And.intro @ev_const (And.intro @ev_func (And.intro @abin_add (And.intro @abin_sub (And.intro @abin_mul (And.intro @abin_quo (And.intro @abin_rem (And.intro @abin_and (And.intro @abin_or (And.intro @abin_xor (And.intro @abin_andNot (And.intro @abin_shl (And.intro @abin_shr (And.intro @abin_eql (And.intro @abin_neq (And.intro @abin_lss (And.intro @abin_leq (And.intro @abin_gtr (And.intro @abin_geq (And.intro @aext_zero (And.intro @aext_succ (And.intro @alenS_string (And.intro @aconv_int (And.intro @achk_ptr (And.intro @apickV_true (And.intro @apickV_false (And.intro @apickV_or (And.intro @apickV_and (And.intro @true_and (And.intro @and_true (And.intro @Nat.add_zero (And.intro @Nat.zero_add (And.intro @Bool.not_true (And.intro @Bool.not_false (And.intro @aun_neg (And.intro @aun_not (And.intro @aun_xor (And.intro @anil0 (And.intro @anil1 (And.intro @anil2 (And.intro @anil3 (And.intro @anil3f (And.intro @l_map_cons (And.intro @l_map_nil (And.intro @l_app_cons (And.intro @l_app_nil (And.intro @l_app_nil2 (And.intro @o_map_some (And.intro @o_map_none (And.intro @lv_map_cons (And.intro @lv_map_nil (And.intro @ov_map_some (And.intro @ov_map_none (And.intro @lp_map_cons (And.intro @lp_map_nil (And.intro @packV1 (And.intro @packV2 (And.intro @packV3 (And.intro @packV4 (And.intro @initE_0 (And.intro @initE_1 (And.intro @initE_2 (And.intro @initE_3 (And.intro @initE_4 (And.intro @initE_5 (And.intro @initE_6 (And.intro @initE_7 (And.intro @ares_nil (And.intro @ares_tmp (And.intro @okR_on (And.intro @okR_cons (And.intro @aread_load1 (And.intro @aread_slc (And.intro @dropR_cons (And.intro @memN_nil (And.intro @memN_cons (And.intro @keepP_cons (And.intro @dropP_cons (And.intro @addP_cons (And.intro @ob_map_some (And.intro @bne_f (And.intro @bne_t (And.intro @Bool.false_and (And.intro @Bool.true_and (And.intro @Bool.and_false (And.intro @Bool.and_true (And.intro @Bool.false_or (And.intro @Bool.true_or (And.intro @Bool.or_false (And.intro @Bool.or_true (And.intro @Bool.false_eq_true (And.intro @aslc_on (@rdv_on)))))))))))))))))))))))))))))))))))))))))))))))))))))))))))))))))))))))))))))))))))))))))))))))))))))))))))))))) :=
  And.intro @upd_apply (And.intro @bindO_some (And.intro @bindA_some (And.intro @bindD_some (And.intro @bindL_zero (And.intro @bindL_succ (And.intro @bindB_some (And.intro @condB_true (And.intro @condB_false (And.intro @guardB_true (And.intro @guardB_false (And.intro @dropR_nil (And.intro @okR_nil (And.intro @keepP_nil (And.intro @dropP_nil (And.intro @addP_nil (And.intro @isB_true (And.intro @isB_false (And.intro @ev_tmp (And.intro @ev_const (And.intro @ev_func (And.intro @abin_add (And.intro @abin_sub (And.intro @abin_mul (And.intro @abin_quo (And.intro @abin_rem (And.intro @abin_and (And.intro @abin_or (And.intro @abin_xor (And.intro @abin_andNot (And.intro @abin_shl (And.intro @abin_shr (And.intro @abin_eql (And.intro @abin_neq (And.intro @abin_lss (And.intro @abin_leq (And.intro @abin_gtr (And.intro @abin_geq (And.intro @aext_zero (And.intro @aext_succ (And.intro @alenS_string (And.intro @aconv_int (And.intro @achk_ptr (And.intro @apickV_true (And.intro @apickV_false (And.intro @apickV_or (And.intro @apickV_and (And.intro @true_and (And.intro @and_true (And.intro @Nat.add_zero (And.intro @Nat.zero_add (And.intro @Bool.not_true (And.intro @Bool.not_false (And.intro @aun_neg (And.intro @aun_not (And.intro @aun_xor (And.intro @anil0 (And.intro @anil1 (And.intro @anil2 (And.intro @anil3 (And.intro @anil3f (And.intro @l_map_cons (And.intro @l_map_nil (And.intro @l_app_cons (And.intro @l_app_nil (And.intro @l_app_nil2 (And.intro @o_map_some (And.intro @o_map_none (And.intro @lv_map_cons (And.intro @lv_map_nil (And.intro @ov_map_some (And.intro @ov_map_none (And.intro @lp_map_cons (And.intro @lp_map_nil (And.intro @packV1 (And.intro @packV2 (And.intro @packV3 (And.intro @packV4 (And.intro @initE_0 (And.intro @initE_1 (And.intro @initE_2 (And.intro @initE_3 (And.intro @initE_4 (And.intro @initE_5 (And.intro @initE_6 (And.intro @initE_7 (And.intro @ares_nil (And.intro @ares_tmp (And.intro @okR_on (And.intro @okR_cons (And.intro @aread_load1 (And.intro @aread_slc (And.intro @dropR_cons (And.intro @memN_nil (And.intro @memN_cons (And.intro @keepP_cons (And.intro @dropP_cons (And.intro @addP_cons (And.intro @ob_map_some (And.intro @bne_f (And.intro @bne_t (And.intro @Bool.false_and (And.intro @Bool.true_and (And.intro @Bool.and_false (And.intro @Bool.and_true (And.intro @Bool.false_or (And.intro @Bool.true_or (And.intro @Bool.or_false (And.intro @Bool.or_true (And.intro @Bool.false_eq_true (And.intro @aslc_on (@rdv_on)))))))))))))))))))))))))))))))))))))))))))))))))))))))))))))))))))))))))))))))))))))))))))))))))))))))))))))))

theorem ev_one : ∀ (v : Value), v.oneCell' = true → v.cells.toList = [v] := by
  intro v h
  cases v <;> first | rfl | (simp [Value.oneCell'] at h)

/-- A slice of one element, as append wants it. -/
theorem absl_one {v z : Value} (h : v.oneCell' = true) : absl 1 1 [z] [(0, 1, v)] = some (.cells [v] 1 true, fun b => .slice (some ⟨b, 0, none⟩) 1 1) := by
  simp [absl, repl, afill, ev_one v h, setR]
theorem absl_two {v w z : Value} (h : v.oneCell' = true) (k : w.oneCell' = true) : absl 2 1 [z] [(0, 1, v), (1, 1, w)] = some (.cells [v, w] 1 true, fun b => .slice (some ⟨b, 0, none⟩) 2 2) := by
  simp [absl, repl, afill, ev_one v h, ev_one w k, setR]
theorem absl_nil (z : Value) : absl 0 1 [z] [] = some (.cells [] 1 true, fun b => .slice (some ⟨b, 0, none⟩) 0 0) := rfl
theorem Sl.isnil {s : St} {v : Value} {c : List Value} (h : Sl s v c) : ∃ b, anil 0 v = some b ∧ (b = true → c = [] ∧ v = .slice none 0 0) := by
  rcases h with ⟨rfl, rfl⟩ | ⟨b, o, cap, rfl, _⟩
  · exact ⟨true, rfl, fun _ => ⟨rfl, rfl⟩⟩
  · exact ⟨false, rfl, fun h => by cases h⟩
theorem abounds_le {len cap : Nat} {lo hi mx : Option Value} {l h m : Nat} (hb : abounds len cap lo hi mx = some (l, h, m)) : m ≤ cap := by
  have key : ∀ {d top k : Nat} {o : Option Value}, d ≤ top → abound d top o = some k → k ≤ top := by
    intro d top k o hd h
    unfold abound at h
    split at h
    · cases h; exact hd
    · split at h <;> cases h
      omega
    · cases h
  unfold abounds at hb
  split at hb
  · cases hb
  · rename_i m' hm
    have h1 := key (Nat.le_refl _) hm
    split at hb
    · cases hb
    · split at hb
      · cases hb
      · split at hb <;> cases hb
        exact h1
/-- What is read of a slice stays. -/
theorem Sl.slc_ext {s s' : St} {v : Value} {c : List Value} (h : Sl s v c) (k : Ext s s') (lo hi mx : Option Value) : aslc s' 1 v lo hi mx = aslc s 1 v lo hi mx := by
  rcases h with ⟨rfl, rfl⟩ | ⟨b, o, cap, rfl, hc, he, hr⟩
  · rfl
  · simp only [aslc]
    split
    · rename_i l h m hb
      have hm := abounds_le hb
      rcases he with h0 | ⟨hlt, he⟩
      · have : m = 0 := by omega
        rw [if_pos (.inl this), if_pos (.inl this)]
      · rw [k.H b hlt]
    · rfl
theorem Sl.rd_ext {s s' : St} {v p i : Value} {c : List Value} (h : Sl s v c) (k : Ext s s') (hp : aidx 1 v i = some p) : rdv s' p = rdv s p := by
  rcases h with ⟨rfl, rfl⟩ | ⟨b, o, cap, rfl, hc, he, hr⟩
  · simp [aidx] at hp
  · unfold aidx at hp
    split at hp
    · rename_i h2
      cases h2
      split at hp
      · rename_i hi
        rw [Option.some.injEq] at hp
        subst hp
        simp only [rdv_ptr]
        rcases he with h0 | ⟨hlt, he⟩
        · omega
        · exact rd_congr (k.H _ hlt) _
      · cases hp
    · cases hp
theorem absl_int (k : IntKind) (i : Int) (z : Value) : absl 1 1 [z] [(0, 1, .int k i)] = some (.cells [.int k i] 1 true, fun b => .slice (some ⟨b, 0, none⟩) 1 1) := absl_one rfl
theorem absl_slice (a : Option Addr) (n c : Nat) (z : Value) : absl 1 1 [z] [(0, 1, .slice a n c)] = some (.cells [.slice a n c] 1 true, fun b => .slice (some ⟨b, 0, none⟩) 1 1) := absl_one rfl
theorem absl_ptr (a : Option Addr) (z : Value) : absl 1 1 [z] [(0, 1, .pointer a)] = some (.cells [.pointer a] 1 true, fun b => .slice (some ⟨b, 0, none⟩) 1 1) := absl_one rfl
theorem Sl.one {s : St} {v : Value} {c : List Value} (h : Sl s v c) : v.oneCell' = true := by
  rcases h with ⟨rfl, rfl⟩ | ⟨b, o, cap, rfl, _⟩ <;> rfl

section
variable {n : Nat} {s : St} {v y : Value} {c src : List Value} {K : Value → St → Prop} {bytes : Nat}

/-- 'append(v, y...)' -/
theorem Gr.app (h : Gr n s v c) (hn : n ≤ s.n) (hy : Sl s y src) (hcell : src.all (·.oneCell') = true) (hb : bytes ≤ 64) (hlen : c.length + src.length ≤ 1099511627776)
    (hk : ∀ v' s', Gr n s' v' (c ++ src) → Chg v s s' → (Ab.blk v' = Ab.blk v ∨ ∀ b, Ab.blk v' = some b → s.n ≤ b) → K v' (On s')) : aapp s 1 bytes v y K :=
  h.app0 hn hy.seen hcell hb hlen hk

/-- 'append(v, x)' -/
theorem Gr.app1 {x : Value} (h : Gr n s v c) (hn : n ≤ s.n) (hx : x.oneCell' = true) (hb : bytes ≤ 64) (hlen : c.length + 1 ≤ 1099511627776)
    (hk : ∀ v' s', Gr n s' v' (c ++ [x]) → Chg v s s' → (Ab.blk v' = Ab.blk v ∨ ∀ b, Ab.blk v' = some b → s.n ≤ b) → K v' (On s')) :
    aapp (s.new (.cells [x] 1 true)) 1 bytes v (.slice (some ⟨s.n, 0, none⟩) 1 1) K := by
  refine Gr.app0 (h.ext (Ext.new _)) (Nat.le_trans hn (by simp [St.new])) (seen_new (c := [x])) (by simp [hx]) hb (by simpa using hlen) fun v' s' hg hc hbl => hk v' s' hg ?_ ?_
  · exact ⟨Nat.le_trans (by simp [St.new]) hc.n, fun b hlt hne => by rw [hc.H b (by simp [St.new]; omega) hne]; exact (Ext.new _).H b hlt⟩
  · exact hbl.imp id fun f b e => Nat.le_trans (by simp [St.new]) (f b e)

/-- 'v[i] = x' -/
theorem Gr.store {i : Nat} {p x : Value} (h : Gr n s v c) (hp : aidx 1 v (.int .i64 i) = some p) (hi : i < c.length) (hx : x.oneCell' = true)
    (hk : ∀ s', Gr n s' v (c.set i x) → Chg v s s' → s'.n = s.n → K undefV (On s')) : astore s 1 p x K := by
  rcases h with ⟨rfl, rfl⟩ | ⟨b, cap, ex, r, rfl, h1, h2, h3, rfl⟩
  · simp at hi
  · simp only [aidx, Nat.zero_add] at hp
    rw [if_pos (by omega)] at hp
    simp only [Int.toNat_natCast, Nat.mul_one, Option.some.injEq] at hp
    subst hp
    refine astore_cells h3 (ev_one x hx) hx (by simp; omega) (hk _ (.inr ⟨b, c.length + r.length, ex, r, by simp, h1, h2, by simp [St.put, List.set_append_left _ _ hi], by simp⟩) ⟨Nat.le_refl _, ?_⟩ rfl)
    intro b' _ hne
    simp only [St.put]; rw [if_neg (by rintro rfl; exact hne rfl)]

/-- 'make([]T, k)' -/
theorem mks_then {k : Nat} {z : Value} (hk : k ≤ 1099511627776) (hb : bytes ≤ 64)
    (h : ∀ v' s', Ext s s' → Gr s.n s' v' (List.replicate k z) → (∃ b, Ab.blk v' = some b ∧ s.n ≤ b) → K v' (On s')) : bindA (amks (.int .i64 k) (.int .i64 k) 1 bytes [z]) K (On s) := by
  have h2 : ((bytes : Int) * (k : Int)) ≤ 2 ^ 48 := by
    have h1 : bytes * k ≤ 70368744177664 := Nat.mul_le_mul hb hk
    have h2 : ((bytes * k : Nat) : Int) ≤ 70368744177664 := Int.ofNat_le.2 h1
    rw [Int.natCast_mul] at h2
    exact Int.le_trans h2 (by decide)
  simp only [amks]
  rw [if_pos ⟨by omega, by omega, h2, by omega⟩]
  simp only [bindA_some, Int.toNat_natCast, repl_one]
  exact h _ _ (Ext.new _) (.inr ⟨s.n, k, true, [], by rw [List.length_replicate], Nat.le_refl _, Nat.lt_succ_self _, by rw [List.append_nil]; exact St.new_self _ _, by rw [List.length_replicate]; rfl⟩) ⟨s.n, rfl, Nat.le_refl _⟩

/-- 'make([]T, 0, k)' -/
theorem mks0_then {k : Nat} {z : Value} (hk : k ≤ 1099511627776) (hb : bytes ≤ 64)
    (h : ∀ v' s', Ext s s' → Gr s.n s' v' [] → (∃ b, Ab.blk v' = some b ∧ s.n ≤ b) → K v' (On s')) : bindA (amks (.int .i64 0) (.int .i64 k) 1 bytes [z]) K (On s) := by
  have h2 : ((bytes : Int) * (k : Int)) ≤ 2 ^ 48 := by
    have h1 : bytes * k ≤ 70368744177664 := Nat.mul_le_mul hb hk
    have h2 : ((bytes * k : Nat) : Int) ≤ 70368744177664 := Int.ofNat_le.2 h1
    rw [Int.natCast_mul] at h2
    exact Int.le_trans h2 (by decide)
  simp only [amks]
  rw [if_pos ⟨by omega, by omega, h2, by omega⟩]
  simp only [bindA_some, Int.toNat_natCast, repl_one]
  exact h _ _ (Ext.new _) (.inr ⟨s.n, k, true, List.replicate k z, rfl, Nat.le_refl _, Nat.lt_succ_self _, St.new_self _ _, by rw [List.length_replicate]; exact (Nat.zero_add _).symm⟩) ⟨s.n, rfl, Nat.le_refl _⟩

/-- A literal slice, made. -/
theorem Gr.made {n : Nat} (s : St) (c : List Value) (x : Bool) (hn : n ≤ s.n) : Gr n (s.new (.cells c 1 x)) (.slice (some ⟨s.n, 0, none⟩) c.length c.length) c :=
  .inr ⟨s.n, c.length, x, [], by simp, hn, by simp [St.new], by simp [St.new], by simp⟩

end

section
variable {i j : Nat}
theorem inR_w64 {a : Int} (h1 : -9223372036854775808 ≤ a) (h2 : a ≤ 9223372036854775807) : IntKind.i64.wrap a = a := w64 h1 h2
theorem wrap_nat (h : i < 2 ^ 62) : IntKind.i64.wrap (i : Int) = (i : Int) := w64 (by omega) (by omega)
theorem wrap_succ (h : i < 2 ^ 62) : IntKind.i64.wrap ((i : Int) + 1) = ((i + 1 : Nat) : Int) := by
  rw [w64 (by omega) (by omega)]; rfl
theorem iv {k : IntKind} {a b : Int} (h : a = b) : Value.int k a = .int k b := by rw [h]
theorem wrap_succ' (h : i < 2 ^ 62) : IntKind.i64.wrap ((i : Int) + 1) = (i : Int) + 1 := w64 (by omega) (by omega)
theorem wrap_add (h : i + j < 2 ^ 62) : IntKind.i64.wrap ((i : Int) + (j : Int)) = ((i + j : Nat) : Int) := by
  rw [w64 (by omega) (by omega)]; rfl
theorem wrap_sub (h : i < 2 ^ 62) (h2 : j ≤ i) : IntKind.i64.wrap ((i : Int) - (j : Int)) = ((i - j : Nat) : Int) := by
  rw [w64 (by omega) (by omega)]; omega
theorem wrap_pred (h : i < 2 ^ 62) (h2 : 1 ≤ i) : IntKind.i64.wrap ((i : Int) - 1) = ((i - 1 : Nat) : Int) := by
  rw [w64 (by omega) (by omega)]; omega
theorem wrap_mul (h : i * j < 2 ^ 62) : IntKind.i64.wrap ((i : Int) * (j : Int)) = ((i * j : Nat) : Int) := by
  have : ((i * j : Nat) : Int) = (i : Int) * (j : Int) := Int.natCast_mul i j
  rw [← this, w64 (by omega) (by omega)]
theorem tmod_nat (i n : Nat) : (i : Int).tmod (n : Int) = ((i % n : Nat) : Int) := rfl
theorem tdiv_nat (i n : Nat) : (i : Int).tdiv (n : Int) = ((i / n : Nat) : Int) := rfl
end

/-! Slices of numbers. -/
def i64 (n : Int) : Value := .int .i64 n
def vints (l : List Int) : List Value := l.map i64
theorem vints_length (l : List Int) : (vints l).length = l.length := List.length_map _
theorem vints_get (l : List Int) (i : Nat) (h : i < (vints l).length) : (vints l)[i] = .int .i64 (l[i]'(by simpa [vints] using h)) := by simp [vints, i64]
theorem vints_append (l m : List Int) : vints (l ++ m) = vints l ++ vints m := List.map_append
theorem vints_snoc (l : List Int) (x : Int) : vints l ++ [.int .i64 x] = vints (l ++ [x]) := by simp [vints, i64]
theorem vints_set (l : List Int) (i : Nat) (x : Int) : (vints l).set i (.int .i64 x) = vints (l.set i x) := by simp [vints, i64, List.map_set]
theorem vints_rep (n : Nat) (x : Int) : List.replicate n (.int .i64 x) = vints (List.replicate n x) := by simp [vints, i64]
theorem vints_cell (l : List Int) : (vints l).all (·.oneCell') = true := by
  rw [List.all_eq_true]
  intro x hx
  obtain ⟨i, _, rfl⟩ := List.mem_map.1 hx
  rfl
theorem vints_nil : vints [] = [] := rfl
theorem vints_take (l : List Int) (n : Nat) : (vints l).take n = vints (l.take n) := by simp [vints, List.map_take]
theorem vints_drop (l : List Int) (n : Nat) : (vints l).drop n = vints (l.drop n) := by simp [vints, List.map_drop]
theorem vints_inj {l m : List Int} (h : vints l = vints m) : l = m := by
  have hi : Function.Injective i64 := fun a b h => by simp [i64] at h; exact h
  exact (List.map_inj_right (fun a b h => hi h)).1 h

theorem Sl.ilen {s : St} {v : Value} {l : List Int} (h : Sl s v (vints l)) : alen v = some (.int .i64 (l.length : Nat)) := by
  have := h.len
  rwa [vints_length] at this
theorem Sl.iel {s : St} {v : Value} {l : List Int} (h : Sl s v (vints l)) {i : Nat} (hi : i < l.length) : ∃ p, aidx 1 v (.int .i64 i) = some p ∧ rdv s p = some (.int .i64 l[i]) := by
  obtain ⟨p, h1, h2⟩ := h.elem (i := i) (by rw [vints_length]; exact hi)
  exact ⟨p, h1, by rw [h2, vints_get]⟩

end Go.Ab
