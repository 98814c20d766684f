/- Calls; sequences of operations; code: the rules. -/
import Derived.Test.YtdhiacdfblakcaaAbI
namespace Go.Ab
open Go

/-- 'In every world that stands for s, the call comes back, with a value and a state of which K holds.' -/
def ACalls (P : Program) (f : FuncId) (args : List Value) (s : St) (K : Value → St → Prop) : Prop :=
  (∃ fn, P.funcs[f]? = some fn ∧ (fn.name == "runtime.NumGoroutine") = false ∧ fn.body.isSome = true) ∧
  ∀ (μ : Mu) (cargs : Array Value) (w : World), Rel μ s w → VRs μ args cargs.toList →
    Calls P f cargs w fun e w' => ∃ μ' s' v v', e = .returned v' ∧ Step μ s w μ' s' w' ∧ Rel μ' s' w' ∧ VR μ' v v' ∧ K v s'

theorem ACalls.mono {P : Program} {f : FuncId} {args : List Value} {s : St} {K K' : Value → St → Prop} (h : ACalls P f args s K) (hk : ∀ v s', K v s' → K' v s') : ACalls P f args s K' :=
  ⟨h.1, fun μ cargs w hr hv => (h.2 μ cargs w hr hv).mono fun _ _ ⟨μ', s', v, v', e, st, r, vr, k⟩ => ⟨μ', s', v, v', e, st, r, vr, hk _ _ k⟩⟩

def acall (P : Program) (f : Value) (args : List Value) (s : St) (K : Value → St → Prop) : Prop :=
  match f with
  | .func (.func g) fi ca => ACalls P g (fi.toList ++ args ++ ca.toList) s K
  | _ => False

/-- What must hold ahead of an operation that is no mere reckoning, reading or laying of a block. -/
def aheavy (P : Program) (t : Env) (s : St) (K : Value → St → Prop) : AOp → Prop
  | .store x v n => astore s n (ev t x) (ev t v) K
  | .app x y esz bytes => aapp s esz bytes (ev t x) (ev t y) K
  | .copy x y esz => acopy s esz (ev t x) (ev t y) K
  | .call f args => acall P (ev t f) (args.map (ev t)) s K
  | _ => False

section
variable {P : Program} {w : World} {μ : Mu} {nt : Nat} {t : Env} {a : Act} {s : St}

theorem heavy_sound {o : Oper} {op : AOp} {K : Value → St → Prop} {next : Act → World → Prop} {Q : Exit → Act → World → Prop} (hc : comp P nt o.op = some op) (hk : op.kind = .heavy)
    (h : aheavy P t s K op) (he : EnvR μ nt t a) (hr : Rel μ s w) (hg : Goes μ s w a o.dst K next) : o.wp P a w next Q := by
  obtain ⟨dst, oo, ty, pos, after, gd⟩ := o
  simp only at hc hg
  unfold comp at hc
  split at hc
  case h_17 =>
    rename_i ty' x v
    split at hc
    · rename_i hok
      simp only [okL, List.all_cons, List.all_nil, Bool.and_eq_true, Bool.and_true] at hok
      split at hc <;> cases hc
      rename_i n hn
      obtain ⟨w', hrun, hnext⟩ := store_sound (P := P) hn h hr (he.ev hok.1) (he.ev hok.2) hg
      simp only [Oper.wp, execOp, Sem.run_bind, hrun, Result.andThen_ok, Sem.run_pure, Oper.upon]
      exact hnext
    · cases hc
  case h_22 =>
    rename_i c
    obtain ⟨callee, args, tys⟩ := c
    simp only at hc
    split at hc
    · -- a function
      rename_i f _ _
      split at hc <;> cases hc
      rename_i hok
      obtain ⟨k1, k2⟩ := okL_cons hok
      simp only [aheavy, acall] at h
      have hf := he.ev k1
      have hargs := he.evs k2
      split at h
      · rename_i g fi ca hfe
        rw [hfe] at hf
        obtain ⟨fi', ca', e1, v1, v2⟩ := hf.func_inv
        obtain ⟨⟨fn, hfn, hname, hbody⟩, hcalls⟩ := h
        have hv : VRs μ (fi.toList ++ args.toList.map (ev t) ++ ca.toList) ((fi' ++ args.map a.eval) ++ ca').toList := by
          simp only [Array.toList_append, Array.toList_map]
          exact (v1.append hargs).append v2
        have hcall := hcalls μ _ w hr hv
        have hnb : fn.body.isNone = false := by cases hb : fn.body <;> simp_all
        simp only [Oper.wp, execOp, resolve, Sem.run_bind, e1, Deferred.ofValue, Sem.run_pure, Result.andThen_ok, invoke, callFunc, run_program, hfn, hname, hnb, Bool.false_eq_true, if_false, Oper.upon]
        refine hcall.mono ?_
        rintro e w' ⟨μ', s', v, v', rfl, st, r, vr, k⟩
        exact hg _ _ _ _ _ st r vr k
      · exact h.elim
    · (repeat' split at hc) <;> cases hc <;> cases hk
    · (repeat' split at hc) <;> cases hc <;> cases hk
    · (repeat' split at hc) <;> cases hc <;> cases hk
    · rename_i x y t1 u1 hargs htys
      have ea : args = #[x, y] := by apply Array.toList_inj.1; simpa using hargs
      have et : tys = #[t1, u1] := by apply Array.toList_inj.1; simpa using htys
      subst ea; subst et
      split at hc
      · rename_i hok
        simp only [okL, List.all_cons, List.all_nil, Bool.and_eq_true, Bool.and_true] at hok
        split at hc
        · rename_i e0 hu
          split at hc
          · rename_i sz b z hsz hb hz
            split at hc <;> cases hc
            rename_i hcond
            obtain ⟨e1, e3⟩ := hcond
            subst e3
            obtain ⟨v', w', hrun, hnext⟩ := app_sound (P := P) (tu := ty) hu hsz hb hz e1 h hr (he.ev hok.1) (he.ev hok.2) hg
            simp only [Oper.wp, execOp, resolve, Sem.run_bind, Sem.run_pure, Result.andThen_ok, invoke, builtin, List.map_toArray, List.map_cons, List.map_nil, hrun, Oper.upon]
            exact hnext
          · cases hc
        · cases hc
      · cases hc
    · rename_i x y t1 u1 hargs htys
      have ea : args = #[x, y] := by apply Array.toList_inj.1; simpa using hargs
      have et : tys = #[t1, u1] := by apply Array.toList_inj.1; simpa using htys
      subst ea; subst et
      split at hc
      · rename_i hok
        simp only [okL, List.all_cons, List.all_nil, Bool.and_eq_true, Bool.and_true] at hok
        split at hc
        · rename_i e0 e0' hu hu'
          split at hc <;> cases hc
          rename_i sz hsz
          obtain ⟨v', w', hrun, hnext⟩ := copy_sound (P := P) (tx := u1) (tu := ty) hu hsz h hr (he.ev hok.1) (he.ev hok.2) hg
          simp only [Oper.wp, execOp, resolve, Sem.run_bind, Sem.run_pure, Result.andThen_ok, invoke, builtin, List.map_toArray, List.map_cons, List.map_nil, hrun, Oper.upon]
          exact hnext
        · cases hc
      · cases hc
    · cases hc
  all_goals ((repeat' split at hc) <;> cases hc <;> cases hk)

end

/-- What must hold ahead of an operation, of what comes behind it. -/
def aop (P : Program) (t : Env) (s : St) (op : AOp) (K : Value → St → Prop) : Prop :=
  match op.kind with
  | .pure => match apure t op with | some v => K v s | none => False
  | .read => match aread t s op with | some v => K v s | none => False
  | .alloc => match aalloc t op with | some (ob, f) => K (f s.n) (s.new ob) | none => False
  | .heavy => aheavy P t s K op

section
variable {P : Program} {w : World} {μ : Mu} {nt : Nat} {t : Env} {a : Act} {s : St}

theorem op_sound {o : Oper} {op : AOp} {K : Value → St → Prop} {next : Act → World → Prop} {Q : Exit → Act → World → Prop} (hc : comp P nt o.op = some op)
    (h : aop P t s op K) (he : EnvR μ nt t a) (hr : Rel μ s w) (hg : Goes μ s w a o.dst K next) : o.wp P a w next Q := by
  unfold aop at h
  split at h
  · rename_i hk
    split at h
    · rename_i v hv
      obtain ⟨v', h1, h2⟩ := pure_sound (P := P) (w := w) hc hk hv he
      simp only [Oper.wp, h1, Oper.upon]
      exact hg _ _ _ _ _ (Step.refl _ _ _) hr h2 h
    · exact h.elim
  · rename_i hk
    split at h
    · rename_i v hv
      obtain ⟨v', h1, h2⟩ := read_sound (P := P) (w := w) hc hk hv he hr
      simp only [Oper.wp, h1, Oper.upon]
      exact hg _ _ _ _ _ (Step.refl _ _ _) hr h2 h
    · exact h.elim
  · rename_i hk
    split at h
    · rename_i ob f hv
      obtain ⟨hown, L, obj, v', hL, h1, h2⟩ := alloc_sound (P := P) (w := w) hc hk hv he
      simp only [Oper.wp, h1, Oper.upon]
      have hms : (μ.put s.n L) s.n = some L := by simp [Mu.put]
      have hget : ({ w with heap := w.heap.push obj } : World).heap[L.block]? = some obj := by simp [hL]
      have hle := Mu.le_put (L := L) (hr.fresh (Nat.le_refl s.n))
      refine hg (μ.put s.n L) (s.new ob) _ _ _ (Step.of_new hr ob obj L rfl hL hown rfl rfl rfl) (hr.new ob obj L rfl hL fun ν hν hb => (h2 ν _ _ hν hb hget).1) (h2 _ _ _ hle hms hget).2 h
    · exact h.elim
  · rename_i hk
    exact heavy_sound hc hk h he hr hg

end

/-- One instruction: where its value goes; when it is done at all; the operation. -/
structure AIns where
  dst : Option Nat
  guard : Option (Nat × Bool)
  op : AOp
  deriving Inhabited

def isB (v : Value) (b : Bool) : Bool :=
  match v with
  | .bool c => c == b
  | _ => false

def awanted (t : Env) : Option (Nat × Bool) → Bool
  | none => true
  | some (g, b) => isB (t g) b

def aops (P : Program) : List AIns → Env → St → (Env → St → Prop) → Prop
  | [], t, s, K => K t s
  | i :: r, t, s, K => if awanted t i.guard = true then aop P t s i.op fun v s' => aops P r (putO t i.dst v) s' K else aops P r (putO t i.dst undefV) s K

def compG (ops : Array Oper) (nt : Nat) : Option (Nat × Bool) → Option (Option (Nat × Bool))
  | none => some none
  | some (j, b) => match (ops[j]?).bind (·.dst) with
    | some d => if d < nt then some (some (d, b)) else none
    | none => none

def compI (P : Program) (nt : Nat) (ops : Array Oper) (o : Oper) : Option AIns :=
  match comp P nt o.op, compG ops nt o.guard with
  | some op, some g => match o.dst with
    | none => some ⟨none, g, op⟩
    | some d => if d < nt then some ⟨some d, g, op⟩ else none
  | _, _ => none

def compL (P : Program) (nt : Nat) (ops : Array Oper) : List Oper → Option (List AIns)
  | [] => some []
  | o :: r => match compI P nt ops o, compL P nt ops r with
    | some i, some l => some (i :: l)
    | _, _ => none

section
variable {P : Program} {w : World} {μ : Mu} {nt : Nat} {t : Env} {a : Act} {s : St}

theorem compI_spec {ops : Array Oper} {o : Oper} {i : AIns} (h : compI P nt ops o = some i) :
    comp P nt o.op = some i.op ∧ compG ops nt o.guard = some i.guard ∧ o.dst = i.dst ∧ ∀ d, o.dst = some d → d < nt := by
  unfold compI at h
  split at h
  · rename_i op g h1 h2
    cases hd : o.dst with
    | none => rw [hd] at h; cases h; exact ⟨h1, h2, rfl, fun d e => by cases e⟩
    | some d =>
      rw [hd] at h
      simp only at h
      split at h <;> cases h
      exact ⟨h1, h2, rfl, fun d' e => by cases e; assumption⟩
  · cases h

theorem wanted_spec {ops : Array Oper} {o : Oper} {g : Option (Nat × Bool)} (h : compG ops nt o.guard = some g) (he : EnvR μ nt t a) : Region.wanted o (yielded ops a.tmps) = awanted t g := by
  unfold compG at h
  unfold Region.wanted
  split at h
  · rename_i hg; cases h; rw [hg]; rfl
  · rename_i j b hg
    split at h
    · rename_i d hd
      split at h <;> cases h
      rename_i hlt
      rw [hg]
      simp only [awanted, yielded, hd, Option.bind_some]
      have hv := he.at_ d hlt
      have hsz : d < a.tmps.size := by rw [he.size]; exact hlt
      simp only [Array.getD_eq_getD_getElem?, Array.getElem?_eq_getElem hsz, Option.getD_some] at hv
      rw [Array.getElem?_eq_getElem hsz]
      generalize a.tmps[d] = x at *
      generalize t d = y at *
      cases hv with
      | bool c => cases c <;> cases b <;> rfl
      | _ => rfl
    · cases h

/-- How a walk goes on behind a piece of code. -/
def After (μ : Mu) (nt : Nat) (s : St) (w : World) (K : Env → St → Prop) (a' : Act) (w' : World) : Prop := ∃ μ' t' s', EnvR μ' nt t' a' ∧ Rel μ' s' w' ∧ Step μ s w μ' s' w' ∧ K t' s'

theorem After.trans {μ μ₁ : Mu} {s s₁ : St} {w w₁ w' : World} {K : Env → St → Prop} {a' : Act} (st : Step μ s w μ₁ s₁ w₁) (h : After μ₁ nt s₁ w₁ K a' w') : After μ nt s w K a' w' := by
  obtain ⟨μ', t', s', e, r, st', k⟩ := h
  exact ⟨μ', t', s', e, r, st.trans st', k⟩

theorem wpOps_snoc_idx {ops : Array Oper} {Q : Exit → Act → World → Prop} {i : Nat} {o : Oper} {rest : List Nat} (h : ops[i]? = some o) :
    wpOps P ops Q (i :: rest) a w = if Region.wanted o (yielded ops a.tmps) then o.wp P a w (wpOps P ops Q rest) Q ∨ (o.asks P a w ∧ LetsOut Q) else wpOps P ops Q rest (a.put o.dst undef) w := by
  simp [wpOps, h]

theorem ops_sound {ops : Array Oper} {Q : Exit → Act → World → Prop} : ∀ (l : List Oper) (is : List AIns) (k : Nat) (t : Env) (s : St) (μ : Mu) (a : Act) (w : World) (K : Env → St → Prop),
    compL P nt ops l = some is → (∀ j o, l[j]? = some o → ops[k + j]? = some o) → aops P is t s K → EnvR μ nt t a → Rel μ s w →
    (∀ a' w', After μ nt s w K a' w' → Q .normal a' w') → wpOps P ops Q (List.range' k l.length) a w
  | [], is, k, t, s, μ, a, w, K, hc, hl, h, he, hr, hq => by
    cases hc
    exact hq a w ⟨μ, t, s, he, hr, Step.refl _ _ _, h⟩
  | o :: l, is, k, t, s, μ, a, w, K, hc, hl, h, he, hr, hq => by
    simp only [compL] at hc
    split at hc <;> cases hc
    rename_i i is' h1 h2
    obtain ⟨c1, c2, c3, c4⟩ := compI_spec h1
    have ho : ops[k]? = some o := hl 0 o rfl
    have hrest : ∀ j o', l[j]? = some o' → ops[k + 1 + j]? = some o' := fun j o' e => by
      have := hl (j + 1) o' (by simpa using e)
      rwa [show k + (j + 1) = k + 1 + j by omega] at this
    simp only [List.length_cons, List.range'_succ]
    rw [wpOps_snoc_idx ho, wanted_spec c2 he]
    simp only [aops] at h
    by_cases hw : awanted t i.guard = true
    · rw [if_pos hw] at h ⊢
      refine .inl (op_sound c1 h he hr ?_)
      intro μ' s' w' v v' st r vr hk
      have he' := (he.mono st.mu).put c4 vr
      rw [c3] at he' ⊢
      exact ops_sound l is' (k + 1) _ s' μ' _ w' K h2 hrest hk he' r fun a' w'' ha => hq a' w'' (ha.trans st)
    · rw [if_neg hw] at h ⊢
      have he' := he.put c4 (VR.undefR μ)
      rw [c3] at he' ⊢
      exact ops_sound l is' (k + 1) _ s μ _ w K h2 hrest h he' hr hq

end
end Go.Ab
