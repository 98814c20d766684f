/- Code: the small machine's, out of the model's; the rules; calls. -/
import Derived.Test.YtdhiacdfblakcaaAbP
import Derived.Deep.LoopGhost
namespace Go.Ab
open Go

inductive AC where
  | skip
  | ops (l : List AIns)
  | draw (ds : List DIns) (na : Nat)
  | seq (a b : AC)
  | cond (c : Operand) (a b : AC)
  | block (id : Nat) (b : AC)
  | loop (b : AC)
  | exit (id : Nat)
  | ret
  deriving Inhabited

def ancs (ops : List Oper) : List (List Nat) :=
  ops.foldl (fun acc o => acc ++ [(preds o ++ (preds o).flatMap fun p => acc.getD p []).eraseDups]) []

def mkDs (ops : List Oper) (is : List AIns) : List DIns :=
  let anc := ancs ops
  let n := ops.length
  let hv := fun i => (is.getD i default).op.kind == .heavy
  let al := fun i => (is.getD i default).op.kind == .alloc
  let level := fun i => ((anc.getD i []).filter hv).length
  let ord := (List.range (n + 1)).flatMap fun k => ((List.range n).filter fun i => level i == k && !hv i) ++ ((List.range n).filter fun i => level i == k && hv i)
  ord.map fun i => ⟨i, is.getD i default, anc.getD i [], if hv i then (anc.getD i []).filter al else [],
    if al i then ((List.range i).filter al).length else if ((List.range n).any fun h => hv h && !((anc.getD h []).contains i) && !((anc.getD i []).contains h)) then 1 else 0⟩

def chkAll (P : Program) (ops : Array Oper) (ds : List DIns) (na : Nat) : Bool :=
  chkD ops [] ds && (List.range ops.size).all (fun i => ds.any (·.idx == i)) && ds.all (fun d => !allocD d || decide (d.num < na)) && decide (ds.length ≤ ops.size) && P.follows .mixedOrders

def compD (P : Program) (nt : Nat) (ops : Array Oper) : Option (List DIns × Nat) :=
  match compL P nt ops ops.toList with
  | some is =>
    let ds := mkDs ops.toList is
    let na := (is.filter fun i => i.op.kind == .alloc).length
    if chkAll P ops ds na = true then some (ds, na) else none
  | none => none

def compC (P : Program) (nt : Nat) : Code → Option AC
  | .skip => some .skip
  | .region _ ops false => (compL P nt ops ops.toList).map .ops
  | .region _ ops true => (compD P nt ops).map fun p => .draw p.1 p.2
  | .seq a b => match compC P nt a, compC P nt b with | some x, some y => some (.seq x y) | _, _ => none
  | .cond c a b => match compC P nt a, compC P nt b with | some x, some y => if okS nt c then some (.cond c x y) else none | _, _ => none
  | .block id b => (compC P nt b).map (.block id)
  | .loop b => (compC P nt b).map .loop
  | .exit id => some (.exit id)
  | .ret => some .ret
  | _ => none

section
variable {P : Program} {nt : Nat}

theorem compL_get {ops : Array Oper} : ∀ {l : List Oper} {is : List AIns}, compL P nt ops l = some is → ∀ (i : Nat) (o : Oper), l[i]? = some o → ∃ x, is[i]? = some x ∧ compI P nt ops o = some x
  | [], _, _, i, o, h => by simp at h
  | x :: l, is, hc, i, o, h => by
    simp only [compL] at hc
    split at hc <;> cases hc
    rename_i y l' h1 h2
    cases i with
    | zero => simp at h; subst h; exact ⟨y, rfl, h1⟩
    | succ i => simp at h; obtain ⟨z, h3, h4⟩ := compL_get h2 i o h; exact ⟨z, by simpa using h3, h4⟩

/-- What code stands behind a piece of the small machine's. -/
def CodeOf (P : Program) (nt : Nat) (code : Code) : AC → Prop
  | .skip => code = .skip
  | .ops l => ∃ id ops, code = .region id ops false ∧ compL P nt ops ops.toList = some l
  | .draw ds na => ∃ id ops, code = .region id ops true ∧ compD P nt ops = some (ds, na)
  | .seq x y => ∃ p q, code = .seq p q ∧ compC P nt p = some x ∧ compC P nt q = some y
  | .cond c x y => ∃ p q, code = .cond c p q ∧ compC P nt p = some x ∧ compC P nt q = some y ∧ okS nt c = true
  | .block id x => ∃ p, code = .block id p ∧ compC P nt p = some x
  | .loop x => ∃ p, code = .loop p ∧ compC P nt p = some x
  | .exit id => code = .exit id
  | .ret => code = .ret

theorem codeOf {code : Code} {c : AC} (h : compC P nt code = some c) : CodeOf P nt code c := by
  unfold compC at h
  split at h
  · cases h; rfl
  · simp only [Option.map_eq_some_iff] at h
    obtain ⟨l, hl, rfl⟩ := h
    exact ⟨_, _, rfl, hl⟩
  · simp only [Option.map_eq_some_iff] at h
    obtain ⟨⟨ds, na⟩, hl, rfl⟩ := h
    exact ⟨_, _, rfl, hl⟩
  · split at h <;> cases h
    exact ⟨_, _, rfl, by assumption, by assumption⟩
  · split at h
    · split at h <;> cases h
      exact ⟨_, _, rfl, by assumption, by assumption, by assumption⟩
    · cases h
  · simp only [Option.map_eq_some_iff] at h
    obtain ⟨l, hl, rfl⟩ := h
    exact ⟨_, rfl, hl⟩
  · simp only [Option.map_eq_some_iff] at h
    obtain ⟨l, hl, rfl⟩ := h
    exact ⟨_, rfl, hl⟩
  · cases h; rfl
  · cases h; rfl
  · cases h

theorem compD_ok {ops : Array Oper} {ds : List DIns} {na : Nat} (h : compD P nt ops = some (ds, na)) : DOk P nt ops ds na ∧ ds.length ≤ ops.size ∧ P.follows .mixedOrders = true := by
  unfold compD at h
  split at h
  · rename_i is his
    simp only at h
    split at h <;> cases h
    rename_i hc
    unfold chkAll at hc
    simp only [Bool.and_eq_true, List.all_eq_true, List.any_eq_true, decide_eq_true_eq, Bool.or_eq_true, Bool.not_eq_true', List.mem_range, beq_iff_eq] at hc
    obtain ⟨⟨⟨⟨h1, h2⟩, h3⟩, h4⟩, h5⟩ := hc
    refine ⟨⟨h1, fun i hi => by obtain ⟨d, hd, he⟩ := h2 i hi; exact ⟨d, hd, he⟩, ?_, fun d hd ha => ?_⟩, h4, h5⟩
    · intro d hd
      have hins : d.ins = is.getD d.idx default := by
        unfold mkDs at hd
        simp only [List.mem_map] at hd
        obtain ⟨i, _, rfl⟩ := hd
        rfl
      obtain ⟨l, m, hlm⟩ := List.append_of_mem hd
      have hck := chkD_at _ [] l m d h1 hlm
      have ho : ∃ o, ops[d.idx]? = some o := by
        unfold chk1 at hck
        cases hx : ops[d.idx]? with
        | none => rw [hx] at hck; simp at hck
        | some o => exact ⟨o, rfl⟩
      obtain ⟨o, ho⟩ := ho
      obtain ⟨x, hx1, hx2⟩ := compL_get his d.idx o (by simpa using ho)
      refine ⟨o, ho, ?_⟩
      rw [hins, hx2]
      simp [hx1]
    · rcases h3 d hd with h6 | h6
      · rw [ha] at h6; cases h6
      · exact h6
  · cases h

end

/-- 'From every frame and world that stand for t and s, the code comes to its end as Q says.' -/
def AW (P : Program) (nt : Nat) (c : AC) (t : Env) (s : St) (Q : Exit → Env → St → Prop) : Prop :=
  ∀ code, compC P nt code = some c → ∀ (μ : Mu) (a : Act) (w : World), EnvR μ nt t a → Rel μ s w → code.wp P (fun e a' w' => After μ nt s w (Q e) a' w') a w

/-- What must hold ahead of a piece of code; loops stay. -/
def asem (P : Program) (nt : Nat) : AC → Env → St → (Exit → Env → St → Prop) → Prop
  | .skip, t, s, Q => Q .normal t s
  | .ops l, t, s, Q => aops P l t s (Q .normal)
  | .draw ds na, t, s, Q => adraw P s.n ds t ⟨s.H, s.n + na⟩ [] [] (Q .normal)
  | .seq a b, t, s, Q => asem P nt a t s fun e t' s' => match e with | .normal => asem P nt b t' s' Q | e => Q e t' s'
  | .cond c a b, t, s, Q => match ev t c with | .bool x => (x = true → asem P nt a t s Q) ∧ (x = false → asem P nt b t s Q) | _ => False
  | .block id b, t, s, Q => asem P nt b t s fun e t' s' => match e with | .exit id' => if id' = id then Q .normal t' s' else Q (.exit id') t' s' | e => Q e t' s'
  | .loop b, t, s, Q => AW P nt (.loop b) t s Q
  | .exit id, t, s, Q => Q (.exit id) t s
  | .ret, t, s, Q => Q .ret t s

section
variable {P : Program} {nt : Nat}

theorem After.mono {μ : Mu} {s : St} {w : World} {K K' : Env → St → Prop} {a' : Act} {w' : World} (h : After μ nt s w K a' w') (hk : ∀ t s, K t s → K' t s) : After μ nt s w K' a' w' := by
  obtain ⟨μ', t', s', e, r, st, k⟩ := h
  exact ⟨μ', t', s', e, r, st, hk _ _ k⟩

theorem AW.mono {c : AC} {t : Env} {s : St} {Q Q' : Exit → Env → St → Prop} (h : AW P nt c t s Q) (hq : ∀ e t s, Q e t s → Q' e t s) : AW P nt c t s Q' :=
  fun code hc μ a w he hr => wp_mono (h code hc μ a w he hr) fun e _ _ ha => ha.mono (hq e)

theorem AW.skip {t : Env} {s : St} {Q : Exit → Env → St → Prop} (h : Q .normal t s) : AW P nt .skip t s Q := by
  intro code hc μ a w he hr
  obtain rfl := codeOf hc
  exact wp_skip ⟨μ, t, s, he, hr, Step.refl _ _ _, h⟩

theorem AW.ops {l : List AIns} {t : Env} {s : St} {Q : Exit → Env → St → Prop} (h : aops P l t s (Q .normal)) : AW P nt (.ops l) t s Q := by
  intro code hc μ a w he hr
  obtain ⟨id, ops, rfl, his⟩ := codeOf hc
  refine wp_region ?_
  have := ops_sound (P := P) (ops := ops) (Q := fun e a' w' => After μ nt s w (Q e) a' w') ops.toList l 0 t s μ a w (Q .normal) his (fun j o hj => by simpa using hj) h he hr (fun a' w' ha => ha)
  rw [← List.range_eq_range'] at this
  simpa using this

theorem AW.draw {ds : List DIns} {na : Nat} {t : Env} {s : St} {Q : Exit → Env → St → Prop} (h : adraw P s.n ds t ⟨s.H, s.n + na⟩ [] [] (Q .normal)) : AW P nt (.draw ds na) t s Q := by
  intro code hc μ a w he hr
  obtain ⟨id, ops, rfl, hcd⟩ := codeOf hc
  obtain ⟨hD, hlen, hm⟩ := compD_ok hcd
  refine wp_region_any hm ?_
  have hfree : ∀ b, s.n ≤ b → s.H b = none ∧ μ b = none := by
    intro b hb
    have h1 := hr.fresh hb
    refine ⟨?_, h1⟩
    cases h2 : s.H b with
    | none => rfl
    | some o =>
      obtain ⟨L, hL, _⟩ := (hr.obj b o h2).lt
      rw [h1] at hL; cases hL
  have I : DInv P nt ops ds na μ s { w with drawn := w.drawn + 1 } t (Q .normal) (Array.replicate ops.size false) a { w with drawn := w.drawn + 1 } [] ds t ⟨s.H, s.n + na⟩ [] [] μ := by
    have hcur : cur ⟨s.H, s.n + na⟩ [] (Array.replicate ops.size false) = ⟨s.H, s.n + na⟩ := rfl
    have hun : ∀ i, ¬ lst (Array.replicate ops.size false) i := by
      intro i
      unfold lst
      simp only [Array.getD_eq_getD_getElem?, Array.getElem?_replicate]
      split <;> simp
    refine ⟨by simp, by simp, fun d _ => hun _, fun d _ hl => absurd hl (hun _), h, ?_, ?_, ?_, Nat.le_refl _, (fun d hd => by simp at hd), fun _ _ => rfl, (fun p hp => by simp at hp), (fun p hp => by simp at hp), (fun p hp => by simp at hp), ?_⟩
    · have : mixE t t [] (Array.replicate ops.size false) = t := by funext x; simp [mixE]
      rw [this]; exact he
    · rw [hcur]
      exact Rel.sub (hr.drew rfl) (Nat.le_add_right _ _) fun _ _ h => h
    · rw [hcur]
      exact ⟨Mu.le_refl _, Nat.le_add_right _ _, rfl, rfl, rfl, Nat.le_refl _, fun _ _ _ => rfl, fun _ _ h => h, fun _ _ h => h, fun _ _ _ h => h, fun _ _ h => .inl h⟩
    · intro d _ _
      exact hfree _ (Nat.le_add_right _ _)
  obtain ⟨pre', rest', T', pend', reads', I', hh⟩ := DInv.advance hD _ _ _ _ _ I
  refine draw_go hD (Q := fun e a' w' => After μ nt s w (Q e) a' w') ?_ ops.size _ _ _ _ _ _ _ _ _ _ I' hh ?_
  · rintro a' w' ⟨μ', t', s', e, r, st, k⟩
    refine ⟨μ', t', s', e, r, ?_, k⟩
    exact ⟨st.mu, st.n, st.os, st.tape, st.output, st.size, st.frame, st.own, st.dead, st.ro, st.mu_new⟩
  · exact Nat.le_trans (List.countP_le_length) hlen

theorem AW.seq {x y : AC} {t : Env} {s : St} {Q : Exit → Env → St → Prop} (h : AW P nt x t s fun e t' s' => match e with | .normal => AW P nt y t' s' Q | e => Q e t' s') : AW P nt (.seq x y) t s Q := by
  intro code hc μ a w he hr
  obtain ⟨p, q, rfl, h1, h2⟩ := codeOf hc
  refine wp_seq (wp_mono (h p h1 μ a w he hr) ?_)
  intro e a' w' ha
  cases e with
  | normal =>
    obtain ⟨μ', t', s', e, r, st, k⟩ := ha
    exact wp_mono (k q h2 μ' a' w' e r) fun _ _ _ ha' => ha'.trans st
  | _ => exact ha

theorem AW.cond {c : Operand} {x y : AC} {t : Env} {s : St} {Q : Exit → Env → St → Prop} {b : Bool} (hb : ev t c = .bool b) (h1 : b = true → AW P nt x t s Q) (h2 : b = false → AW P nt y t s Q) :
    AW P nt (.cond c x y) t s Q := by
  intro code hc μ a w he hr
  obtain ⟨p, q, rfl, hx, hy, hok⟩ := codeOf hc
  have hv := he.ev hok
  rw [hb] at hv
  have e := hv.bool_inv
  exact wp_cond_split e (fun e => h1 e _ hx μ a w he hr) (fun e => h2 e _ hy μ a w he hr)

theorem AW.block {id : Nat} {x : AC} {t : Env} {s : St} {Q : Exit → Env → St → Prop}
    (h : AW P nt x t s fun e t' s' => match e with | .exit id' => if id' = id then Q .normal t' s' else Q (.exit id') t' s' | e => Q e t' s') : AW P nt (.block id x) t s Q := by
  intro code hc μ a w he hr
  obtain ⟨p, rfl, hx⟩ := codeOf hc
  refine wp_block (wp_mono (h p hx μ a w he hr) ?_)
  intro e a' w' ha
  cases e with
  | exit i =>
    simp only [Exit.inBlock]
    obtain ⟨μ', t', s', e, r, st, k⟩ := ha
    simp only at k
    split
    · rename_i hi; rw [if_pos hi] at k; exact ⟨μ', t', s', e, r, st, k⟩
    · rename_i hi; rw [if_neg hi] at k; exact ⟨μ', t', s', e, r, st, k⟩
  | _ => exact ha

theorem AW.exit {id : Nat} {t : Env} {s : St} {Q : Exit → Env → St → Prop} (h : Q (.exit id) t s) : AW P nt (.exit id) t s Q := by
  intro code hc μ a w he hr
  obtain rfl := codeOf hc
  exact wp_exit ⟨μ, t, s, he, hr, Step.refl _ _ _, h⟩

theorem AW.ret {t : Env} {s : St} {Q : Exit → Env → St → Prop} (h : Q .ret t s) : AW P nt .ret t s Q := by
  intro code hc μ a w he hr
  obtain rfl := codeOf hc
  exact wp_ret ⟨μ, t, s, he, hr, Step.refl _ _ _, h⟩

/-- A loop: what holds at each round's head bears a number that every round lowers. -/
theorem AW.loop {x : AC} {t : Env} {s : St} {Q : Exit → Env → St → Prop} (I : Nat → Env → St → Prop) (n₀ : Nat) (h₀ : I n₀ t s)
    (round : ∀ n t s, I n t s → AW P nt x t s fun e t' s' => match e with | .normal => ∃ m, m < n ∧ I m t' s' | e => Q e t' s') : AW P nt (.loop x) t s Q := by
  intro code hc μ a w he hr
  obtain ⟨p, rfl, hx⟩ := codeOf hc
  refine wp_loop_ghost (fun n a' w' => After μ nt s w (I n) a' w') n₀ ⟨μ, t, s, he, hr, Step.refl _ _ _, h₀⟩ ?_
  rintro n a₁ w₁ ⟨μ₁, t₁, s₁, e₁, r₁, st₁, k₁⟩
  refine wp_mono (round n t₁ s₁ k₁ p hx μ₁ a₁ w₁ e₁ r₁) ?_
  intro e a' w' ha
  cases e with
  | normal =>
    obtain ⟨μ', t', s', e, r, st, m, hm, k⟩ := ha
    exact ⟨m, hm, μ', t', s', e, r, st₁.trans st, k⟩
  | _ => exact ha.trans st₁

theorem asem_sound : ∀ (c : AC) (t : Env) (s : St) (Q : Exit → Env → St → Prop), asem P nt c t s Q → AW P nt c t s Q
  | .skip, t, s, Q, h => .skip h
  | .ops l, t, s, Q, h => .ops h
  | .draw ds na, t, s, Q, h => .draw h
  | .seq a b, t, s, Q, h => .seq (AW.mono (asem_sound a t s _ h) fun e t' s' k => by
      cases e with
      | normal => exact asem_sound b t' s' Q k
      | _ => exact k)
  | .cond c a b, t, s, Q, h => by
    simp only [asem] at h
    split at h
    · rename_i x hx
      exact .cond hx (fun e => asem_sound a t s Q (h.1 e)) (fun e => asem_sound b t s Q (h.2 e))
    · exact h.elim
  | .block id b, t, s, Q, h => .block (asem_sound b t s _ h)
  | .loop b, t, s, Q, h => h
  | .exit id, t, s, Q, h => .exit h
  | .ret, t, s, Q, h => .ret h

end

/-- Where a result stands. -/
inductive ARes where
  | tmp (t : Nat)
  | cell (t : Nat) (size : Nat) (agg : Bool)

def compR (P : Program) (nt : Nat) : List ResultVar → Option (List ARes)
  | [] => some []
  | .tmp t :: r => match compR P nt r with | some l => if t < nt then some (.tmp t :: l) else none | none => none
  | .cell t ty :: r => match szOf P ty, isAggO P ty, compR P nt r with | some n, some g, some l => if t < nt then some (.cell t n g :: l) else none | _, _, _ => none

def ares (t : Env) (s : St) : List ARes → Option (List Value)
  | [] => some []
  | .tmp x :: r => (ares t s r).map (t x :: ·)
  | .cell x n g :: r => match aread t s (.load (.tmp x) n g) with | some v => (ares t s r).map (v :: ·) | none => none

def packV : List Value → Value
  | [v] => v
  | l => .tuple l.toArray

structure AF where
  np : Nat
  nt : Nat
  res : List ARes
  body : AC

def compF (P : Program) (f : FuncId) : Option AF :=
  match P.funcs[f]? with
  | some fn => match fn.body with
    | some b => match compC P fn.ntmps b, compR P fn.ntmps fn.results.toList with
      | some c, some r => if (fn.name == "runtime.NumGoroutine") = false ∧ fn.params.size + fn.nfree ≤ fn.ntmps then some ⟨fn.params.size + fn.nfree, fn.ntmps, r, c⟩ else none
      | _, _ => none
    | none => none
  | none => none

def initE (args : List Value) : Env := fun i => args.getD i undefV

section
variable {P : Program} {nt : Nat}

def resF (tmps : Array Value) : ResultVar → Sem Value
  | .tmp t => pure (tmps.getD t undef)
  | .cell x t => do loadVar t (← asAddr (tmps.getD x undef))

theorem results_eq (fn : Func) (tmps : Array Value) : results fn tmps = (do let vs ← fn.results.mapM (resF tmps); pure (if h : vs.size = 1 then vs[0] else .tuple vs)) := by
  unfold results
  congr 1

theorem res_sound {μ : Mu} {t : Env} {a : Act} {s : St} {w : World} (he : EnvR μ nt t a) (hr : Rel μ s w) : ∀ {rv : List ResultVar} {r : List ARes} {l : List Value}, compR P nt rv = some r → ares t s r = some l →
    ∃ l', (rv.mapM (resF a.tmps) : Sem (List Value)).run P w = .ok l' w ∧ VRs μ l l'
  | [], r, l, h1, h2 => by
    cases h1; cases h2
    exact ⟨[], by simp, .nil⟩
  | .tmp x :: rv, r, l, h1, h2 => by
    simp only [compR] at h1
    split at h1
    · split at h1 <;> cases h1
      rename_i r' hr' hlt
      simp only [ares, Option.map_eq_some_iff] at h2
      obtain ⟨l₁, h3, rfl⟩ := h2
      obtain ⟨l', e1, e2⟩ := res_sound he hr hr' h3
      exact ⟨_, by simp only [List.mapM_cons, resF, Sem.run_bind, Sem.run_pure, Result.andThen_ok, e1], .cons (he.at_ x hlt) e2⟩
    · cases h1
  | .cell x ty :: rv, r, l, h1, h2 => by
    simp only [compR] at h1
    split at h1
    · split at h1 <;> cases h1
      rename_i n g r' hn hg hr' hlt
      simp only [ares] at h2
      split at h2
      · rename_i v hv
        simp only [Option.map_eq_some_iff] at h2
        obtain ⟨l₁, h3, rfl⟩ := h2
        obtain ⟨l', e1, e2⟩ := res_sound he hr hr' h3
        have hrd : ∃ v', (execOp a.eval ⟨none, .load ty (.tmp x), ty, "", #[], none⟩).run P w = .ok (.value v') w ∧ VR μ v v' :=
          read_sound (o := ⟨none, .load ty (.tmp x), ty, "", #[], none⟩) (op := .load (.tmp x) n g) (by simp [comp, okS, hlt, hn, hg]) rfl hv he hr
        obtain ⟨v', e3, e4⟩ := hrd
        have e5 : (do loadVar ty (← asAddr (a.tmps.getD x undef)) : Sem Value).run P w = .ok v' w := by
          simp only [execOp, Sem.run_bind, Instr.loadAt, Act.eval, Instr.sureAddr] at e3
          have hx := he.at_ x hlt
          simp only [aread, ev] at hv
          split at hv
          · rename_i b o hb
            rw [hb] at hx
            obtain ⟨b', o', L, q1, q2, q3⟩ := hx.ptr_inv
            rw [q3] at e3 ⊢
            simp only [Sem.run_pure, Result.andThen_ok] at e3
            simp only [asAddr, Sem.run_bind, Sem.run_pure, Result.andThen_ok]
            cases hld : (loadVar ty ⟨L.block, L.off + o', none⟩).run P w with
            | ok v2 w2 => rw [hld] at e3; simp at e3; rw [e3.1, e3.2]
            | halt h w2 => rw [hld] at e3; simp at e3
          · cases hv
        exact ⟨_, by simp only [List.mapM_cons, resF, Sem.run_bind] at e5 ⊢; simp only [e5, Result.andThen_ok, e1, Sem.run_pure], .cons e4 e2⟩
      · cases h2
    · cases h1

/-- A call, out of the function's own code. -/
theorem ACalls.intro {f : FuncId} {af : AF} {args : List Value} {s : St} {K : Value → St → Prop} (hf : compF P f = some af) (hn : args.length = af.np)
    (h : AW P af.nt af.body (initE args) s fun e t' s' => match e with
      | .normal | .ret => match ares t' s' af.res with | some l => K (packV l) s' | none => False
      | _ => False) : ACalls P f args s K := by
  unfold compF at hf
  split at hf
  · rename_i fn hfn
    split at hf
    · rename_i b hb
      split at hf
      · rename_i c r hc hres
        split at hf <;> cases hf
        rename_i hcond
        obtain ⟨hname, hsz⟩ := hcond
        simp only at hn h
        refine ⟨⟨fn, hfn, hname, by rw [hb]; rfl⟩, ?_⟩
        intro μ cargs w hr hv
        have hlen := hv.length
        refine calls_of_wp hfn hb (wp_mono (h b hc μ _ w ?_ hr) ?_)
        · refine ⟨?_, rfl, ?_⟩
          · simp at hlen ⊢; omega
          · intro i hi
            simp only [initE, Array.getD_eq_getD_getElem?, List.getD_eq_getElem?_getD]
            simp only [Array.length_toList] at hlen
            by_cases hlt : i < args.length
            · rw [Array.getElem?_append_left (by omega)]
              have h1 : args[i]? = some args[i] := List.getElem?_eq_getElem hlt
              obtain ⟨v', h2, h3⟩ := hv.get h1
              rw [h1]
              have h2' : cargs[i]? = some v' := by simpa using h2
              rw [h2']; exact h3
            · rw [List.getElem?_eq_none (by omega), Array.getElem?_append_right (by omega)]
              simp only [Array.getElem?_replicate]
              split <;> exact VR.undefR μ
        · intro e a' w' ha
          obtain ⟨μ', t', s', he, hr', st, k⟩ := ha
          have fin : (match ares t' s' r with | some l => K (packV l) s' | none => False) → a'.defers = [] ∧ ∃ v, (results fn a'.tmps).run P w' = .ok v w' ∧
              ∃ μ' s' v₀ v', Ending.returned v = .returned v' ∧ Step μ s w μ' s' w' ∧ Rel μ' s' w' ∧ VR μ' v₀ v' ∧ K v₀ s' := by
            intro k
            split at k
            · rename_i l hl
              obtain ⟨l', e1, e2⟩ := res_sound (P := P) he hr' hres hl
              refine ⟨he.defers, (if h : l'.toArray.size = 1 then l'.toArray[0] else .tuple l'.toArray), ?_, μ', s', packV l, _, rfl, st, hr', ?_, k⟩
              · rw [results_eq, Array.mapM_eq_mapM_toList]
                simp only [Sem.run_bind, Sem.run_map]
                rw [e1]
                simp
              · cases e2 with
                | nil => exact .tuple .nil
                | cons hv0 ht =>
                  cases ht with
                  | nil => simpa [packV] using hv0
                  | cons hv1 ht' =>
                    simp only [packV]
                    simp
                    exact .tuple (.cons hv0 (.cons hv1 ht'))
            · exact k.elim
          cases e with
          | normal => exact fin k
          | ret => exact fin k
          | _ => exact k.elim
      · cases hf
    · cases hf
  · cases hf

end
end Go.Ab
