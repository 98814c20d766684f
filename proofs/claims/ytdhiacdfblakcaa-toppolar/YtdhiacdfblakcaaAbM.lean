/- A region that draws its order: what holds on the way. -/
import Derived.Test.YtdhiacdfblakcaaAbL
namespace Go.Ab
open Go

abbrev lst (listed : Array Bool) (i : Nat) : Prop := listed.getD i false = true

theorem lst_set {listed : Array Bool} {i j : Nat} (h : i < listed.size) : lst (listed.setIfInBounds i true) j ↔ j = i ∨ lst listed j := by
  unfold lst
  simp only [Array.getD_eq_getD_getElem?]
  by_cases e : i = j
  · subst e; rw [Array.getElem?_setIfInBounds_self]; simp [h]
  · rw [Array.getElem?_setIfInBounds_ne e]
    constructor
    · exact .inr
    · rintro (rfl | h)
      · exact absurd rfl e
      · exact h

def mixE (T0 T : Env) (pre : List DIns) (listed : Array Bool) : Env := fun x =>
  if (pre.any fun e => e.ins.dst == some x && !listed.getD e.idx false) = true then T0 x else T x

def cur (B : St) (pend : Pend) (listed : Array Bool) : St := addP B (pend.filter fun p => listed.getD p.1 false)

/-- A light instruction that is still to come: what it comes to is known. -/
def LOk (T0 : Env) (base : Nat) (pre : List DIns) (T : Env) (B : St) (pend : Pend) (reads : Reads) (d : DIns) : Prop :=
  ∃ u : Env, (∀ x ∈ d.ins.slots, (∀ e ∈ pre, e.idx ≠ d.idx → e.ins.dst = some x → (e.idx ∈ d.anc ∧ u x = T x) ∨ (d.idx ∈ e.anc ∧ u x = T0 x)) ∧
      ((∀ e ∈ pre, e.idx ≠ d.idx → e.ins.dst ≠ some x) → u x = T0 x)) ∧
    (awanted u d.ins.guard = true → d.ins.op.kind ≠ .heavy ∧
      (d.ins.op.kind = .pure → ∃ v, apure u d.ins.op = some v ∧ ∀ x, d.ins.dst = some x → T x = v) ∧
      (d.ins.op.kind = .read → ∃ v, aread u B d.ins.op = some v ∧ (d.num ≠ 0 → (d.idx, u, d.ins.op, v) ∈ reads) ∧ ∀ x, d.ins.dst = some x → T x = v) ∧
      (d.ins.op.kind = .alloc → ∃ ob f, aalloc u d.ins.op = some (ob, f) ∧ (d.idx, base + d.num, ob) ∈ pend ∧ ∀ x, d.ins.dst = some x → T x = f (base + d.num))) ∧
    (awanted u d.ins.guard = false → (∀ x, d.ins.dst = some x → T x = undefV) ∧ ∀ p ∈ pend, p.1 ≠ d.idx)

structure DInv (P : Program) (nt : Nat) (ops : Array Oper) (ds : List DIns) (na : Nat) (μ0 : Mu) (s0 : St) (w0 : World) (T0 : Env) (K : Env → St → Prop)
    (listed : Array Bool) (a : Act) (w : World) (pre rest : List DIns) (T : Env) (B : St) (pend : Pend) (reads : Reads) (μ : Mu) : Prop where
  size : listed.size = ops.size
  hds : ds = pre ++ rest
  nr : ∀ d ∈ rest, ¬ lst listed d.idx
  closed : ∀ d ∈ ds, lst listed d.idx → ∀ j ∈ d.anc, lst listed j
  run : adraw P s0.n rest T B pend reads K
  env : EnvR μ nt (mixE T0 T pre listed) a
  rel : Rel μ (cur B pend listed) w
  step : Step μ0 s0 w0 μ (cur B pend listed) w
  bn : s0.n + na ≤ B.n
  lights : ∀ d ∈ pre, ¬ lst listed d.idx → LOk T0 s0.n pre T B pend reads d
  TB : ∀ x, (∀ e ∈ pre, e.ins.dst ≠ some x) → T x = T0 x
  pendF : ∀ p ∈ pend, (∃ d ∈ pre, d.idx = p.1 ∧ allocD d = true ∧ p.2.1 = s0.n + d.num) ∧ p.2.2.own = true ∧ B.H p.2.1 = none
  pendM : ∀ p ∈ pend, ¬ lst listed p.1 → μ p.2.1 = none
  pendU : ∀ p ∈ pend, ∀ q ∈ pend, p.1 = q.1 → p = q
  restF : ∀ d ∈ rest, allocD d = true → B.H (s0.n + d.num) = none ∧ μ (s0.n + d.num) = none

section
variable {P : Program} {nt : Nat} {ops : Array Oper} {ds : List DIns} {na : Nat}

theorem DOk.dst_inj (h : DOk P nt ops ds na) {d e : DIns} (hd : d ∈ ds) (he : e ∈ ds) {x : Nat} (h1 : d.ins.dst = some x) (h2 : e.ins.dst = some x) : d = e := by
  obtain ⟨l, m, rfl⟩ := List.append_of_mem hd
  rcases List.mem_append.1 he with h3 | h3
  · exact absurd h1 ((h.ahead rfl).once e h3 x h2)
  · rcases List.mem_cons.1 h3 with h4 | h4
    · exact h4.symm
    · obtain ⟨l', m', rfl⟩ := List.append_of_mem h4
      exact absurd h2 ((h.ahead (l := l ++ d :: l') (m := m') (by simp)).once d (by simp) x h1)

theorem DOk.num_inj (h : DOk P nt ops ds na) {d e : DIns} (hd : d ∈ ds) (he : e ∈ ds) (h1 : allocD d = true) (h2 : allocD e = true) (hn : d.num = e.num) : d = e := by
  obtain ⟨l, m, rfl⟩ := List.append_of_mem hd
  rcases List.mem_append.1 he with h3 | h3
  · exact absurd hn.symm ((h.ahead rfl).num e h3 h2 h1)
  · rcases List.mem_cons.1 h3 with h4 | h4
    · exact h4.symm
    · obtain ⟨l', m', rfl⟩ := List.append_of_mem h4
      exact absurd hn ((h.ahead (l := l ++ d :: l') (m := m') (by simp)).num d (by simp) h1 h2)

variable {μ0 : Mu} {s0 : St} {w0 : World} {T0 : Env} {K : Env → St → Prop} {listed : Array Bool} {a : Act} {w : World} {pre rest : List DIns} {T : Env} {B : St} {pend : Pend} {reads : Reads} {μ : Mu}

theorem DInv.pendId (hD : DOk P nt ops ds na) (I : DInv P nt ops ds na μ0 s0 w0 T0 K listed a w pre rest T B pend reads μ) {p q : Nat × Nat × AObj} (hp : p ∈ pend) (hq : q ∈ pend) (h : p.2.1 = q.2.1) : p = q := by
  obtain ⟨⟨d, hd, h1, h2, h3⟩, _⟩ := I.pendF p hp
  obtain ⟨⟨e, he, k1, k2, k3⟩, _⟩ := I.pendF q hq
  have hde : d = e := hD.num_inj (by rw [I.hds]; simp [hd]) (by rw [I.hds]; simp [he]) h2 k2 (by omega)
  subst hde
  exact I.pendU p hp q hq (h1.symm.trans k1)

/-- What stands in a block now. -/
theorem DInv.cur_H (I : DInv P nt ops ds na μ0 s0 w0 T0 K listed a w pre rest T B pend reads μ) (hD : DOk P nt ops ds na) (b : Nat) (o : AObj) :
    (cur B pend listed).H b = some o ↔ (∃ i, (i, b, o) ∈ pend ∧ lst listed i) ∨ B.H b = some o := by
  unfold cur
  rw [addP_H, List.find?_filter]
  constructor
  · intro h
    split at h
    · rename_i x hx
      cases h
      have h1 := List.find?_some hx
      have h2 := List.mem_of_find?_eq_some hx
      simp at h1
      obtain ⟨i, b', o'⟩ := x
      simp at h1
      obtain ⟨h3, rfl⟩ := h1
      exact .inl ⟨i, h2, by unfold lst; simpa using h3⟩
    · exact .inr h
  · rintro (⟨i, hi, hl⟩ | h)
    · have : (List.find? (fun a => decide ((listed.getD a.1 false) = true ∧ (a.2.1 == b) = true)) pend).isSome = true := by
        rw [List.find?_isSome]
        exact ⟨_, hi, by simp only [decide_eq_true_eq]; exact ⟨hl, by simp⟩⟩
      split
      · rename_i x hx
        have h1 := List.find?_some hx
        have h2 := List.mem_of_find?_eq_some hx
        simp at h1
        have := I.pendId hD h2 hi h1.2
        rw [this]
      · rename_i hx
        rw [hx] at this; cases this
    · split
      · rename_i x hx
        have h1 := List.find?_some hx
        have h2 := List.mem_of_find?_eq_some hx
        simp at h1
        have h3 := (I.pendF x h2).2.2
        rw [h1.2, h] at h3; cases h3
      · exact h

theorem cur_n : (cur B pend listed).n = B.n := addP_n _ _

/-- Where the slots of an instruction that is still to come are looked at. -/
theorem DInv.slots (I : DInv P nt ops ds na μ0 s0 w0 T0 K listed a w pre rest T B pend reads μ) (hD : DOk P nt ops ds na) {d : DIns} (hd : d ∈ pre) (hu : ¬ lst listed d.idx) (ha : ∀ j ∈ d.anc, lst listed j) {u : Env}
    (h : ∀ x ∈ d.ins.slots, (∀ e ∈ pre, e.idx ≠ d.idx → e.ins.dst = some x → (e.idx ∈ d.anc ∧ u x = T x) ∨ (d.idx ∈ e.anc ∧ u x = T0 x)) ∧
      ((∀ e ∈ pre, e.idx ≠ d.idx → e.ins.dst ≠ some x) → u x = T0 x)) : ∀ x ∈ d.ins.slots, mixE T0 T pre listed x = u x := by
  have hsub : ∀ e ∈ pre, e ∈ ds := fun e he => by rw [I.hds]; simp [he]
  intro x hx
  obtain ⟨h1, h2⟩ := h x hx
  by_cases hex : ∃ e ∈ pre, e.idx ≠ d.idx ∧ e.ins.dst = some x
  · obtain ⟨e, he, hne, hde⟩ := hex
    rcases h1 e he hne hde with ⟨hanc, hux⟩ | ⟨hanc, hux⟩
    · have hle := ha _ hanc
      unfold mixE
      rw [if_neg, hux]
      simp only [List.any_eq_true, Bool.and_eq_true, beq_iff_eq, Bool.not_eq_true', not_exists, not_and]
      intro e' he' hd'
      have := hD.dst_inj (hsub _ he) (hsub _ he') hde hd'
      subst this
      unfold lst at hle; rw [hle]; simp
    · have hle : ¬ lst listed e.idx := fun hl => hu (I.closed e (hsub _ he) hl _ hanc)
      unfold mixE
      rw [if_pos, hux]
      simp only [List.any_eq_true, Bool.and_eq_true, beq_iff_eq, Bool.not_eq_true']
      exact ⟨e, he, hde, by simpa [lst] using hle⟩
  · have hno : ∀ e ∈ pre, e.idx ≠ d.idx → e.ins.dst ≠ some x := fun e he hne hde => hex ⟨e, he, hne, hde⟩
    rw [h2 hno]
    unfold mixE
    split
    · rfl
    · rename_i hany
      refine I.TB x fun e he hde => ?_
      by_cases hie : e.idx = d.idx
      · have := hD.inj (hsub _ he) (hsub _ hd) hie
        subst this
        apply hany
        simp only [List.any_eq_true, Bool.and_eq_true, beq_iff_eq, Bool.not_eq_true']
        exact ⟨e, he, hde, by simpa [lst] using hu⟩
      · exact hno e he hie hde

/-- Behind an instruction its slot holds what it has come to; all others what they held. -/
theorem mixE_put {d : DIns} (hD : DOk P nt ops ds na) (hds : ∀ e ∈ pre, e ∈ ds) (hd : d ∈ pre) (hsz : d.idx < listed.size) (hu : ¬ lst listed d.idx) {v : Value} (hv : ∀ x, d.ins.dst = some x → T x = v) :
    mixE T0 T pre (listed.setIfInBounds d.idx true) = putO (mixE T0 T pre listed) d.ins.dst v := by
  funext x
  by_cases hx : d.ins.dst = some x
  · rw [hx]
    simp only [putO, upd, if_true]
    unfold mixE
    rw [if_neg, hv x hx]
    simp only [List.any_eq_true, Bool.and_eq_true, beq_iff_eq, Bool.not_eq_true', not_exists, not_and]
    intro e he hde
    have := hD.dst_inj (hds _ hd) (hds _ he) hx hde
    subst this
    have := (lst_set (listed := listed) (j := d.idx) hsz).2 (.inl rfl)
    unfold lst at this; rw [this]; simp
  · have hp : putO (mixE T0 T pre listed) d.ins.dst v x = mixE T0 T pre listed x := by
      cases hdd : d.ins.dst with
      | none => rfl
      | some y =>
        rw [hdd] at hx
        simp only [putO, upd]
        rw [if_neg]
        rintro rfl; exact hx rfl
    rw [hp]
    unfold mixE
    have : (pre.any fun e => e.ins.dst == some x && !(listed.setIfInBounds d.idx true).getD e.idx false) = (pre.any fun e => e.ins.dst == some x && !listed.getD e.idx false) := by
      rw [Bool.eq_iff_iff]
      simp only [List.any_eq_true, Bool.and_eq_true, beq_iff_eq, Bool.not_eq_true']
      constructor
      · rintro ⟨e, he, h1, h2⟩
        refine ⟨e, he, h1, ?_⟩
        cases hl : listed.getD e.idx false with
        | false => rfl
        | true =>
          have := (lst_set (listed := listed) (j := e.idx) hsz).2 (.inr hl)
          unfold lst at this; rw [this] at h2; cases h2
      · rintro ⟨e, he, h1, h2⟩
        refine ⟨e, he, h1, ?_⟩
        cases hl : (listed.setIfInBounds d.idx true).getD e.idx false with
        | false => rfl
        | true =>
          rcases (lst_set (listed := listed) (j := e.idx) hsz).1 hl with h3 | h3
          · have := hD.inj (hds _ he) (hds _ hd) h3
            subst this; exact absurd h1 hx
          · unfold lst at h3; rw [h3] at h2; cases h2
    rw [this]

end
end Go.Ab
