/- A region that draws its order: a heavy instruction is carried out; then all that hangs on it alone is reckoned. -/
import Derived.Test.YtdhiacdfblakcaaAbN
namespace Go.Ab
open Go

section
variable {P : Program} {nt : Nat} {ops : Array Oper} {ds : List DIns} {na : Nat} {μ0 : Mu} {s0 : St} {w0 : World} {T0 : Env} {K : Env → St → Prop}
  {listed : Array Bool} {a : Act} {w : World} {pre rest r : List DIns} {T : Env} {B : St} {pend : Pend} {reads : Reads} {μ : Mu} {d : DIns}

theorem putO_eq {t : Env} {dst : Option Nat} {v : Value} {x : Nat} (h : dst = some x) : putO t dst v x = v := by subst h; simp [putO, upd]
theorem putO_ne {t : Env} {dst : Option Nat} {v : Value} {x : Nat} (h : dst ≠ some x) : putO t dst v x = t x := by
  cases dst with
  | none => rfl
  | some y =>
    simp only [putO, upd]
    rw [if_neg]
    rintro rfl; exact h rfl

theorem mixE_snoc_put (hpre : ∀ e ∈ pre, ∀ x, e.ins.dst = some x → d.ins.dst ≠ some x) (hidx : ∀ e ∈ pre, e.idx ≠ d.idx) (hsz : d.idx < listed.size) (v : Value) :
    mixE T0 (putO T d.ins.dst v) (pre ++ [d]) (listed.setIfInBounds d.idx true) = putO (mixE T0 T pre listed) d.ins.dst v := by
  funext x
  have hsame : ∀ e ∈ pre, (listed.setIfInBounds d.idx true).getD e.idx false = listed.getD e.idx false := by
    intro e he
    have := lst_set (listed := listed) (i := d.idx) (j := e.idx) hsz
    unfold lst at this
    rw [Bool.eq_iff_iff, this]
    exact ⟨fun h => h.resolve_left (hidx e he), .inr⟩
  have hd : (listed.setIfInBounds d.idx true).getD d.idx false = true := (lst_set (listed := listed) (j := d.idx) hsz).2 (.inl rfl)
  have hany : ((pre ++ [d]).any fun e => e.ins.dst == some x && !(listed.setIfInBounds d.idx true).getD e.idx false) = (pre.any fun e => e.ins.dst == some x && !listed.getD e.idx false) := by
    rw [List.any_append]
    simp only [List.any_cons, List.any_nil, hd, Bool.not_true, Bool.and_false, Bool.or_false]
    rw [Bool.eq_iff_iff]
    simp only [List.any_eq_true]
    constructor
    · rintro ⟨e, he, h⟩; rw [hsame e he] at h; exact ⟨e, he, h⟩
    · rintro ⟨e, he, h⟩; refine ⟨e, he, ?_⟩; rw [hsame e he]; exact h
  unfold mixE
  rw [hany]
  by_cases hx : d.ins.dst = some x
  · rw [putO_eq hx, putO_eq hx]
    rw [if_neg]
    simp only [List.any_eq_true, Bool.and_eq_true, beq_iff_eq, not_exists, not_and]
    intro e he hde
    exact absurd hx (hpre e he x hde)
  · rw [putO_ne hx, putO_ne hx]

theorem DInv.slotsH (hD : DOk P nt ops ds na) (I : DInv P nt ops ds na μ0 s0 w0 T0 K listed a w pre (d :: r) T B pend reads μ) (ha : ∀ j ∈ d.anc, lst listed j) : ∀ x ∈ d.ins.slots, mixE T0 T pre listed x = T x := by
  have A := hD.ahead I.hds
  intro x hx
  unfold mixE
  rw [if_neg]
  simp only [List.any_eq_true, Bool.and_eq_true, beq_iff_eq, Bool.not_eq_true', not_exists, not_and]
  intro e he hde
  have := ha _ (A.reads e he x hde hx)
  unfold lst at this; rw [this]; simp

/-- The first of what is left has been carried out, whatever it was; what it has come to: v; what stands in memory behind it: s'. -/
theorem DInv.next (hD : DOk P nt ops ds na) (I : DInv P nt ops ds na μ0 s0 w0 T0 K listed a w pre (d :: r) T B pend reads μ) (ha : ∀ j ∈ d.anc, lst listed j) (hsz : d.idx < ops.size)
    (hdn : ∀ x, d.ins.dst = some x → x < nt) {v v' : Value} {s' : St} {w' : World} {μ' : Mu} {pend' : Pend} {reads' : Reads}
    (hst : Step μ (addP B (pend.filter fun p => d.merge.contains p.1)) w μ' s' w') (hr : Rel μ' s' w') (hv : VR μ' v v')
    (hp' : pend' = pend.filter fun p => !d.merge.contains p.1)
    (hhv : heavyD d = true) (hre : ∀ x ∈ reads, ¬ x.1 ∈ d.anc → x ∈ reads' ∧ aread x.2.1 s' x.2.2.1 = some x.2.2.2)
    (hrun : adraw P s0.n r (putO T d.ins.dst v) s' pend' reads' K) :
    DInv P nt ops ds na μ0 s0 w0 T0 K (listed.setIfInBounds d.idx true) (a.put d.ins.dst v') w' (pre ++ [d]) r (putO T d.ins.dst v) s' pend' reads' μ' := by
  have A := hD.ahead I.hds
  have hls : d.idx < listed.size := by rw [I.size]; exact hsz
  have hset := fun j => lst_set (listed := listed) (i := d.idx) (j := j) hls
  have hmem : ∀ e ∈ pre, e ∈ ds := fun e he => I.mem he
  have hdd : d ∈ ds := by rw [I.hds]; simp
  have hrm : ∀ e ∈ r, e ∈ ds := fun e he => by rw [I.hds]; simp [he]
  have hrne : ∀ e ∈ r, e.idx ≠ d.idx := by
    intro e he h
    obtain ⟨l2, m2, hlm2⟩ := List.append_of_mem he
    exact (hD.ahead (l := pre ++ d :: l2) (m := m2) (d := e) (by rw [I.hds, hlm2]; simp)).idx d (by simp) h.symm
  have hpm : ∀ p, p ∈ pend' ↔ p ∈ pend ∧ ¬ p.1 ∈ d.merge := by
    intro p; rw [hp', List.mem_filter]; simp
  -- the memory with which it was begun
  have hXn : (addP B (pend.filter fun p => d.merge.contains p.1)).n = B.n := addP_n _ _
  have hX : ∀ b o, (addP B (pend.filter fun p => d.merge.contains p.1)).H b = some o → (∃ i, (i, b, o) ∈ pend ∧ i ∈ d.merge) ∨ B.H b = some o := by
    intro b o h
    rw [addP_H, List.find?_filter] at h
    split at h
    · rename_i x hx
      cases h
      have h1 := List.find?_some hx
      have h2 := List.mem_of_find?_eq_some hx
      simp only [decide_eq_true_eq] at h1
      obtain ⟨i, b', o'⟩ := x
      obtain ⟨h3, h4⟩ := h1
      have : b' = b := by simpa using h4
      subst this
      exact .inl ⟨i, h2, by simpa using h3⟩
    · exact .inr h
  have hXc : ∀ b o, (addP B (pend.filter fun p => d.merge.contains p.1)).H b = some o → (cur B pend listed).H b = some o := by
    intro b o h
    rw [I.cur_H hD]
    rcases hX b o h with ⟨i, hi, hm⟩ | h1
    · exact .inl ⟨i, hi, ha _ (A.merge i hm)⟩
    · exact .inr h1
  -- a block of this region that was not there when it was begun
  have hXnone : ∀ b, (∀ p ∈ pend, p.1 ∈ d.merge → p.2.1 ≠ b) → B.H b = none → (addP B (pend.filter fun p => d.merge.contains p.1)).H b = none := by
    intro b h1 h2
    cases h : (addP B (pend.filter fun p => d.merge.contains p.1)).H b with
    | none => rfl
    | some o =>
      rcases hX b o h with ⟨i, hi, hm⟩ | h3
      · exact absurd rfl (h1 _ hi hm)
      · rw [h2] at h3; cases h3
  have hnum : ∀ e ∈ ds, allocD e = true → s0.n + e.num < B.n := fun e he h => by
    have := hD.num e he h; have := I.bn; omega
  have hpn : ∀ p ∈ pend, p.2.1 < B.n := by
    intro p hp
    obtain ⟨⟨e, he, h1, h2, h3⟩, _⟩ := I.pendF p hp
    rw [h3]; exact hnum e (hmem e he) h2
  have hpX : ∀ p ∈ pend', (addP B (pend.filter fun p => d.merge.contains p.1)).H p.2.1 = none := by
    intro p hp
    obtain ⟨hp1, hp2⟩ := (hpm p).1 hp
    refine hXnone _ (fun q hq hm e => ?_) (I.pendF p hp1).2.2
    have := I.pendId hD hq hp1 e
    subst this; exact hp2 hm
  have hpd : ∀ p ∈ pend', s'.H p.2.1 = none := fun p hp => hst.dead _ (by rw [hXn]; exact hpn p ((hpm p).1 hp).1) (hpX p hp)
  have hmu : ∀ b, b < B.n → μ b = none → μ' b = none := by
    intro b hb h
    cases h1 : μ' b with
    | none => rfl
    | some L =>
      rcases hst.mu_new b L h1 with h2 | h2
      · rw [h] at h2; cases h2
      · rw [hXn] at h2; omega
  have hmu' : ∀ b L, b < B.n → μ' b = some L → μ b = some L := by
    intro b L hb h
    rcases hst.mu_new b L h with h2 | h2
    · exact h2
    · rw [hXn] at h2; omega
  have hpF : ∀ p ∈ pend', (∃ e ∈ pre ++ [d], e.idx = p.1 ∧ allocD e = true ∧ p.2.1 = s0.n + e.num) ∧ p.2.2.own = true ∧ s'.H p.2.1 = none := by
    intro p hp
    obtain ⟨⟨e, he, h1⟩, h2, _⟩ := I.pendF p ((hpm p).1 hp).1
    exact ⟨⟨e, by simp [he], h1⟩, h2, hpd p hp⟩
  have hpU : ∀ p ∈ pend', ∀ q ∈ pend', p.1 = q.1 → p = q := fun p hp q hq => I.pendU p ((hpm p).1 hp).1 q ((hpm q).1 hq).1
  have hpId : ∀ p ∈ pend', ∀ q ∈ pend', p.2.1 = q.2.1 → p = q := fun p hp q hq => I.pendId hD ((hpm p).1 hp).1 ((hpm q).1 hq).1
  -- d itself lays no pending block
  have hpl : ∀ p ∈ pend', lst (listed.setIfInBounds d.idx true) p.1 ↔ lst listed p.1 := by
    intro p hp
    rw [hset]
    refine ⟨fun h => h.resolve_left fun e => ?_, .inr⟩
    obtain ⟨⟨e', he', h1, _⟩, _⟩ := I.pendF p ((hpm p).1 hp).1
    exact A.idx e' he' (h1.trans e)
  have hcn : ∀ b o, (cur s' pend' (listed.setIfInBounds d.idx true)).H b = some o ↔ (∃ i, (i, b, o) ∈ pend' ∧ lst listed i) ∨ s'.H b = some o := by
    intro b o
    unfold cur
    rw [addP_H, List.find?_filter]
    constructor
    · intro h
      split at h
      · rename_i x hx
        cases h
        have h1 := List.find?_some hx
        have h2 := List.mem_of_find?_eq_some hx
        simp only [decide_eq_true_eq] at h1
        obtain ⟨i, b', o'⟩ := x
        obtain ⟨h3, h4⟩ := h1
        have : b' = b := by simpa using h4
        subst this
        exact .inl ⟨i, h2, (hpl _ h2).1 h3⟩
      · exact .inr h
    · rintro (⟨i, hi, hl⟩ | h)
      · have : (List.find? (fun a => decide (((listed.setIfInBounds d.idx true).getD a.1 false) = true ∧ (a.2.1 == b) = true)) pend').isSome = true := by
          rw [List.find?_isSome]
          exact ⟨_, hi, by simp only [decide_eq_true_eq]; exact ⟨(hpl _ hi).2 hl, by simp⟩⟩
        split
        · rename_i x hx
          have h1 := List.find?_some hx
          have h2 := List.mem_of_find?_eq_some hx
          simp only [decide_eq_true_eq] at h1
          have := hpId _ h2 _ hi (by simpa using h1.2)
          rw [this]
        · rename_i hx
          rw [hx] at this; cases this
      · split
        · rename_i x hx
          have h1 := List.find?_some hx
          have h2 := List.mem_of_find?_eq_some hx
          simp only [decide_eq_true_eq] at h1
          have h3 := hpd x h2
          have h4 : x.2.1 = b := by simpa using h1.2
          rw [h4, h] at h3; cases h3
        · exact h
  -- a pending block lies where nothing has been touched
  have hex : ∀ i b o L, (i, b, o) ∈ pend' → lst listed i → μ b = some L → L.block < w.heap.size ∧ ¬ Own μ (addP B (pend.filter fun p => d.merge.contains p.1)) L.block ∧ (cur B pend listed).H b = some o := by
    intro i b o L hi hl hL
    have hc : (cur B pend listed).H b = some o := (I.cur_H hD b o).2 (.inl ⟨i, ((hpm _).1 hi).1, hl⟩)
    obtain ⟨L1, hL1, hlt⟩ := (I.rel.obj b o hc).lt
    rw [hL] at hL1; cases hL1
    refine ⟨hlt, ?_, hc⟩
    rintro ⟨b2, o2, L2, h1, h2, h3, h4⟩
    have hne : b2 ≠ b := by
      rintro rfl
      have := hpX _ hi
      simp only at this
      rw [this] at h1; cases h1
    exact I.rel.disj b2 b o2 o L2 L hne (hXc _ _ h1) hc h2 h3 hL h4
  have hrel : Rel μ' (cur s' pend' (listed.setIfInBounds d.idx true)) w' := by
    refine ⟨fun b L h => by rw [cur_n]; exact hr.lt b L h, ?_, ?_⟩
    · intro b o h
      rcases (hcn b o).1 h with ⟨i, hi, hl⟩ | h1
      · have hc : (cur B pend listed).H b = some o := (I.cur_H hD b o).2 (.inl ⟨i, ((hpm _).1 hi).1, hl⟩)
        refine (I.rel.obj b o hc).mono hst.mu fun L hL => ?_
        obtain ⟨h1, h2, _⟩ := hex i b o L hi hl hL
        exact hst.frame _ h1 h2
      · exact hr.obj b o h1
    · intro b₁ b₂ o₁ o₂ L₁ L₂ hne h₁ h₂ ho m₁ m₂
      rcases (hcn b₁ o₁).1 h₁ with ⟨i₁, hi₁, hl₁⟩ | k₁
      · have n₁ := hmu' b₁ L₁ (hpn _ ((hpm _).1 hi₁).1) m₁
        obtain ⟨x1, x2, x3⟩ := hex i₁ b₁ o₁ L₁ hi₁ hl₁ n₁
        rcases (hcn b₂ o₂).1 h₂ with ⟨i₂, hi₂, hl₂⟩ | k₂
        · have n₂ := hmu' b₂ L₂ (hpn _ ((hpm _).1 hi₂).1) m₂
          obtain ⟨_, _, x4⟩ := hex i₂ b₂ o₂ L₂ hi₂ hl₂ n₂
          exact I.rel.disj b₁ b₂ o₁ o₂ L₁ L₂ hne x3 x4 ho n₁ n₂
        · cases ho2 : o₂.own with
          | true =>
            intro e
            exact x2 (hst.own _ x1 ⟨b₂, o₂, L₂, k₂, ho2, m₂, e.symm⟩)
          | false =>
            cases o₂ with
            | ro c es =>
              have h5 := hXc _ _ (hst.ro b₂ c es k₂)
              obtain ⟨L3, hL3, _⟩ := (I.rel.obj _ _ h5).lt
              have := hst.mu _ _ hL3
              rw [m₂] at this; cases this
              exact I.rel.disj b₁ b₂ o₁ _ L₁ L₂ hne x3 h5 ho n₁ hL3
            | _ => cases ho2
      · rcases (hcn b₂ o₂).1 h₂ with ⟨i₂, hi₂, hl₂⟩ | k₂
        · have n₂ := hmu' b₂ L₂ (hpn _ ((hpm _).1 hi₂).1) m₂
          obtain ⟨x1, x2, x3⟩ := hex i₂ b₂ o₂ L₂ hi₂ hl₂ n₂
          intro e
          exact x2 (hst.own _ x1 ⟨b₁, o₁, L₁, k₁, ho, m₁, e⟩)
        · exact hr.disj b₁ b₂ o₁ o₂ L₁ L₂ hne k₁ k₂ ho m₁ m₂
  have hstep : Step μ0 s0 w0 μ' (cur s' pend' (listed.setIfInBounds d.idx true)) w' := by
    have st := I.step
    have hbn : B.n ≤ s'.n := by have := hst.n; rwa [hXn] at this
    have hs0 : s0.n ≤ B.n := by have := I.bn; omega
    have hXown : ∀ k, Own μ (addP B (pend.filter fun p => d.merge.contains p.1)) k → Own μ (cur B pend listed) k := by
      rintro k ⟨b, o, L, h1, h2, h3, h4⟩
      exact ⟨b, o, L, hXc _ _ h1, h2, h3, h4⟩
    refine ⟨Mu.le_trans st.mu hst.mu, by rw [cur_n]; omega, hst.os.trans st.os, hst.tape.trans st.tape, hst.output.trans st.output, Nat.le_trans st.size hst.size, ?_, ?_, ?_, ?_, ?_⟩
    · intro k hk hno
      rw [hst.frame k (Nat.lt_of_lt_of_le hk st.size) fun h => hno (st.own k hk (hXown k h))]
      exact st.frame k hk hno
    · rintro k hk ⟨b, o, L, hb, ho, hm, e⟩
      rcases (hcn b o).1 hb with ⟨i, hi, hl⟩ | h1
      · have n₁ := hmu' b L (hpn _ ((hpm _).1 hi).1) hm
        obtain ⟨_, _, x3⟩ := hex i b o L hi hl n₁
        exact st.own k hk ⟨b, o, L, x3, ho, n₁, e⟩
      · exact st.own k hk (hXown k (hst.own k (Nat.lt_of_lt_of_le hk st.size) ⟨b, o, L, h1, ho, hm, e⟩))
    · intro b hb hnone
      have h1 := st.dead b hb hnone
      have h2 : (addP B (pend.filter fun p => d.merge.contains p.1)).H b = none := by
        cases h3 : (addP B (pend.filter fun p => d.merge.contains p.1)).H b with
        | none => rfl
        | some o => rw [hXc b o h3] at h1; cases h1
      have h4 := hst.dead b (by rw [hXn]; omega) h2
      cases h5 : (cur s' pend' (listed.setIfInBounds d.idx true)).H b with
      | none => rfl
      | some o =>
        rcases (hcn b o).1 h5 with ⟨i, hi, hl⟩ | h6
        · obtain ⟨⟨e, he, _, _, h7⟩, _⟩ := I.pendF _ ((hpm _).1 hi).1
          simp only at h7; omega
        · rw [h4] at h6; cases h6
    · intro b c es hb
      rcases (hcn b _).1 hb with ⟨i, hi, _⟩ | h1
      · have := (hpF _ hi).2.1; cases this
      · exact st.ro b c es (hXc _ _ (hst.ro b c es h1))
    · intro b L hb
      rcases hst.mu_new b L hb with h1 | h1
      · exact st.mu_new b L h1
      · right; rw [hXn] at h1; omega
  refine ⟨by simpa using I.size, by rw [I.hds]; simp, ?_, ?_, hrun, ?_, hrel, hstep, ?_, ?_, ?_, hpF, ?_, hpU, ?_⟩
  · intro e he hl
    rcases (hset _).1 hl with h1 | h1
    · exact hrne e he h1
    · exact I.nr e (by simp [he]) h1
  · intro e he hl j hj
    rcases (hset _).1 hl with h1 | h1
    · have := hD.inj he hdd h1
      subst this
      exact (hset _).2 (.inr (ha j hj))
    · exact (hset _).2 (.inr (I.closed e he h1 j hj))
  · rw [mixE_snoc_put A.once A.idx hls]
    exact (I.env.mono hst.mu).put hdn hv
  · have := hst.n; rw [hXn] at this; have := I.bn; omega
  · intro e he hl
    have hl' : ¬ lst listed e.idx := fun h => hl ((hset _).2 (.inr h))
    rcases List.mem_append.1 he with h1 | h1
    · obtain ⟨u, hu, hw1, hw2⟩ := I.lights e h1 hl'
      have hne : ∀ x, e.ins.dst = some x → putO T d.ins.dst v x = T x := fun x hx => putO_ne (A.once e h1 x hx)
      refine ⟨u, ?_, ?_, ?_⟩
      · intro x hx
        obtain ⟨k1, k2⟩ := hu x hx
        refine ⟨?_, fun h => k2 fun e' he' => h e' (by simp [he'])⟩
        intro e' he' hi' hde'
        rcases List.mem_append.1 he' with h2 | h2
        · rw [putO_ne (A.once e' h2 x hde')]
          exact k1 e' h2 hi' hde'
        · simp at h2; subst h2
          exact absurd (ha _ (A.late e h1 x hde' hx)) hl'
      · intro hg
        obtain ⟨g0, g1, g2, g3⟩ := hw1 hg
        refine ⟨g0, ?_, ?_, ?_⟩
        · intro hk
          obtain ⟨v1, h2, h3⟩ := g1 hk
          exact ⟨v1, h2, fun x hx => by rw [hne x hx]; exact h3 x hx⟩
        · intro hk
          obtain ⟨v1, h2, h3, h4⟩ := g2 hk
          have hnum : e.num ≠ 0 := fun h0 => hl' (ha _ (A.held e h1 (by simp [readD, hk]) hhv h0))
          have := hre _ (h3 hnum) fun h => hl' (ha _ h)
          exact ⟨v1, this.2, fun _ => this.1, fun x hx => by rw [hne x hx]; exact h4 x hx⟩
        · intro hk
          obtain ⟨ob, f, h2, h3, h4⟩ := g3 hk
          exact ⟨ob, f, h2, (hpm _).2 ⟨h3, fun h => hl' (ha _ (A.merge _ h))⟩, fun x hx => by rw [hne x hx]; exact h4 x hx⟩
      · intro hg
        refine ⟨fun x hx => ?_, fun p hp => (hw2 hg).2 p ((hpm p).1 hp).1⟩
        rw [hne x hx]; exact (hw2 hg).1 x hx
    · simp at h1; subst h1
      exact absurd ((hset _).2 (.inl rfl)) hl
  · intro x hx
    rw [putO_ne (hx d (by simp))]
    exact I.TB x fun e he => hx e (by simp [he])
  · intro p hp hl
    exact hmu _ (hpn p ((hpm p).1 hp).1) (I.pendM p ((hpm p).1 hp).1 fun h => hl ((hset _).2 (.inr h)))
  · intro e he hal
    obtain ⟨h1, h2⟩ := I.restF e (by simp [he]) hal
    have hen := hnum e (hrm e he) hal
    refine ⟨hst.dead _ (by rw [hXn]; exact hen) (hXnone _ (fun p hp _ h3 => ?_) h1), hmu _ hen h2⟩
    obtain ⟨⟨e', he', k1, k2, k3⟩, _⟩ := I.pendF p hp
    have : e' = e := hD.num_inj (hmem e' he') (hrm e he) k2 hal (by omega)
    subst this
    obtain ⟨l1, m1, hl1⟩ := List.append_of_mem he'
    obtain ⟨l2, m2, hl2⟩ := List.append_of_mem he
    exact (hD.ahead (l := l1 ++ e' :: m1 ++ d :: l2) (m := m2) (d := e') (by rw [I.hds, hl1, hl2]; simp)).idx e' (by simp) rfl

end
end Go.Ab
