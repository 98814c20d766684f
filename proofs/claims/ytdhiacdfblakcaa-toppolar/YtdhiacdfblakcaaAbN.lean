/- A region that draws its order: one instruction is carried out. -/
import Derived.Test.YtdhiacdfblakcaaAbM
namespace Go.Ab
open Go

section
variable {P : Program} {nt : Nat} {ops : Array Oper} {ds : List DIns} {na : Nat} {μ0 : Mu} {s0 : St} {w0 : World} {T0 : Env} {K : Env → St → Prop}
  {listed : Array Bool} {a : Act} {w : World} {pre rest : List DIns} {T : Env} {B : St} {pend : Pend} {reads : Reads} {μ : Mu}

theorem DInv.mem (I : DInv P nt ops ds na μ0 s0 w0 T0 K listed a w pre rest T B pend reads μ) {d : DIns} (h : d ∈ pre) : d ∈ ds := by rw [I.hds]; simp [h]

/-- No new block of this instruction's: what stands in memory is the same. -/
theorem cur_set_eq {i : Nat} (hsz : i < listed.size) (h : ∀ p ∈ pend, p.1 ≠ i) : cur B pend (listed.setIfInBounds i true) = cur B pend listed := by
  unfold cur
  congr 1
  apply List.filter_congr
  intro p hp
  have := lst_set (listed := listed) (i := i) (j := p.1) hsz
  have hne := h p hp
  unfold lst at this
  rw [Bool.eq_iff_iff, this]
  exact ⟨fun h => h.resolve_left hne, .inr⟩

/-- A light instruction that lays no block has been carried out. -/
theorem DInv.light (hD : DOk P nt ops ds na) (I : DInv P nt ops ds na μ0 s0 w0 T0 K listed a w pre rest T B pend reads μ) {d : DIns} (hd : d ∈ pre) (hu : ¬ lst listed d.idx) (ha : ∀ j ∈ d.anc, lst listed j)
    (hsz : d.idx < ops.size) (hp : ∀ p ∈ pend, p.1 ≠ d.idx) {v v' : Value} (hT : ∀ x, d.ins.dst = some x → T x = v) (hdn : ∀ x, d.ins.dst = some x → x < nt) (hv : VR μ v v') :
    DInv P nt ops ds na μ0 s0 w0 T0 K (listed.setIfInBounds d.idx true) (a.put d.ins.dst v') w pre rest T B pend reads μ := by
  have hls : d.idx < listed.size := by rw [I.size]; exact hsz
  have hset := fun j => lst_set (listed := listed) (i := d.idx) (j := j) hls
  have hcur := cur_set_eq (B := B) hls hp
  refine ⟨by simpa using I.size, I.hds, ?_, ?_, I.run, ?_, by rw [hcur]; exact I.rel, by rw [hcur]; exact I.step, I.bn, ?_, I.TB, I.pendF, ?_, I.pendU, I.restF⟩
  · intro e he hl
    rcases (hset _).1 hl with h1 | h1
    · have := hD.inj (show e ∈ ds by rw [I.hds]; simp [he]) (I.mem hd) h1
      subst this
      obtain ⟨l, m, hlm⟩ := List.append_of_mem hd
      obtain ⟨l2, m2, hlm2⟩ := List.append_of_mem he
      have hds : ds = (l ++ e :: m ++ l2) ++ e :: m2 := by rw [I.hds, hlm, hlm2]; simp
      exact (hD.ahead hds).idx e (by simp) rfl
    · exact I.nr e he h1
  · intro e he hl j hj
    rcases (hset _).1 hl with h1 | h1
    · have := hD.inj he (I.mem hd) h1
      subst this
      exact (hset _).2 (.inr (ha j hj))
    · exact (hset _).2 (.inr (I.closed e he h1 j hj))
  · rw [mixE_put hD (fun e he => I.mem he) hd hls hu hT]
    exact I.env.put hdn hv
  · intro e he hl
    exact I.lights e he fun h => hl ((hset _).2 (.inr h))
  · intro p hp' hl
    exact I.pendM p hp' fun h => hl ((hset _).2 (.inr h))

/-- A new block has been laid. -/
theorem DInv.laid (hD : DOk P nt ops ds na) (I : DInv P nt ops ds na μ0 s0 w0 T0 K listed a w pre rest T B pend reads μ) {d : DIns} (hd : d ∈ pre) (hu : ¬ lst listed d.idx) (ha : ∀ j ∈ d.anc, lst listed j)
    (hsz : d.idx < ops.size) (hal : allocD d = true) {ob : AObj} (hob : (d.idx, s0.n + d.num, ob) ∈ pend) (hna : d.num < na) {v v' : Value} (hT : ∀ x, d.ins.dst = some x → T x = v) (hdn : ∀ x, d.ins.dst = some x → x < nt)
    {L : Loc} {obj : Obj} (hL : L.block = w.heap.size)
    (hR : ∀ (ν : Mu) (w' : World), μ.le ν → ν (s0.n + d.num) = some L → w'.heap[L.block]? = some obj → ObjR ν w' (s0.n + d.num) ob ∧ VR ν v v') :
    ∃ μ', DInv P nt ops ds na μ0 s0 w0 T0 K (listed.setIfInBounds d.idx true) (a.put d.ins.dst v') { w with heap := w.heap.push obj } pre rest T B pend reads μ' := by
  have hls : d.idx < listed.size := by rw [I.size]; exact hsz
  have hset := fun j => lst_set (listed := listed) (i := d.idx) (j := j) hls
  have hid : μ (s0.n + d.num) = none := I.pendM _ hob hu
  have hle : μ.le (μ.put (s0.n + d.num) L) := Mu.le_put hid
  have hms : (μ.put (s0.n + d.num) L) (s0.n + d.num) = some L := by simp [Mu.put]
  have hmo : ∀ b, b ≠ s0.n + d.num → (μ.put (s0.n + d.num) L) b = μ b := fun b hb => by simp [Mu.put, hb]
  have hBd : B.H (s0.n + d.num) = none := (I.pendF _ hob).2.2
  have hown : ob.own = true := (I.pendF _ hob).2.1
  -- what stands in memory behind it
  have hcn : ∀ b o, (cur B pend (listed.setIfInBounds d.idx true)).H b = some o ↔ (b = s0.n + d.num ∧ o = ob) ∨ (b ≠ s0.n + d.num ∧ (cur B pend listed).H b = some o) := by
    intro b o
    have key : (cur B pend (listed.setIfInBounds d.idx true)).H b = some o ↔ (∃ i, (i, b, o) ∈ pend ∧ lst (listed.setIfInBounds d.idx true) i) ∨ B.H b = some o := by
      unfold cur
      rw [addP_H, List.find?_filter]
      constructor
      · intro h
        split at h
        · rename_i x hx
          cases h
          have h1 := List.find?_some hx
          have h2 := List.mem_of_find?_eq_some hx
          simp only [decide_eq_true_eq] at h1
          obtain ⟨i, b', o'⟩ := x
          obtain ⟨h3, h4⟩ := h1
          have : b' = b := by simpa using h4
          subst this
          exact .inl ⟨i, h2, h3⟩
        · exact .inr h
      · rintro (⟨i, hi, hl⟩ | h)
        · have : (List.find? (fun a => decide (((listed.setIfInBounds d.idx true).getD a.1 false) = true ∧ (a.2.1 == b) = true)) pend).isSome = true := by
            rw [List.find?_isSome]
            exact ⟨_, hi, by simp only [decide_eq_true_eq]; exact ⟨hl, by simp⟩⟩
          split
          · rename_i x hx
            have h1 := List.find?_some hx
            have h2 := List.mem_of_find?_eq_some hx
            simp only [decide_eq_true_eq] at h1
            have := I.pendId hD h2 hi (by simpa using h1.2)
            rw [this]
          · rename_i hx
            rw [hx] at this; cases this
        · split
          · rename_i x hx
            have h1 := List.find?_some hx
            have h2 := List.mem_of_find?_eq_some hx
            simp only [decide_eq_true_eq] at h1
            have h3 := (I.pendF x h2).2.2
            have h4 : x.2.1 = b := by simpa using h1.2
            rw [h4, h] at h3; cases h3
          · exact h
    rw [key, I.cur_H hD]
    constructor
    · rintro (⟨i, hi, hl⟩ | h)
      · rcases (hset _).1 hl with h1 | h1
        · have := I.pendU _ hi _ hob h1
          simp only [Prod.mk.injEq] at this
          exact .inl ⟨this.2.1, this.2.2⟩
        · refine .inr ⟨?_, .inl ⟨i, hi, h1⟩⟩
          rintro rfl
          have := I.pendId hD hi hob rfl
          simp only [Prod.mk.injEq] at this
          exact hu (this.1 ▸ h1)
      · refine .inr ⟨?_, .inr h⟩
        rintro rfl; rw [hBd] at h; cases h
    · rintro (⟨rfl, rfl⟩ | ⟨hne, ⟨i, hi, hl⟩ | h⟩)
      · exact .inl ⟨_, hob, (hset _).2 (.inl rfl)⟩
      · exact .inl ⟨i, hi, (hset _).2 (.inr hl)⟩
      · exact .inr h
  have hget : ({ w with heap := w.heap.push obj } : World).heap[L.block]? = some obj := by simp [hL]
  have hold : ∀ k, k < w.heap.size → ({ w with heap := w.heap.push obj } : World).heap[k]? = w.heap[k]? := fun k hk => by
    show (w.heap.push obj)[k]? = _
    rw [Array.getElem?_push, if_neg (by omega)]
  have hrel : Rel (μ.put (s0.n + d.num) L) (cur B pend (listed.setIfInBounds d.idx true)) { w with heap := w.heap.push obj } := by
    refine ⟨?_, ?_, ?_⟩
    · intro b L' hb
      rw [cur_n]
      by_cases e : b = s0.n + d.num
      · have := I.bn; omega
      · rw [hmo b e] at hb; have := I.rel.lt b L' hb; rwa [cur_n] at this
    · intro b o hb
      rcases (hcn b o).1 hb with ⟨rfl, rfl⟩ | ⟨hne, hb'⟩
      · exact (hR _ _ hle hms hget).1
      · have h1 := I.rel.obj b o hb'
        obtain ⟨L1, hL1, hlt⟩ := h1.lt
        refine h1.mono hle fun L2 hL2 => ?_
        rw [hL1] at hL2; cases hL2
        exact hold _ hlt
    · intro b₁ b₂ o₁ o₂ L₁ L₂ hne h₁ h₂ ho m₁ m₂
      rcases (hcn b₁ o₁).1 h₁ with ⟨rfl, rfl⟩ | ⟨e₁, h₁'⟩
      · rcases (hcn b₂ o₂).1 h₂ with ⟨rfl, rfl⟩ | ⟨e₂, h₂'⟩
        · exact absurd rfl hne
        · rw [hms] at m₁; cases m₁
          rw [hmo _ e₂] at m₂
          obtain ⟨L3, hL3, hlt⟩ := (I.rel.obj b₂ o₂ h₂').lt
          rw [m₂] at hL3; cases hL3; omega
      · rw [hmo _ e₁] at m₁
        rcases (hcn b₂ o₂).1 h₂ with ⟨rfl, rfl⟩ | ⟨e₂, h₂'⟩
        · rw [hms] at m₂; cases m₂
          obtain ⟨L3, hL3, hlt⟩ := (I.rel.obj b₁ o₁ h₁').lt
          rw [m₁] at hL3; cases hL3; omega
        · rw [hmo _ e₂] at m₂
          exact I.rel.disj b₁ b₂ o₁ o₂ L₁ L₂ hne h₁' h₂' ho m₁ m₂
  have hstep : Step μ0 s0 w0 (μ.put (s0.n + d.num) L) (cur B pend (listed.setIfInBounds d.idx true)) { w with heap := w.heap.push obj } := by
    have st := I.step
    refine ⟨Mu.le_trans st.mu hle, by rw [cur_n]; have := st.n; rwa [cur_n] at this, st.os, st.tape, st.output, ?_, ?_, ?_, ?_, ?_, ?_⟩
    · have := st.size; simp; omega
    · intro k hk hno
      rw [hold k (Nat.lt_of_lt_of_le hk st.size)]
      exact st.frame k hk hno
    · rintro k hk ⟨b, o, L', hb, ho, hm, e⟩
      rcases (hcn b o).1 hb with ⟨rfl, rfl⟩ | ⟨hne, hb'⟩
      · rw [hms] at hm; cases hm
        have := st.size; omega
      · rw [hmo _ hne] at hm
        exact st.own k hk ⟨b, o, L', hb', ho, hm, e⟩
    · intro b hb hnone
      have h1 := st.dead b hb hnone
      cases h2 : (cur B pend (listed.setIfInBounds d.idx true)).H b with
      | none => rfl
      | some o =>
        rcases (hcn b o).1 h2 with ⟨rfl, _⟩ | ⟨_, h3⟩
        · omega
        · rw [h1] at h3; cases h3
    · intro b c e hb
      rcases (hcn b _).1 hb with ⟨_, rfl⟩ | ⟨_, h3⟩
      · cases hown
      · exact st.ro b c e h3
    · intro b L' hb
      by_cases e : b = s0.n + d.num
      · right; omega
      · rw [hmo _ e] at hb; exact st.mu_new b L' hb
  refine ⟨μ.put (s0.n + d.num) L, by simpa using I.size, I.hds, ?_, ?_, I.run, ?_, hrel, hstep, I.bn, ?_, I.TB, I.pendF, ?_, I.pendU, ?_⟩
  · intro e he hl
    rcases (hset _).1 hl with h1 | h1
    · have := hD.inj (show e ∈ ds by rw [I.hds]; simp [he]) (I.mem hd) h1
      subst this
      obtain ⟨l, m, hlm⟩ := List.append_of_mem hd
      obtain ⟨l2, m2, hlm2⟩ := List.append_of_mem he
      have hds : ds = (l ++ e :: m ++ l2) ++ e :: m2 := by rw [I.hds, hlm, hlm2]; simp
      exact (hD.ahead hds).idx e (by simp) rfl
    · exact I.nr e he h1
  · intro e he hl j hj
    rcases (hset _).1 hl with h1 | h1
    · have := hD.inj he (I.mem hd) h1
      subst this
      exact (hset _).2 (.inr (ha j hj))
    · exact (hset _).2 (.inr (I.closed e he h1 j hj))
  · rw [mixE_put hD (fun e he => I.mem he) hd hls hu hT]
    exact (I.env.mono hle).put hdn (hR _ _ hle hms hget).2
  · intro e he hl
    exact I.lights e he fun h => hl ((hset _).2 (.inr h))
  · intro p hp' hl
    have h1 : p.2.1 ≠ s0.n + d.num := by
      intro e
      have := I.pendId hD hp' hob e
      rw [this] at hl
      exact hl ((hset _).2 (.inl rfl))
    rw [hmo _ h1]
    exact I.pendM p hp' fun h => hl ((hset _).2 (.inr h))
  · intro e he hal'
    have h1 := I.restF e he hal'
    have hne : s0.n + e.num ≠ s0.n + d.num := by
      intro h
      have hee : e = d := hD.num_inj (by rw [I.hds]; simp [he]) (I.mem hd) hal' hal (by omega)
      subst hee
      obtain ⟨l, m, hlm⟩ := List.append_of_mem hd
      obtain ⟨l2, m2, hlm2⟩ := List.append_of_mem he
      have hds : ds = (l ++ e :: m ++ l2) ++ e :: m2 := by rw [I.hds, hlm, hlm2]; simp
      exact (hD.ahead hds).idx e (by simp) rfl
    exact ⟨h1.1, by rw [hmo _ hne]; exact h1.2⟩

end
end Go.Ab
