/- A region that draws its order: the whole of it. -/
import Derived.Test.YtdhiacdfblakcaaAbO
namespace Go.Ab
open Go

theorem aalloc_own {t : Env} {op : AOp} {ob : AObj} {f : Nat → Value} (h : aalloc t op = some (ob, f)) : ob.own = true := by
  cases op <;> simp only [aalloc] at h <;> (try (simp at h; done))
  · cases h; rfl
  · cases h; rfl
  · split at h
    · split at h <;> cases h; rfl
    · cases h
  · simp only [Option.map_eq_some_iff] at h
    obtain ⟨c, _, h⟩ := h
    cases h; rfl

section
variable {P : Program} {nt : Nat} {ops : Array Oper} {ds : List DIns} {na : Nat} {μ0 : Mu} {s0 : St} {w0 : World} {T0 : Env} {K : Env → St → Prop}
  {listed : Array Bool} {a : Act} {w : World} {pre rest r : List DIns} {T : Env} {B : St} {pend : Pend} {reads : Reads} {μ : Mu} {d : DIns}

theorem mixE_snoc (hpre : ∀ e ∈ pre, ∀ x, e.ins.dst = some x → d.ins.dst ≠ some x) (hTB : ∀ x, (∀ e ∈ pre, e.ins.dst ≠ some x) → T x = T0 x) (hu : ¬ lst listed d.idx) (v : Value) :
    mixE T0 (putO T d.ins.dst v) (pre ++ [d]) listed = mixE T0 T pre listed := by
  have hu' : listed.getD d.idx false = false := by simpa [lst] using hu
  funext x
  unfold mixE
  rw [List.any_append]
  simp only [List.any_cons, List.any_nil, Bool.or_false, hu', Bool.not_false, Bool.and_true]
  by_cases hx : d.ins.dst = some x
  · have hb : (d.ins.dst == some x) = true := by simpa using hx
    rw [hb, Bool.or_true, if_pos rfl]
    split
    · rfl
    · exact (hTB x fun e he h => hpre e he x h hx).symm
  · have hb : (d.ins.dst == some x) = false := by simpa using hx
    rw [hb, Bool.or_false, putO_ne hx]

/-- The first of what is left is reckoned ahead. -/
theorem DInv.absorb (hD : DOk P nt ops ds na) (I : DInv P nt ops ds na μ0 s0 w0 T0 K listed a w pre (d :: r) T B pend reads μ) {v : Value} {pend' : Pend} {reads' : Reads}
    (hp : pend' = pend ∨ ∃ ob, pend' = (d.idx, s0.n + d.num, ob) :: pend ∧ ob.own = true ∧ allocD d = true) (hr : ∀ x ∈ reads, x ∈ reads')
    (hok : awanted T d.ins.guard = true → d.ins.op.kind ≠ .heavy ∧ (d.ins.op.kind = .pure → apure T d.ins.op = some v) ∧ (d.ins.op.kind = .read → aread T B d.ins.op = some v ∧ (d.num ≠ 0 → (d.idx, T, d.ins.op, v) ∈ reads')) ∧
      (d.ins.op.kind = .alloc → ∃ ob f, aalloc T d.ins.op = some (ob, f) ∧ (d.idx, s0.n + d.num, ob) ∈ pend' ∧ v = f (s0.n + d.num)))
    (hno : awanted T d.ins.guard = false → v = undefV ∧ pend' = pend)
    (hrun : adraw P s0.n r (putO T d.ins.dst v) B pend' reads' K) :
    DInv P nt ops ds na μ0 s0 w0 T0 K listed a w (pre ++ [d]) r (putO T d.ins.dst v) B pend' reads' μ := by
  have A := hD.ahead I.hds
  have hu : ¬ lst listed d.idx := I.nr d (by simp)
  have hcur : cur B pend' listed = cur B pend listed := by
    rcases hp with rfl | ⟨ob, rfl, _⟩
    · rfl
    · unfold cur
      have : listed.getD d.idx false = false := by simpa [lst] using hu
      rw [List.filter_cons]
      simp [this]
  have hpe : ∀ p ∈ pend', p ∈ pend ∨ (p.1 = d.idx ∧ p.2.1 = s0.n + d.num ∧ p.2.2.own = true ∧ allocD d = true) := by
    intro p hp'
    rcases hp with rfl | ⟨ob, rfl, h1, h2⟩
    · exact .inl hp'
    · rcases List.mem_cons.1 hp' with rfl | h3
      · exact .inr ⟨rfl, rfl, h1, h2⟩
      · exact .inl h3
  have hpsub : ∀ p ∈ pend, p ∈ pend' := by
    intro p hp'
    rcases hp with rfl | ⟨ob, rfl, _⟩
    · exact hp'
    · simp [hp']
  refine ⟨I.size, by rw [I.hds]; simp, fun e he => I.nr e (by simp [he]), I.closed, hrun, ?_, by rw [hcur]; exact I.rel, by rw [hcur]; exact I.step, I.bn, ?_, ?_, ?_, ?_, ?_, fun e he => I.restF e (by simp [he])⟩
  · rw [mixE_snoc A.once I.TB hu]; exact I.env
  · intro e he hl
    rcases List.mem_append.1 he with h1 | h1
    · obtain ⟨u, hu1, hw1, hw2⟩ := I.lights e h1 hl
      have hne : ∀ x, e.ins.dst = some x → putO T d.ins.dst v x = T x := fun x hx => putO_ne (A.once e h1 x hx)
      refine ⟨u, ?_, ?_, fun hg => ⟨fun x hx => by rw [hne x hx]; exact (hw2 hg).1 x hx, fun p hp' => ?_⟩⟩
      · intro x hx
        obtain ⟨k1, k2⟩ := hu1 x hx
        refine ⟨?_, fun h => k2 fun e' he' => h e' (by simp [he'])⟩
        intro e' he' hi' hde'
        rcases List.mem_append.1 he' with h2 | h2
        · rw [putO_ne (A.once e' h2 x hde')]
          exact k1 e' h2 hi' hde'
        · simp at h2; subst h2
          refine .inr ⟨A.late e h1 x hde' hx, k2 fun e'' h3 h4 h5 => A.once e'' h3 x h5 hde'⟩
      · intro hg
        obtain ⟨g0, g1, g2, g3⟩ := hw1 hg
        refine ⟨g0, ?_, ?_, ?_⟩
        · intro hk
          obtain ⟨v1, h2, h3⟩ := g1 hk
          exact ⟨v1, h2, fun x hx => by rw [hne x hx]; exact h3 x hx⟩
        · intro hk
          obtain ⟨v1, h2, h3, h4⟩ := g2 hk
          exact ⟨v1, h2, fun h0 => hr _ (h3 h0), fun x hx => by rw [hne x hx]; exact h4 x hx⟩
        · intro hk
          obtain ⟨ob, f, h2, h3, h4⟩ := g3 hk
          exact ⟨ob, f, h2, hpsub _ h3, fun x hx => by rw [hne x hx]; exact h4 x hx⟩
      · rcases hpe p hp' with h2 | ⟨h2, _⟩
        · exact (hw2 hg).2 p h2
        · rw [h2]; exact fun h => A.idx e h1 h.symm
    · simp at h1; subst h1
      refine ⟨T, ?_, ?_, fun hg => ⟨fun x hx => by rw [putO_eq hx]; exact (hno hg).1, fun p hp' => ?_⟩⟩
      · intro x hx
        refine ⟨?_, fun h => I.TB x fun e' he' => h e' (by simp [he']) (A.idx e' he')⟩
        intro e' he' hi' hde'
        rcases List.mem_append.1 he' with h2 | h2
        · exact .inl ⟨A.reads e' h2 x hde' hx, (putO_ne (A.once e' h2 x hde')).symm⟩
        · simp at h2; subst h2; exact absurd rfl hi'
      · intro hg
        obtain ⟨g0, g1, g2, g3⟩ := hok hg
        refine ⟨g0, fun hk => ⟨v, g1 hk, fun x hx => putO_eq hx⟩, fun hk => ⟨v, (g2 hk).1, (g2 hk).2, fun x hx => putO_eq hx⟩, fun hk => ?_⟩
        obtain ⟨ob, f, h2, h3, h4⟩ := g3 hk
        exact ⟨ob, f, h2, h3, fun x hx => by rw [putO_eq hx, h4]⟩
      · rw [(hno hg).2] at hp'
        obtain ⟨⟨e', he', k1, _⟩, _⟩ := I.pendF p hp'
        exact fun h => A.idx e' he' (k1.trans h)
  · intro x hx
    rw [putO_ne (hx d (by simp))]
    exact I.TB x fun e he => hx e (by simp [he])
  · intro p hp'
    rcases hpe p hp' with h1 | ⟨h1, h2, h3, h4⟩
    · obtain ⟨⟨e, he, k1⟩, k2⟩ := I.pendF p h1
      exact ⟨⟨e, by simp [he], k1⟩, k2⟩
    · exact ⟨⟨d, by simp, h1.symm, h4, h2⟩, h3, by rw [h2]; exact (I.restF d (by simp) h4).1⟩
  · intro p hp' hl
    rcases hpe p hp' with h1 | ⟨h1, h2, h3, h4⟩
    · exact I.pendM p h1 hl
    · rw [h2]; exact (I.restF d (by simp) h4).2
  · intro p hp1 q hq1 hpq
    have hnot : ∀ p ∈ pend, p.1 ≠ d.idx := by
      intro p hp' h
      obtain ⟨⟨e, he, k1, _⟩, _⟩ := I.pendF p hp'
      exact A.idx e he (k1.trans h)
    rcases hp with rfl | ⟨ob, rfl, h1, h2⟩
    · exact I.pendU p hp1 q hq1 hpq
    · rcases List.mem_cons.1 hp1 with rfl | h3 <;> rcases List.mem_cons.1 hq1 with rfl | h4
      · rfl
      · exact absurd hpq.symm (hnot q h4)
      · exact absurd hpq (hnot p h3)
      · exact I.pendU p h3 q h4 hpq

/-- All that can be reckoned ahead has been. -/
theorem DInv.advance (hD : DOk P nt ops ds na) : ∀ (rest pre : List DIns) (T : Env) (pend : Pend) (reads : Reads), DInv P nt ops ds na μ0 s0 w0 T0 K listed a w pre rest T B pend reads μ →
    ∃ pre' rest' T' pend' reads', DInv P nt ops ds na μ0 s0 w0 T0 K listed a w pre' rest' T' B pend' reads' μ ∧
      (rest' = [] ∨ ∃ d r, rest' = d :: r ∧ d.ins.op.kind = .heavy ∧ awanted T' d.ins.guard = true)
  | [], pre, T, pend, reads, I => ⟨pre, [], T, pend, reads, I, .inl rfl⟩
  | d :: r, pre, T, pend, reads, I => by
    have hrun := I.run
    simp only [adraw] at hrun
    by_cases hw : awanted T d.ins.guard = true
    · rw [if_pos hw] at hrun
      cases hk : d.ins.op.kind with
      | heavy => exact ⟨pre, d :: r, T, pend, reads, I, .inr ⟨d, r, rfl, hk, hw⟩⟩
      | pure =>
        rw [hk] at hrun
        simp only at hrun
        cases hv : apure T d.ins.op with
        | none => rw [hv] at hrun; exact hrun.elim
        | some v =>
          rw [hv] at hrun
          exact advance hD r (pre ++ [d]) _ _ _ (I.absorb hD (v := v) (.inl rfl) (fun _ h => h) (fun _ => ⟨by rw [hk]; simp, fun _ => hv, (fun h => by rw [hk] at h; cases h), (fun h => by rw [hk] at h; cases h)⟩) (fun h => by rw [hw] at h; cases h) hrun)
      | read =>
        rw [hk] at hrun
        simp only at hrun
        cases hv : aread T B d.ins.op with
        | none => rw [hv] at hrun; exact hrun.elim
        | some v =>
          rw [hv] at hrun
          exact advance hD r (pre ++ [d]) _ _ _ (I.absorb hD (v := v) (.inl rfl) (fun _ h => by split <;> simp [h]) (fun _ => ⟨by rw [hk]; simp, (fun h => by rw [hk] at h; cases h), fun _ => ⟨hv, fun h0 => by rw [if_neg h0]; simp⟩, (fun h => by rw [hk] at h; cases h)⟩) (fun h => by rw [hw] at h; cases h) hrun)
      | alloc =>
        rw [hk] at hrun
        simp only at hrun
        cases hv : aalloc T d.ins.op with
        | none => rw [hv] at hrun; exact hrun.elim
        | some p =>
          obtain ⟨ob, f⟩ := p
          rw [hv] at hrun
          exact advance hD r (pre ++ [d]) _ _ _ (I.absorb hD (v := f (s0.n + d.num)) (.inr ⟨ob, rfl, aalloc_own hv, by simp [allocD, hk]⟩) (fun _ h => h)
            (fun _ => ⟨by rw [hk]; simp, (fun h => by rw [hk] at h; cases h), (fun h => by rw [hk] at h; cases h), fun _ => ⟨ob, f, hv, by simp, rfl⟩⟩) (fun h => by rw [hw] at h; cases h) hrun)
    · rw [if_neg hw] at hrun
      exact advance hD r (pre ++ [d]) _ _ _ (I.absorb hD (v := undefV) (.inl rfl) (fun _ h => h) (fun h => absurd h hw) (fun _ => ⟨rfl, rfl⟩) hrun)

theorem countP_lt {α : Type} {p q : α → Bool} : ∀ {l : List α}, (∀ e ∈ l, q e = true → p e = true) → (∃ d ∈ l, p d = true ∧ q d = false) → l.countP q < l.countP p
  | [], _, ⟨d, h, _⟩ => by simp at h
  | x :: l, h, ⟨d, hd, h1, h2⟩ => by
    have hle : l.countP q ≤ l.countP p := List.countP_mono_left fun e he hq => h e (by simp [he]) hq
    rw [List.countP_cons, List.countP_cons]
    rcases List.mem_cons.1 hd with rfl | hd'
    · simp [h1, h2]; omega
    · have ih := countP_lt (l := l) (fun e he => h e (by simp [he])) ⟨d, hd', h1, h2⟩
      have hx := h x (by simp)
      cases hq : q x with
      | true => simp [hx hq]; omega
      | false => simp; omega

def open_ (listed : Array Bool) (ds : List DIns) : Nat := ds.countP fun d => !listed.getD d.idx false

theorem open_set (hls : d.idx < listed.size) (hd : d ∈ ds) (hu : ¬ lst listed d.idx) : open_ (listed.setIfInBounds d.idx true) ds < open_ listed ds := by
  refine countP_lt ?_ ⟨d, hd, by simpa [lst] using hu, ?_⟩
  · intro e _ hq
    simp only [Bool.not_eq_true'] at hq ⊢
    cases h : listed.getD e.idx false with
    | false => rfl
    | true =>
      have := (lst_set (listed := listed) (i := d.idx) (j := e.idx) hls).2 (.inr h)
      unfold lst at this; rw [this] at hq; cases hq
  · have := (lst_set (listed := listed) (i := d.idx) (j := d.idx) hls).2 (.inl rfl)
    unfold lst at this; rw [this]; rfl

theorem mem_ready {i : Nat} : i ∈ Region.ready .any ops listed ↔ i < ops.size ∧ listed.getD i true = false ∧ ∃ o, ops[i]? = some o ∧ ∀ p ∈ preds o, lst listed p := by
  unfold Region.ready
  simp only [List.mem_filter, List.mem_range, Bool.and_eq_true, Bool.not_eq_true']
  constructor
  · rintro ⟨h1, h2, h3⟩
    refine ⟨h1, h2, ops[i], Array.getElem?_eq_getElem h1, ?_⟩
    rw [Array.getElem?_eq_getElem h1] at h3
    simp only [Option.map_some, Option.getD_some] at h3
    intro p hp
    unfold preds at hp
    obtain ⟨e, he, rfl⟩ := List.mem_map.1 hp
    obtain ⟨he1, he2⟩ := List.mem_filter.1 he
    have := Array.all_eq_true'.1 h3 e (by simpa using he1)
    simp only [he2, Bool.not_true, Bool.false_or] at this
    exact this
  · rintro ⟨h1, h2, o, ho, h3⟩
    refine ⟨h1, h2, ?_⟩
    rw [ho]
    simp only [Option.map_some, Option.getD_some]
    refine Array.all_eq_true'.2 fun e he => ?_
    cases hb : Region.binds .any e with
    | false => rfl
    | true =>
      simp only [Bool.not_true, Bool.false_or]
      exact h3 e.on (List.mem_map.2 ⟨e, List.mem_filter.2 ⟨by simpa using he, hb⟩, rfl⟩)

theorem draw_go (hD : DOk P nt ops ds na) {Q : Exit → Act → World → Prop}
    (hQ : ∀ a' w', (∃ μ' t' s', EnvR μ' nt t' a' ∧ Rel μ' s' w' ∧ Step μ0 s0 w0 μ' s' w' ∧ K t' s') → Q .normal a' w') :
    ∀ (fuel : Nat) (listed : Array Bool) (a : Act) (w : World) (pre rest : List DIns) (T : Env) (B : St) (pend : Pend) (reads : Reads) (μ : Mu),
      DInv P nt ops ds na μ0 s0 w0 T0 K listed a w pre rest T B pend reads μ → (rest = [] ∨ ∃ d r, rest = d :: r ∧ d.ins.op.kind = .heavy ∧ awanted T d.ins.guard = true) →
      open_ listed ds ≤ fuel → wpAny P .any ops Q fuel listed a w := by
  -- nothing is ready: all is done
  have done : ∀ (listed : Array Bool) (a : Act) (w : World) (pre rest : List DIns) (T : Env) (B : St) (pend : Pend) (reads : Reads) (μ : Mu),
      DInv P nt ops ds na μ0 s0 w0 T0 K listed a w pre rest T B pend reads μ → Region.ready .any ops listed = [] → Q .normal a w := by
    intro listed a w pre rest T B pend reads μ I hr
    have hall : ∀ (n : Nat) (l m : List DIns), l.length = n → ds = l ++ m → ∀ d ∈ l, lst listed d.idx := by
      intro n
      induction n with
      | zero => intro l m hn _ d hd; rw [List.length_eq_zero_iff.1 hn] at hd; simp at hd
      | succ n ih =>
        intro l m hn hm d hd
        rcases List.eq_nil_or_concat l with rfl | ⟨l', x, rfl⟩
        · simp at hd
        · have hl := ih l' (x :: m) (by simpa using hn) (by rw [hm]; simp)
          rcases List.mem_append.1 (by simpa using hd : d ∈ l' ++ [x]) with h1 | h1
          · exact hl d h1
          · simp at h1; subst h1
            have A := hD.ahead (l := l') (m := m) (d := d) (by rw [hm]; simp)
            obtain ⟨o, ho, _⟩ := hD.ins d (by rw [hm]; simp)
            have hlt : d.idx < ops.size := (Array.getElem?_eq_some_iff.1 ho).1
            apply Classical.byContradiction
            intro hu
            have : d.idx ∈ Region.ready .any ops listed := by
              refine mem_ready.2 ⟨hlt, ?_, o, ho, ?_⟩
              · have : d.idx < listed.size := by rw [I.size]; exact hlt
                unfold lst at hu
                simp only [Array.getD_eq_getD_getElem?, Array.getElem?_eq_getElem this, Option.getD_some] at hu ⊢
                simpa using hu
              · intro p hp
                obtain ⟨e, he, rfl⟩ := A.topo o ho p hp
                exact hl e he
            rw [hr] at this; cases this
    have hds := hall ds.length ds [] rfl (by simp)
    have hrest : rest = [] := by
      cases rest with
      | nil => rfl
      | cons d r => exact absurd (hds d (by rw [I.hds]; simp)) (I.nr d (by simp))
    subst hrest
    have hmix : mixE T0 T pre listed = T := by
      funext x
      unfold mixE
      rw [if_neg]
      simp only [List.any_eq_true, Bool.and_eq_true, Bool.not_eq_true', not_exists, not_and]
      intro e he _
      have := hds e (I.mem he)
      unfold lst at this; rw [this]; simp
    have hcur : cur B pend listed = addP B pend := by
      unfold cur
      rw [List.filter_eq_self.2]
      intro p hp
      obtain ⟨⟨e, he, h1, _⟩, _⟩ := I.pendF p hp
      rw [← h1]; exact hds e (I.mem he)
    have h1 := I.env
    have h2 := I.rel
    have h3 := I.step
    have h4 := I.run
    rw [hmix] at h1
    rw [hcur] at h2 h3
    exact hQ a w ⟨μ, T, _, h1, h2, h3, h4⟩
  intro fuel
  induction fuel with
  | zero =>
    intro listed a w pre rest T B pend reads μ I hh hf
    have hnone : Region.ready .any ops listed = [] := by
      cases hr : Region.ready .any ops listed with
      | nil => rfl
      | cons i l =>
        have hi : i ∈ Region.ready .any ops listed := by rw [hr]; simp
        obtain ⟨h1, h2, _⟩ := mem_ready.1 hi
        obtain ⟨d, hd, rfl⟩ := hD.all i h1
        have hz : open_ listed ds = 0 := by omega
        unfold open_ at hz
        rw [List.countP_eq_zero] at hz
        have := hz d hd
        have hsz : d.idx < listed.size := by rw [I.size]; exact h1
        simp only [Array.getD_eq_getD_getElem?, Array.getElem?_eq_getElem hsz, Option.getD_some] at this h2
        rw [h2] at this; simp at this
    exact ⟨hnone, done _ _ _ _ _ _ _ _ _ _ I hnone⟩
  | succ fuel ih =>
    intro listed a w pre rest T B pend reads μ I hh hf
    refine ⟨done _ _ _ _ _ _ _ _ _ _ I, ?_⟩
    intro i hi
    obtain ⟨h1, h2, o, ho, h3⟩ := mem_ready.1 hi
    obtain ⟨d, hd, rfl⟩ := hD.all i h1
    have hls : d.idx < listed.size := by rw [I.size]; exact h1
    have hu : ¬ lst listed d.idx := by
      unfold lst
      simp only [Array.getD_eq_getD_getElem?, Array.getElem?_eq_getElem hls, Option.getD_some] at h2 ⊢
      rw [h2]; simp
    obtain ⟨l, m, hlm⟩ := List.append_of_mem hd
    have A := hD.ahead hlm
    have ha : ∀ j ∈ d.anc, lst listed j := by
      intro j hj
      rcases A.anc o ho j hj with h4 | ⟨e, he, h4, h5⟩
      · exact h3 j h4
      · exact I.closed e (by rw [hlm]; simp [he]) (h3 _ h4) j h5
    obtain ⟨o', ho', hci⟩ := hD.ins d hd
    rw [ho] at ho'; cases ho'
    obtain ⟨c1, c2, c3, c4⟩ := compI_spec hci
    have c4' : ∀ x, d.ins.dst = some x → x < nt := fun x hx => c4 x (c3.trans hx)
    have hopen := open_set (ds := ds) hls hd hu
    rw [I.hds] at hd
    unfold wpOp
    rw [ho]
    simp only
    rw [wanted_spec c2 I.env]
    rcases List.mem_append.1 hd with hp | hr
    · -- reckoned ahead already
      obtain ⟨u, hu1, hw1, hw2⟩ := I.lights d hp hu
      have hsl := I.slots hD hp hu ha hu1
      obtain ⟨k1, k2⟩ := AIns.cong (t := mixE T0 T pre listed) (u := u) hsl
      rw [k1]
      have k3 := op_cong (P := P) (s := B) (K := fun _ _ => True) k2
      by_cases hw : awanted u d.ins.guard = true
      · rw [if_pos hw]
        left
        obtain ⟨g0, g1, g2, g3⟩ := hw1 hw
        have hnp : allocD d = false → ∀ p ∈ pend, p.1 ≠ d.idx := by
          intro hal p hp' h
          obtain ⟨⟨e, he, q1, q2, _⟩, _⟩ := I.pendF p hp'
          have := hD.inj (I.mem he) (I.mem hp) (q1.trans h)
          subst this; rw [hal] at q2; cases q2
        cases hk : d.ins.op.kind with
        | heavy => exact absurd hk g0
        | pure =>
          obtain ⟨v, hv, hT⟩ := g1 hk
          obtain ⟨v', e1, e2⟩ := pure_sound (P := P) (w := w) c1 hk (k3.1.trans hv) I.env
          simp only [Oper.wp, e1, Oper.upon]
          rw [c3]
          exact ih _ _ _ _ _ _ _ _ _ _ (I.light hD hp hu ha h1 (hnp (by simp [allocD, hk])) hT c4' e2) hh (by omega)
        | read =>
          obtain ⟨v, hv, _, hT⟩ := g2 hk
          have hsub : Rel μ B w := I.rel.sub (by rw [cur_n]; exact Nat.le_refl _) fun b ob hb => (I.cur_H hD b ob).2 (.inr hb)
          obtain ⟨v', e1, e2⟩ := read_sound (P := P) (w := w) c1 hk (k3.2.1.trans hv) I.env hsub
          simp only [Oper.wp, e1, Oper.upon]
          rw [c3]
          exact ih _ _ _ _ _ _ _ _ _ _ (I.light hD hp hu ha h1 (hnp (by simp [allocD, hk])) hT c4' e2) hh (by omega)
        | alloc =>
          obtain ⟨ob, f, hv, hpd, hT⟩ := g3 hk
          obtain ⟨hown, L, obj, v', hL, e1, e2⟩ := alloc_sound (P := P) (w := w) c1 hk (k3.2.2.1.trans hv) I.env
          simp only [Oper.wp, e1, Oper.upon]
          rw [c3]
          have hal : allocD d = true := by simp [allocD, hk]
          obtain ⟨μ', I'⟩ := I.laid hD hp hu ha h1 hal hpd (hD.num d (I.mem hp) hal) hT c4' hL (fun ν w' hν hb hw => e2 ν w' _ hν hb hw)
          exact ih _ _ _ _ _ _ _ _ _ _ I' hh (by omega)
      · rw [if_neg hw]
        have hwf : awanted u d.ins.guard = false := by simpa using hw
        rw [c3]
        exact ih _ _ _ _ _ _ _ _ _ _ (I.light hD hp hu ha h1 (hw2 hwf).2 (hw2 hwf).1 c4' (VR.undefR μ)) hh (by omega)
    · -- a heavy one
      rcases hh with rfl | ⟨h, r, rfl, hk, hwt⟩
      · cases hr
      · have hdh : d = h := by
          rcases List.mem_cons.1 hr with h4 | h4
          · exact h4
          · exfalso
            obtain ⟨l2, m2, hlm2⟩ := List.append_of_mem h4
            have A2 := hD.ahead (l := pre ++ h :: l2) (m := m2) (d := d) (by rw [I.hds, hlm2]; simp)
            exact I.nr h (by simp) (ha _ (A2.heavy h (by simp) (by simp [heavyD, hk])))
        subst hdh
        have hsl := I.slotsH hD ha
        obtain ⟨k1, k2⟩ := AIns.cong (t := mixE T0 T pre listed) (u := T) hsl
        rw [k1, if_pos hwt]
        left
        have hrun := I.run
        simp only [adraw] at hrun
        rw [if_pos hwt, hk] at hrun
        simp only at hrun
        have A3 := hD.ahead I.hds
        have hXsub : Rel μ (addP B (pend.filter fun p => d.merge.contains p.1)) w := by
          refine I.rel.sub (by rw [cur_n, addP_n]; exact Nat.le_refl _) fun b ob hb => ?_
          rw [addP_H, List.find?_filter] at hb
          rw [I.cur_H hD]
          split at hb
          · rename_i x hx
            cases hb
            have h1 := List.find?_some hx
            have h2 := List.mem_of_find?_eq_some hx
            simp only [decide_eq_true_eq] at h1
            obtain ⟨i, b', o'⟩ := x
            obtain ⟨h5, h6⟩ := h1
            have : b' = b := by simpa using h6
            subst this
            exact .inl ⟨i, h2, ha _ (A3.merge i (by simpa using h5))⟩
          · exact .inr hb
        have hheavy := hrun
        rw [← (op_cong (P := P) k2).2.2.2] at hheavy
        refine heavy_sound c1 hk hheavy I.env hXsub ?_
        intro μ' s' w' v v' st hr' hv hKv
        obtain ⟨hre, hrun'⟩ := hKv
        rw [c3]
        have I' := I.next hD ha h1 c4' st hr' hv rfl (by simp [heavyD, hk]) (reads' := reads.filter fun x => !d.anc.contains x.1) (fun x hx hna => by
          have hx' : x ∈ reads.filter fun x => !d.anc.contains x.1 := List.mem_filter.2 ⟨hx, by simpa using hna⟩
          exact ⟨hx', hre x hx'⟩) hrun'
        obtain ⟨pre', rest', T', pend', reads', I'', hh'⟩ := DInv.advance hD _ _ _ _ _ I'
        exact ih _ _ _ _ _ _ _ _ _ _ I'' hh' (by omega)

end
end Go.Ab
