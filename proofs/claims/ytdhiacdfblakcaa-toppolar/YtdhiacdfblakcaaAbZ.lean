/- A call that was reckoned in a small heap of its own comes to the same in every heap that holds that one under other names. -/
import Derived.Test.YtdhiacdfblakcaaAbY
namespace Go.Ab
open Go

def renV (ρ : Nat → Nat) : Value → Value
  | .pointer (some ⟨b, o, none⟩) => .pointer (some ⟨ρ b, o, none⟩)
  | .slice (some ⟨b, o, none⟩) n c => .slice (some ⟨ρ b, o, none⟩) n c
  | .map (some b) => .map (some (ρ b))
  | v => v

def renT (ρ : Nat → Nat) : Value → Value
  | .tuple l => .tuple (l.toList.map (renV ρ)).toArray
  | v => renV ρ v

/-- Values with no more than one address, and that below n. -/
def flat1 (n : Nat) : Value → Bool
  | .pointer (some ⟨b, _, none⟩) => decide (b < n)
  | .slice (some ⟨b, _, none⟩) _ _ => decide (b < n)
  | .map (some b) => decide (b < n)
  | v => plain1 v

def flatT (n : Nat) : Value → Bool
  | .tuple l => l.toList.all (flat1 n)
  | v => flat1 n v

def renO (ρ : Nat → Nat) : AObj → AObj
  | .cells c e x => .cells (c.map (renV ρ)) e x
  | .ro c e => .ro (c.map (renV ρ)) e
  | o => o

def flatO (n : Nat) : AObj → Bool
  | .cells c _ _ => c.all (flat1 n)
  | .ro c _ => c.all (flat1 n)
  | _ => false

theorem renO_own (ρ : Nat → Nat) (o : AObj) : (renO ρ o).own = o.own := by cases o <;> rfl

theorem renV_congr {ρ ρ' : Nat → Nat} {n : Nat} (h : ∀ i, i < n → ρ i = ρ' i) : ∀ {v : Value}, flat1 n v = true → renV ρ v = renV ρ' v := by
  intro v hv
  unfold renV
  split
  · simp only [flat1, decide_eq_true_eq] at hv; simp only [h _ hv]
  · simp only [flat1, decide_eq_true_eq] at hv; simp only [h _ hv]
  · simp only [flat1, decide_eq_true_eq] at hv; simp only [h _ hv]
  · rfl

theorem plain_ren (ρ : Nat → Nat) : ∀ {v : Value}, plain1 v = true → renV ρ v = v := by
  intro v hv
  unfold renV
  split <;> first | (simp [plain1] at hv; done) | rfl

theorem VR.plain_eq {μ : Mu} {v v' : Value} (hf : plain1 v = true) (h : VR μ v v') : v' = v := by
  cases h <;> first | rfl | (simp [plain1] at hf; done) | skip
  rename_i fn f c f' c' h₁ h₂
  simp only [plain1, Bool.and_eq_true, beq_iff_eq, Array.size_eq_zero_iff] at hf
  obtain ⟨rfl, rfl⟩ := hf
  have e : ∀ a : Array Value, VRs μ ([] : List Value) a.toList → a = #[] := by
    intro a ha
    apply Array.toList_inj.1
    cases hx : a.toList with
    | nil => rfl
    | cons x l => rw [hx] at ha; cases ha
  rw [e _ h₁, e _ h₂]

/-- Out of the names of the greater heap. -/
theorem VR.unren {μ μ₀ : Mu} {ρ : Nat → Nat} {n : Nat} (h : ∀ i L, i < n → μ (ρ i) = some L → μ₀ i = some L) {v v' : Value} (hf : flat1 n v = true) (hv : VR μ (renV ρ v) v') : VR μ₀ v v' := by
  unfold flat1 at hf
  split at hf
  · simp only [decide_eq_true_eq] at hf
    simp only [renV] at hv
    cases hv with | ptr hb => exact .ptr (h _ _ hf hb)
  · simp only [decide_eq_true_eq] at hf
    simp only [renV] at hv
    cases hv with | slice hb hz hs hl hc hc' hA => exact .slice (h _ _ hf hb) hz hs hl hc hc' hA
  · simp only [decide_eq_true_eq] at hf
    simp only [renV] at hv
    cases hv with | map hb => exact .map (h _ _ hf hb)
  · rw [plain_ren ρ hf] at hv
    rw [hv.plain_eq hf]
    exact VR.of_plain1 μ₀ v hf

/-- Into the names of the greater heap. -/
theorem VR.reren {μ μ₀ : Mu} {ρ : Nat → Nat} {n : Nat} (h : ∀ i L, μ₀ i = some L → μ (ρ i) = some L) {v v' : Value} (hf : flat1 n v = true) (hv : VR μ₀ v v') : VR μ (renV ρ v) v' := by
  unfold flat1 at hf
  split at hf
  · cases hv with | ptr hb => exact .ptr (h _ _ hb)
  · cases hv with | slice hb hz hs hl hc hc' hA => exact .slice (h _ _ hb) hz hs hl hc hc' hA
  · cases hv with | map hb => exact .map (h _ _ hb)
  · rw [plain_ren ρ hf, hv.plain_eq hf]
    exact VR.of_plain1 μ v hf

theorem VRs.unren {μ μ₀ : Mu} {ρ : Nat → Nat} {n : Nat} (h : ∀ i L, i < n → μ (ρ i) = some L → μ₀ i = some L) : ∀ {l l' : List Value}, l.all (flat1 n) = true → VRs μ (l.map (renV ρ)) l' → VRs μ₀ l l'
  | [], _, _, hv => by cases hv; exact .nil
  | v :: l, _, hf, hv => by
    simp only [List.all_cons, Bool.and_eq_true] at hf
    cases hv with | cons hv ht => exact .cons (hv.unren h hf.1) (VRs.unren h hf.2 ht)

theorem VRs.reren {μ μ₀ : Mu} {ρ : Nat → Nat} {n : Nat} (h : ∀ i L, μ₀ i = some L → μ (ρ i) = some L) : ∀ {l l' : List Value}, l.all (flat1 n) = true → VRs μ₀ l l' → VRs μ (l.map (renV ρ)) l'
  | [], _, _, hv => by cases hv; exact .nil
  | v :: l, _, hf, hv => by
    simp only [List.all_cons, Bool.and_eq_true] at hf
    cases hv with | cons hv ht => exact .cons (hv.reren h hf.1) (VRs.reren h hf.2 ht)

theorem VR.rerenT {μ μ₀ : Mu} {ρ : Nat → Nat} {n : Nat} (h : ∀ i L, μ₀ i = some L → μ (ρ i) = some L) {v v' : Value} (hf : flatT n v = true) (hv : VR μ₀ v v') : VR μ (renT ρ v) v' := by
  unfold flatT at hf
  split at hf
  · cases hv with | tuple hl => exact .tuple (by simpa using hl.reren h hf)
  · rename_i hne
    have : renT ρ v = renV ρ v := by
      unfold renT
      split
      · exact absurd rfl (hne _)
      · rfl
    rw [this]; exact hv.reren h hf

theorem ObjR.unren {μ μ₀ : Mu} {ρ : Nat → Nat} {n : Nat} {w : World} {b : Nat} {o : AObj} (h : ∀ i L, i < n → μ (ρ i) = some L → μ₀ i = some L) (hb : b < n) (hf : flatO n o = true) (ho : ObjR μ w (ρ b) (renO ρ o)) : ObjR μ₀ w b o := by
  cases o with
  | cells c e x =>
    obtain ⟨L, h1, h2, h3, h4, cs, e', h5, h6, h7⟩ := ho
    rw [List.length_map] at h2 h7
    exact ⟨L, h _ _ hb h1, h2, h3, h4, cs, e', h5, h6, h7.unren h hf⟩
  | ro c e =>
    obtain ⟨L, h1, h2, h3, h4, cs, e', fr, h5, h6, h7⟩ := ho
    rw [List.length_map] at h2 h7
    exact ⟨L, h _ _ hb h1, h2, h3, h4, cs, e', fr, h5, h6, h7.unren h hf⟩
  | map _ _ => simp [flatO] at hf
  | iter _ _ _ _ => simp [flatO] at hf

theorem ObjR.reren {μ μ₀ : Mu} {ρ : Nat → Nat} {n : Nat} {w : World} {b : Nat} {o : AObj} (h : ∀ i L, μ₀ i = some L → μ (ρ i) = some L) (hf : flatO n o = true) (ho : ObjR μ₀ w b o) : ObjR μ w (ρ b) (renO ρ o) := by
  cases o with
  | cells c e x =>
    obtain ⟨L, h1, h2, h3, h4, cs, e', h5, h6, h7⟩ := ho
    exact ⟨L, h _ _ h1, by rw [List.length_map]; exact h2, h3, h4, cs, e', h5, h6, by rw [List.length_map]; exact h7.reren h hf⟩
  | ro c e =>
    obtain ⟨L, h1, h2, h3, h4, cs, e', fr, h5, h6, h7⟩ := ho
    exact ⟨L, h _ _ h1, by rw [List.length_map]; exact h2, h3, h4, cs, e', fr, h5, h6, by rw [List.length_map]; exact h7.reren h hf⟩
  | map _ _ => simp [flatO] at hf
  | iter _ _ _ _ => simp [flatO] at hf

/-- The names behind: those of the small heap's first blocks are given, the others' follow the greater heap's. -/
def renN (ρ : Nat → Nat) (n₀ n : Nat) (i : Nat) : Nat := if i < n₀ then ρ i else n + (i - n₀)

/-- The greater heap behind the call. -/
structure Glued (ρ : Nat → Nat) (s₀ s₀' s s' : St) : Prop where
  n : s'.n = s.n + (s₀'.n - s₀.n)
  old : ∀ i, i < s₀.n → s'.H (ρ i) = (s₀'.H i).map (renO (renN ρ s₀.n s.n))
  new : ∀ b, s.n ≤ b → s'.H b = (s₀'.H (s₀.n + (b - s.n))).map (renO (renN ρ s₀.n s.n))
  out : ∀ b, b < s.n → (∀ i, i < s₀.n → ρ i ≠ b) → s'.H b = s.H b
  fresh : ∀ b, s.n ≤ b → s.H b = none

open Classical in
theorem Glued.exists (ρ : Nat → Nat) (s₀ s₀' s : St) (hfr : ∀ b, s.n ≤ b → s.H b = none) (hlt : ∀ i, i < s₀.n → ρ i < s.n) (hinj : ∀ i j, i < s₀.n → j < s₀.n → ρ i = ρ j → i = j) : ∃ s', Glued ρ s₀ s₀' s s' := by
  refine ⟨⟨fun b => if h : ∃ i, i < s₀.n ∧ ρ i = b then (s₀'.H h.choose).map (renO (renN ρ s₀.n s.n)) else if s.n ≤ b then (s₀'.H (s₀.n + (b - s.n))).map (renO (renN ρ s₀.n s.n)) else s.H b, s.n + (s₀'.n - s₀.n)⟩, rfl, ?_, ?_, ?_, hfr⟩
  · intro i hi
    have hx : ∃ j, j < s₀.n ∧ ρ j = ρ i := ⟨i, hi, rfl⟩
    simp only
    rw [dif_pos hx]
    have : hx.choose = i := hinj _ _ hx.choose_spec.1 hi hx.choose_spec.2
    rw [this]
  · intro b hb
    simp only
    rw [dif_neg (by rintro ⟨i, hi, rfl⟩; have := hlt i hi; omega), if_pos hb]
  · intro b hb hn
    simp only
    rw [dif_neg (by rintro ⟨i, hi, e⟩; exact hn i hi e), if_neg (by omega)]

theorem Rel.none_at {μ : Mu} {s : St} {w : World} (h : Rel μ s w) {b : Nat} (hb : s.n ≤ b) : s.H b = none := by
  cases e : s.H b with
  | none => rfl
  | some o =>
    obtain ⟨L, hL, _⟩ := (h.obj b o e).lt
    have := h.lt b L hL
    omega

section
variable {P : Program}

/-- What stands in some blocks may be forgotten. -/
theorem ACalls.less {f : FuncId} {args : List Value} {s : St} {K K' : Value → St → Prop} (h : ACalls P f args s K)
    (hk : ∀ v s', K v s' → ∃ s'', s'.n ≤ s''.n ∧ (∀ b o, s''.H b = some o → s'.H b = some o) ∧ K' v s'') : ACalls P f args s K' := by
  refine ⟨h.1, fun μ cargs w hr hv => (h.2 μ cargs w hr hv).mono ?_⟩
  rintro e w' ⟨μ', s', v, v', rfl, st, r, vr, k⟩
  obtain ⟨s'', hn, hs, k'⟩ := hk v s' k
  refine ⟨μ', s'', v, v', rfl, ?_, r.sub hn hs, vr, k'⟩
  refine ⟨st.mu, Nat.le_trans st.n hn, st.os, st.tape, st.output, st.size, st.frame, ?_, ?_, fun b c e hb => st.ro b c e (hs _ _ hb), st.mu_new⟩
  · rintro k hk ⟨b, o, L, h1, h2, h3, h4⟩
    exact st.own k hk ⟨b, o, L, hs _ _ h1, h2, h3, h4⟩
  · intro b hb e
    cases hx : s''.H b with
    | none => rfl
    | some o => have := hs _ _ hx; rw [st.dead b hb e] at this; cases this

/-- A heap has nothing at the numbers that are free. -/
theorem ACalls.fresh {f : FuncId} {args : List Value} {s : St} {K K' : Value → St → Prop} (h : ACalls P f args s K) (hk : ∀ v s', (∀ b, s.n ≤ b → s.H b = none) → K v s' → K' v s') : ACalls P f args s K' :=
  ⟨h.1, fun μ cargs w hr hv => (h.2 μ cargs w hr hv).mono fun _ _ ⟨μ', s', v, v', e, st, r, vr, k⟩ => ⟨μ', s', v, v', e, st, r, vr, hk _ _ (fun _ hb => hr.none_at hb) k⟩⟩

/-- A call that was reckoned in a small heap: in a greater one. -/
theorem ACalls.ren {f : FuncId} {args₀ args : List Value} {s₀ s : St} {K K' : Value → St → Prop} (h : ACalls P f args₀ s₀ K) (ρ : Nat → Nat)
    (hlt : ∀ i, i < s₀.n → ρ i < s.n) (hinj : ∀ i j, i < s₀.n → j < s₀.n → ρ i = ρ j → i = j)
    (hH : ∀ i o, s₀.H i = some o → i < s₀.n ∧ s.H (ρ i) = some (renO ρ o) ∧ flatO s₀.n o = true)
    (hargs : ∀ (μ μ₀ : Mu) l, (∀ i, i < s₀.n → μ₀ i = μ (ρ i)) → VRs μ args l → VRs μ₀ args₀ l)
    (hk : ∀ v s₀', K v s₀' → flatT s₀'.n v = true ∧ (∀ b o, s₀'.H b = some o → flatO s₀'.n o = true) ∧ ∀ s', Glued ρ s₀ s₀' s s' → K' (renT (renN ρ s₀.n s.n) v) s') :
    ACalls P f args s K' := by
  refine ⟨h.1, fun μ cargs w hr hv => ?_⟩
  let μ₀ : Mu := fun i => if i < s₀.n then μ (ρ i) else none
  have hμ₀ : ∀ i, i < s₀.n → μ₀ i = μ (ρ i) := fun i hi => if_pos hi
  have hμ₀' : ∀ i L, μ₀ i = some L → i < s₀.n ∧ μ (ρ i) = some L := by
    intro i L hi
    by_cases e : i < s₀.n
    · rw [hμ₀ i e] at hi; exact ⟨e, hi⟩
    · simp only [μ₀, if_neg e] at hi; cases hi
  have r₀ : Rel μ₀ s₀ w := by
    refine ⟨fun b L hb => (hμ₀' b L hb).1, ?_, ?_⟩
    · intro b o hb
      obtain ⟨h1, h2, h3⟩ := hH b o hb
      exact (hr.obj _ _ h2).unren (fun i L hi hm => by rw [hμ₀ i hi]; exact hm) h1 h3
    · intro b₁ b₂ o₁ o₂ L₁ L₂ hne e₁ e₂ hown m₁ m₂
      obtain ⟨h1, h2, h3⟩ := hH b₁ o₁ e₁
      obtain ⟨k1, k2, k3⟩ := hH b₂ o₂ e₂
      exact hr.disj (ρ b₁) (ρ b₂) _ _ L₁ L₂ (fun e => hne (hinj _ _ h1 k1 e)) h2 k2 (by rw [renO_own]; exact hown) (hμ₀' _ _ m₁).2 (hμ₀' _ _ m₂).2
  have hown₀ : ∀ k, Own μ₀ s₀ k → Own μ s k := by
    rintro k ⟨b, o, L, h1, h2, h3, h4⟩
    obtain ⟨k1, k2, k3⟩ := hH b o h1
    exact ⟨ρ b, _, L, k2, by rw [renO_own]; exact h2, (hμ₀' _ _ h3).2, h4⟩
  refine (h.2 μ₀ cargs w r₀ (hargs μ μ₀ _ hμ₀ hv)).mono ?_
  rintro e w' ⟨μ₀', s₀', v, v', rfl, st, r₀', vr, k⟩
  obtain ⟨fv, fH, fin⟩ := hk v s₀' k
  obtain ⟨s', g⟩ := Glued.exists ρ s₀ s₀' s (fun b hb => hr.none_at hb) hlt hinj
  let ρ' := renN ρ s₀.n s.n
  let μ' : Mu := fun b => if b < s.n then μ b else μ₀' (s₀.n + (b - s.n))
  have hρ_lt : ∀ i, i < s₀.n → ρ' i = ρ i := fun i hi => if_pos hi
  have hρ_ge : ∀ i, ¬ i < s₀.n → ρ' i = s.n + (i - s₀.n) := fun i hi => if_neg hi
  have hm : ∀ i L, μ₀' i = some L → μ' (ρ' i) = some L := by
    intro i L hi
    by_cases e : i < s₀.n
    · rw [hρ_lt i e]
      simp only [μ']
      rw [if_pos (hlt i e)]
      rcases st.mu_new i L hi with h1 | h1
      · exact (hμ₀' _ _ h1).2
      · omega
    · rw [hρ_ge i e]
      simp only [μ']
      rw [if_neg (by omega)]
      have : s₀.n + (s.n + (i - s₀.n) - s.n) = i := by omega
      rw [this]; exact hi
  have hle : μ.le μ' := fun b L hb => by simp only [μ']; rw [if_pos (hr.lt b L hb)]; exact hb
  -- a block of the greater heap: the small one's, or none of its
  have part : ∀ b o, s'.H b = some o → (∃ i o₀, s₀'.H i = some o₀ ∧ o = renO ρ' o₀ ∧ b = ρ' i) ∨ (b < s.n ∧ (∀ i, i < s₀.n → ρ i ≠ b) ∧ s.H b = some o) := by
    intro b o hb
    by_cases e : s.n ≤ b
    · rw [g.new b e, Option.map_eq_some_iff] at hb
      obtain ⟨o₀, h1, h2⟩ := hb
      refine .inl ⟨_, o₀, h1, h2.symm, ?_⟩
      rw [hρ_ge _ (by omega)]; omega
    · by_cases e2 : ∃ i, i < s₀.n ∧ ρ i = b
      · obtain ⟨i, hi, rfl⟩ := e2
        rw [g.old i hi, Option.map_eq_some_iff] at hb
        obtain ⟨o₀, h1, h2⟩ := hb
        exact .inl ⟨i, o₀, h1, h2.symm, (hρ_lt i hi).symm⟩
      · have e3 : ∀ i, i < s₀.n → ρ i ≠ b := fun i hi h => e2 ⟨i, hi, h⟩
        rw [g.out b (by omega) e3] at hb
        exact .inr ⟨by omega, e3, hb⟩
  have place : ∀ i o₀ L, s₀'.H i = some o₀ → μ' (ρ' i) = some L → μ₀' i = some L := by
    intro i o₀ L hi hL
    obtain ⟨L', h1, _⟩ := (r₀'.obj i o₀ hi).lt
    rw [hm i L' h1] at hL; cases hL; exact h1
  -- what lies outside is far from the small heap's own
  have apart : ∀ b o L, b < s.n → (∀ i, i < s₀.n → ρ i ≠ b) → s.H b = some o → μ b = some L → ¬ Own μ₀ s₀ L.block := by
    rintro b o L hb hn ho hL ⟨i, o₁, L₁, h1, h2, h3, h4⟩
    obtain ⟨k1, k2, k3⟩ := hH i o₁ h1
    exact hr.disj (ρ i) b _ o L₁ L (hn i k1) k2 ho (by rw [renO_own]; exact h2) (hμ₀' _ _ h3).2 hL h4
  refine ⟨μ', s', renT ρ' v, v', rfl, ?_, ?_, vr.rerenT hm fv, fin s' g⟩
  · refine ⟨hle, by rw [g.n]; omega, st.os, st.tape, st.output, st.size, fun k hk hn => st.frame k hk fun ho => hn (hown₀ k ho), ?_, ?_, ?_, ?_⟩
    · rintro k hk ⟨b, o, L, h1, h2, h3, h4⟩
      rcases part b o h1 with ⟨i, o₀, p1, rfl, rfl⟩ | ⟨p1, p2, p3⟩
      · exact hown₀ k (st.own k hk ⟨i, o₀, L, p1, by rw [renO_own] at h2; exact h2, place i o₀ L p1 h3, h4⟩)
      · simp only [μ'] at h3
        rw [if_pos p1] at h3
        exact ⟨b, o, L, p3, h2, h3, h4⟩
    · intro b hb e
      by_cases e2 : ∃ i, i < s₀.n ∧ ρ i = b
      · obtain ⟨i, hi, rfl⟩ := e2
        rw [g.old i hi]
        have : s₀.H i = none := by
          cases hx : s₀.H i with
          | none => rfl
          | some o => have := (hH i o hx).2.1; rw [e] at this; cases this
        rw [st.dead i hi this]; rfl
      · rw [g.out b hb fun i hi h => e2 ⟨i, hi, h⟩]; exact e
    · intro b c e hb
      rcases part b _ hb with ⟨i, o₀, p1, p2, rfl⟩ | ⟨p1, p2, p3⟩
      · cases o₀ with
        | ro c₀ e₀ =>
          simp only [renO, AObj.ro.injEq] at p2
          obtain ⟨rfl, rfl⟩ := p2
          have h1 := st.ro i c₀ e p1
          obtain ⟨k1, k2, k3⟩ := hH i _ h1
          rw [hρ_lt i k1, k2]
          simp only [renO, Option.some.injEq, AObj.ro.injEq, and_true]
          apply List.map_congr_left
          intro x hx
          refine renV_congr (n := s₀.n) (fun j hj => (hρ_lt j hj).symm) ?_
          simp only [flatO, List.all_eq_true] at k3
          exact k3 x hx
        | _ => simp [renO] at p2
      · exact p3
    · intro b L hb
      by_cases e : b < s.n
      · simp only [μ'] at hb; rw [if_pos e] at hb; exact .inl hb
      · right; omega
  · refine ⟨?_, ?_, ?_⟩
    · intro b L hb
      rw [g.n]
      by_cases e : b < s.n
      · omega
      · simp only [μ'] at hb
        rw [if_neg e] at hb
        have := r₀'.lt _ _ hb
        omega
    · intro b o hb
      rcases part b o hb with ⟨i, o₀, p1, rfl, rfl⟩ | ⟨p1, p2, p3⟩
      · exact (r₀'.obj i o₀ p1).reren hm (fH i o₀ p1)
      · have h1 := hr.obj b o p3
        obtain ⟨L, hL, hlt'⟩ := h1.lt
        refine h1.mono hle fun L' hL' => ?_
        rw [hL] at hL'; cases hL'
        exact st.frame _ hlt' (apart b o L p1 p2 p3 hL)
    · intro b₁ b₂ o₁ o₂ L₁ L₂ hne h₁ h₂ hown m₁ m₂
      rcases part b₁ o₁ h₁ with ⟨i₁, q₁, p1, rfl, rfl⟩ | ⟨p1, p2, p3⟩
      · rw [renO_own] at hown
        have n₁ := place i₁ q₁ L₁ p1 m₁
        rcases part b₂ o₂ h₂ with ⟨i₂, q₂, k1, rfl, rfl⟩ | ⟨k1, k2, k3⟩
        · exact r₀'.disj i₁ i₂ q₁ q₂ L₁ L₂ (fun e => hne (by rw [e])) p1 k1 hown n₁ (place i₂ q₂ L₂ k1 m₂)
        · simp only [μ'] at m₂
          rw [if_pos k1] at m₂
          obtain ⟨L₃, hL₃, hlt'⟩ := (hr.obj b₂ o₂ k3).lt
          rw [m₂] at hL₃; cases hL₃
          intro e
          exact apart b₂ o₂ L₂ k1 k2 k3 m₂ (st.own _ hlt' ⟨i₁, q₁, L₁, p1, hown, n₁, e⟩)
      · simp only [μ'] at m₁
        rw [if_pos p1] at m₁
        rcases part b₂ o₂ h₂ with ⟨i₂, q₂, k1, rfl, rfl⟩ | ⟨k1, k2, k3⟩
        · have n₂ := place i₂ q₂ L₂ k1 m₂
          cases hq : q₂.own with
          | true =>
            obtain ⟨L₃, hL₃, hlt'⟩ := (hr.obj b₁ o₁ p3).lt
            rw [m₁] at hL₃; cases hL₃
            intro e
            exact apart b₁ o₁ L₁ p1 p2 p3 m₁ (st.own _ hlt' ⟨i₂, q₂, L₂, k1, hq, n₂, e.symm⟩)
          | false =>
            cases q₂ with
            | ro c₀ e₀ =>
              have h1 := st.ro i₂ c₀ e₀ k1
              obtain ⟨j1, j2, j3⟩ := hH i₂ _ h1
              refine hr.disj b₁ (ρ i₂) o₁ _ L₁ L₂ (fun e => p2 i₂ j1 e.symm) p3 j2 hown m₁ ?_
              rcases st.mu_new i₂ L₂ n₂ with h2 | h2
              · exact (hμ₀' _ _ h2).2
              · omega
            | _ => cases hq
        · simp only [μ'] at m₂
          rw [if_pos k1] at m₂
          exact hr.disj b₁ b₂ o₁ o₂ L₁ L₂ hne p3 k3 hown m₁ m₂

end

/-- A heap with one block more. -/
def St.add (s : St) (b : Nat) (o : AObj) (n : Nat) : St := ⟨fun i => if i = b then some o else s.H i, n⟩

theorem flat_zero {v : Value} (h : flat1 0 v = true) : plain1 v = true := by
  unfold flat1 at h
  split at h <;> first | (simp at h; done) | exact h

theorem renO_zero (ρ : Nat → Nat) {o : AObj} (h : flatO 0 o = true) : renO ρ o = o := by
  have key : ∀ c : List Value, c.all (flat1 0) = true → c.map (renV ρ) = c := by
    intro c hc
    rw [List.all_eq_true] at hc
    have : c.map (renV ρ) = c.map id := List.map_congr_left fun x hx => plain_ren ρ (flat_zero (hc x hx))
    rw [this, List.map_id]
  cases o with
  | cells c e x => simp only [renO, key c h]
  | ro c e => simp only [renO, key c h]
  | map _ _ => rfl
  | iter _ _ _ _ => rfl

theorem flat_mono {n m : Nat} (h : n ≤ m) {v : Value} (hv : flat1 n v = true) : flat1 m v = true := by
  unfold flat1 at hv
  split at hv
  · simp only [flat1, decide_eq_true_eq] at hv ⊢; omega
  · simp only [flat1, decide_eq_true_eq] at hv ⊢; omega
  · simp only [flat1, decide_eq_true_eq] at hv ⊢; omega
  · unfold flat1
    split <;> first | (simp [plain1] at hv; done) | exact hv

theorem flatO_mono {n m : Nat} (h : n ≤ m) {o : AObj} (hv : flatO n o = true) : flatO m o = true := by
  cases o <;> simp only [flatO, List.all_eq_true] at hv ⊢
  · exact fun x hx => flat_mono h (hv x hx)
  · exact fun x hx => flat_mono h (hv x hx)
  · exact hv
  · exact hv

section
variable {P : Program} {F : XF}

/-- A call at known numbers, of which one new block is kept. -/
theorem ACalls.closed (hF : ∀ f af, F f = some af → compF P f = some af) (fuel : Nat) {f : FuncId} {args : List Value} {s₁ : XS} {r : Value} {b : Nat} {o : AObj}
    (h : xcall F (xcode F fuel) (.func (.func f) #[] #[]) args ⟨.nil, 0⟩ = some (r, s₁)) (ha : args.all plain1 = true) (hb : s₁.h.get b = some o) (ho : flatO 0 o = true) (hbn : b < s₁.n) (hr : flatT s₁.n r = true) (s : St) :
    ACalls P f args s fun v s' => ∃ b' n', s.n ≤ b' ∧ b' < n' ∧ b' = s.n + b ∧ v = renT (fun i => s.n + i) r ∧ s' = s.add b' o n' := by
  have h1 : ACalls P f args (⟨fun _ => none, 0⟩ : St) fun v s' => v = r ∧ s' = ⟨fun i => if i = b then some o else none, s₁.n⟩ := by
    refine (ACalls.run (s := ⟨.nil, 0⟩) (K := fun v s' => v = r ∧ s' = s₁.st) hF fuel h ⟨rfl, rfl⟩).less ?_
    rintro v s' ⟨rfl, rfl⟩
    refine ⟨⟨fun i => if i = b then some o else none, s₁.n⟩, Nat.le_refl _, ?_, rfl, rfl⟩
    intro i oi hi
    simp only at hi
    split at hi
    · rename_i e; subst e; cases hi; exact hb
    · cases hi
  refine h1.ren (fun i => i) (fun i hi => absurd hi (Nat.not_lt_zero i)) (fun i j hi => absurd hi (Nat.not_lt_zero i)) (fun i oi hi => by cases hi) ?_ ?_
  · intro μ μ₀ l _ hv
    have : ∀ {as l : List Value}, as.all plain1 = true → VRs μ as l → VRs μ₀ as l := by
      intro as
      induction as with
      | nil => intro l _ hv; cases hv; exact .nil
      | cons x as ih =>
        intro l hp hv
        simp only [List.all_cons, Bool.and_eq_true] at hp
        cases hv with
        | cons hx ht =>
          have := hx.plain_eq hp.1
          subst this
          exact .cons (VR.of_plain1 _ _ hp.1) (ih hp.2 ht)
    exact this ha hv
  · rintro v s₀' ⟨rfl, rfl⟩
    refine ⟨hr, ?_, ?_⟩
    · intro i oi hi
      simp only at hi
      split at hi
      · cases hi; exact flatO_mono (Nat.zero_le _) ho
      · cases hi
    · intro s' g
      refine ⟨s.n + b, s.n + s₁.n, by omega, by omega, rfl, ?_, ?_⟩
      · congr 1
      · have hn : s'.n = s.n + s₁.n := by rw [g.n]; rfl
        have hH : s'.H = fun i => if i = s.n + b then some o else s.H i := by
          funext i
          by_cases hi : s.n ≤ i
          · rw [g.new i hi]
            simp only [Nat.zero_add]
            by_cases e : i = s.n + b
            · subst e
              rw [if_pos (by omega), if_pos rfl, Option.map_some, renO_zero _ ho]
            · rw [if_neg (by omega), if_neg e, g.fresh i hi]; rfl
          · rw [g.out i (by omega) fun j hj => absurd hj (Nat.not_lt_zero j), if_neg (by omega)]
        cases s'
        simp only at hn hH
        subst hn; subst hH
        rfl

end

section
variable {P : Program} {F : XF}

/-- A call at a heap that is known up to the names of its blocks. -/
theorem ACalls.known (hF : ∀ f af, F f = some af → compF P f = some af) (fuel : Nat) {f : FuncId} {args₀ args : List Value} {s₀ s₁ : XS} {r : Value} {s : St} (ρ : Nat → Nat) (fin : Nat → Option AObj)
    (h : xcall F (xcode F fuel) (.func (.func f) #[] #[]) args₀ s₀ = some (r, s₁))
    (hlt : ∀ i, i < s₀.n → ρ i < s.n) (hinj : ∀ i j, i < s₀.n → j < s₀.n → ρ i = ρ j → i = j)
    (hH : ∀ i o, s₀.h.get i = some o → i < s₀.n ∧ s.H (ρ i) = some (renO ρ o) ∧ flatO s₀.n o = true)
    (hargs : ∀ (μ μ₀ : Mu) l, (∀ i, i < s₀.n → μ₀ i = μ (ρ i)) → VRs μ args l → VRs μ₀ args₀ l)
    (hfin : ∀ i o, fin i = some o → i < s₀.n ∧ s₁.h.get i = some o ∧ flatO s₀.n o = true) (hr : flatT s₀.n r = true) :
    ACalls P f args s fun v s' => v = renT ρ r ∧ s.n ≤ s'.n ∧ (∀ i, i < s₀.n → s'.H (ρ i) = (fin i).map (renO ρ)) ∧ ∀ b, (∀ i, i < s₀.n → ρ i ≠ b) → s'.H b = s.H b := by
  have h1 : ACalls P f args₀ s₀.st fun v s' => v = r ∧ s'.H = fin ∧ s₀.n ≤ s'.n := by
    refine (ACalls.run (K := fun v s' => v = r ∧ s' = s₁.st) hF fuel h ⟨rfl, rfl⟩).less ?_
    rintro v s' ⟨rfl, rfl⟩
    exact ⟨⟨fin, s₁.n + s₀.n⟩, Nat.le_add_right _ _, fun i o hi => (hfin i o hi).2.1, rfl, rfl, Nat.le_add_left _ _⟩
  refine h1.ren ρ hlt hinj hH hargs ?_
  rintro v s₀' ⟨rfl, hf, hn⟩
  have hρ : ∀ i, i < s₀.n → renN ρ s₀.st.n s.n i = ρ i := fun i hi => if_pos hi
  have hV : ∀ {v : Value}, flat1 s₀.n v = true → renV (renN ρ s₀.st.n s.n) v = renV ρ v := fun hv => renV_congr hρ hv
  have hL : ∀ c : List Value, c.all (flat1 s₀.n) = true → c.map (renV (renN ρ s₀.st.n s.n)) = c.map (renV ρ) := by
    intro c hc
    rw [List.all_eq_true] at hc
    exact List.map_congr_left fun x hx => hV (hc x hx)
  refine ⟨?_, ?_, ?_⟩
  · unfold flatT at hr ⊢
    split
    · simp only [List.all_eq_true] at hr ⊢
      exact fun x hx => flat_mono hn (hr x hx)
    · rename_i hne
      split at hr
      · exact absurd rfl (hne _)
      · exact flat_mono hn hr
  · intro b o hb
    rw [hf] at hb
    exact flatO_mono hn (hfin b o hb).2.2
  · intro s' g
    refine ⟨?_, by rw [g.n]; omega, ?_, ?_⟩
    · unfold flatT at hr
      split at hr
      · simp only [renT, hL _ hr]
      · rename_i hne
        have : ∀ σ, renT σ v = renV σ v := by
          intro σ
          unfold renT
          split
          · exact absurd rfl (hne _)
          · rfl
        rw [this, this, hV hr]
    · intro i hi
      rw [g.old i hi, hf]
      cases hx : fin i with
      | none => rfl
      | some o =>
        have ho := (hfin i o hx).2.2
        simp only [Option.map_some, Option.some.injEq]
        cases o with
        | cells c e x => simp only [renO, hL c ho]
        | ro c e => simp only [renO, hL c ho]
        | map _ _ => rfl
        | iter _ _ _ _ => rfl
    · intro b hb
      by_cases e : s.n ≤ b
      · rw [g.new b e, hf, g.fresh b e]
        cases hx : fin (s₀.st.n + (b - s.n)) with
        | none => rfl
        | some o =>
          have := (hfin _ o hx).1
          have e2 : s₀.st.n = s₀.n := rfl
          omega
      · exact g.out b (by omega) hb

theorem VRs.nil_any {μ ν : Mu} {l : List Value} (h : VRs μ [] l) : VRs ν [] l := by cases h; exact .nil
theorem VRs.single {μ ν : Mu} {x y : Value} {l : List Value} (h : ∀ v', VR μ x v' → VR ν y v') (k : VRs μ [x] l) : VRs ν [y] l := by
  cases k with | cons a t => cases t; exact .cons (h _ a) .nil

theorem args_flat {args₀ args : List Value} {n : Nat} {ρ : Nat → Nat} (h : args = args₀.map (renV ρ)) (hf : args₀.all (flat1 n) = true) :
    ∀ (μ μ₀ : Mu) l, (∀ i, i < n → μ₀ i = μ (ρ i)) → VRs μ args l → VRs μ₀ args₀ l := by
  intro μ μ₀ l hm hv
  subst h
  exact hv.unren (fun i L hi hL => by rw [hm i hi]; exact hL) hf

end
end Go.Ab
