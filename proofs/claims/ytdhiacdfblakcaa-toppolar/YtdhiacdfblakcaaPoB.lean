/- Walks: small functions of the library, transforms. -/
import Derived.Test.YtdhiacdfblakcaaPoA
namespace Go.Proofs.Ytdhiacdfblakcaa
open Go Go.Ab

theorem level_spec {m : Nat} (hm : m ≤ 5) (s : St) : ACalls P 12 [.int .i64 m] s fun r s' => r = .int .i64 0 ∧ s' = s := by
  have h1 : ¬ ((m : Nat) : Int) < 0 := by omega
  have h2 : ¬ ((m : Nat) : Int) > 5 := by omega
  refine ACalls.intro h12 rfl (asem_on ?_)
  simp -implicitDefEqProofs only [↓walkD, walkU, Nat.reduceEqDiff, reduceIte, a12, c12, h1, h2, decide_false]; simp only [On_eq]

theorem copy_spec {s : St} {v : Value} {l : List Int} (hv : Sl s v (vints l)) (hl : l.length ≤ 2 ^ 39) : ACalls P 8 [v] s fun r s' => Ext s s' ∧ Gr s.n s' r (vints l) := by
  refine ACalls.intro h8 rfl (asem_on ?_)
  simp -implicitDefEqProofs only [↓walkD, walkU, Nat.reduceEqDiff, reduceIte, a8, c8, absl_nil]
  refine (Gr.made s [] true (Nat.le_refl _)).app (Ext.new _).n (hv.ext (Ext.new _)) (vints_cell _) (by omega) (by simp [vints_length]; omega) fun v' s' hg hc hb => ?_
  simp -implicitDefEqProofs only [↓walkD, walkU, Nat.reduceEqDiff, reduceIte]; simp only [On_eq]
  exact ⟨(Ext.new _).chg hc (Gr.made s [] true (Nat.le_refl _)) (Nat.le_refl _), hg⟩

theorem clone_spec {s : St} {v : Value} {l : List Int} (hv : Sl s v (vints l)) (hl : l.length ≤ 2 ^ 39) : ACalls P 24 [v] s fun r s' => Ext s s' ∧ Gr s.n s' r (vints l) := by
  obtain ⟨b, hb, hb'⟩ := hv.isnil
  refine ACalls.intro h24 rfl (asem_on ?_)
  simp -implicitDefEqProofs only [↓walkD, walkU, Nat.reduceEqDiff, reduceIte, a24, c24, hb]
  refine condB_intro (fun h => ?_) (fun h => ?_)
  · simp -implicitDefEqProofs only [↓walkD, walkU, Nat.reduceEqDiff, reduceIte]; simp only [On_eq]
    rw [(hb' h).1]
    exact ⟨Ext.refl _, Gr.nil _ _⟩
  · simp -implicitDefEqProofs only [↓walkD, walkU, Nat.reduceEqDiff, reduceIte, absl_nil]
    refine (Gr.made s [] true (Nat.le_refl _)).app (Ext.new _).n (hv.ext (Ext.new _)) (vints_cell _) (by omega) (by simp [vints_length]; omega) fun v' s' hg hc hb => ?_
    simp -implicitDefEqProofs only [↓walkD, walkU, Nat.reduceEqDiff, reduceIte]; simp only [On_eq]
    exact ⟨(Ext.new _).chg hc (Gr.made s [] true (Nat.le_refl _)) (Nat.le_refl _), hg⟩

def firstN (p : Int → Bool) (l : List Int) : Int := match l.findIdx? p with | some i => i | none => -1

theorem any_take_succ {p : Int → Bool} {l : List Int} {i : Nat} (h : (l.take i).any p = false) (hi : i < l.length) (hp : p l[i] = false) : (l.take (i + 1)).any p = false := by
  rw [List.take_succ_eq_append_getElem hi, List.any_append, h]
  simp [hp]

theorem index_spec {s : St} {v f : Value} {l : List Int} (p : Int → Bool) (hv : Sl s v (vints l)) (hl : l.length < 2 ^ 62) (hf : ∀ x ∈ l, ∀ K : Value → St → Prop, K (.bool (p x)) (On s) → acall P f [.int .i64 x] s K) :
    ACalls P 23 [v, f] s fun r s' => (∃ i : Int, r = .int .i64 i ∧ decide (i ≥ 0) = l.any p) ∧ s' = s := by
  have l1 := hv.ilen
  refine ACalls.intro h23 rfl (asem_on ?_)
  simp -implicitDefEqProofs only [↓walkD, walkU, Nat.reduceEqDiff, reduceIte, a23, c23, l1]
  refine AW.loop (fun n t' s' => ∃ i : Nat, n = l.length - i ∧ i ≤ l.length ∧ s' = s ∧ t' 0 = v ∧ t' 1 = f ∧ t' 7 = .int .i64 (l.length : Nat) ∧ t' 8 = .int .i64 i ∧ (l.take i).any p = false) l.length ⟨0, by simp [upd_apply, initE_0, initE_1]⟩ ?_
  rintro n t' s' ⟨i, rfl, hi, rfl, e0, e1, e7, e8, ht⟩
  refine asem_on ?_
  simp -implicitDefEqProofs only [↓walkD, walkU, reduceIte, e7, e8]
  refine condB_dec (fun h => ?_) (fun h => ?_)
  · have hi' : i < l.length := by omega
    obtain ⟨p1, p2, p3⟩ := hv.iel hi'
    simp -implicitDefEqProofs only [↓walkD, walkU, Nat.reduceEqDiff, reduceIte, e0, e1, e8, p2, p3]
    refine hf _ (List.getElem_mem hi') _ ?_
    simp -implicitDefEqProofs only [↓walkD, walkU, Nat.reduceEqDiff, reduceIte]
    refine condB_intro (fun h2 => ?_) (fun h2 => ?_)
    · simp -implicitDefEqProofs only [↓walkD, walkU, Nat.reduceEqDiff, reduceIte]; simp only [On_eq, and_true]
      refine ⟨_, rfl, ?_⟩
      have : l.any p = true := List.any_eq_true.2 ⟨_, List.getElem_mem hi', h2⟩
      rw [this]; exact decide_eq_true (by omega)
    · simp -implicitDefEqProofs only [↓walkD, walkU, Nat.reduceEqDiff, reduceIte, e0, e1, e7, e8]; simp only [On_eq, true_and]
      exact ⟨l.length - (i + 1), by omega, i + 1, rfl, by omega, iv (wrap_succ (by omega)), any_take_succ ht hi' h2⟩
  · simp -implicitDefEqProofs only [↓walkD, walkU, Nat.reduceEqDiff, reduceIte]; simp only [On_eq, and_true]
    have : i = l.length := by omega
    subst this
    rw [List.take_length] at ht
    exact ⟨_, rfl, by rw [ht]; rfl⟩

theorem contains_spec {s : St} {v f : Value} {l : List Int} (p : Int → Bool) (hv : Sl s v (vints l)) (hl : l.length < 2 ^ 62) (hf : ∀ x ∈ l, ∀ K : Value → St → Prop, K (.bool (p x)) (On s) → acall P f [.int .i64 x] s K) :
    ACalls P 15 [v, f] s fun r s' => r = .bool (l.any p) ∧ s' = s := by
  refine ACalls.intro h15 rfl (asem_on ?_)
  simp -implicitDefEqProofs only [↓walkD, walkU, acall_func, Nat.reduceEqDiff, reduceIte, a15, c15]
  refine (index_spec p hv hl hf).then ?_
  rintro _ _ ⟨⟨i, rfl, hi⟩, rfl⟩
  simp -implicitDefEqProofs only [↓walkD, walkU, Nat.reduceEqDiff, reduceIte, hi]; simp only [On_eq]

theorem notbit_spec (x : Int) (s : St) : ACalls P 18 [.int .i64 x] s fun r s' => r = .bool (x != 0 && x != 1) ∧ s' = s := by
  refine ACalls.intro h18 rfl (asem_on ?_)
  simp -implicitDefEqProofs only [↓walkD, walkU, Nat.reduceEqDiff, reduceIte, a18, c18]
  refine guardB_intro (fun h => ?_) (fun h => ?_)
  · simp -implicitDefEqProofs only [↓walkD, walkU, Nat.reduceEqDiff, reduceIte, h]; simp only [On_eq]
  · simp -implicitDefEqProofs only [↓walkD, walkU, Nat.reduceEqDiff, reduceIte, h]; simp only [On_eq]

theorem notlost_spec (x : Int) (s : St) : ACalls P 16 [.int .i64 x] s fun r s' => r = .bool (decide (x < -1) || decide (x > 1)) ∧ s' = s := by
  refine ACalls.intro h16 rfl (asem_on ?_)
  simp -implicitDefEqProofs only [↓walkD, walkU, Nat.reduceEqDiff, reduceIte, a16, c16]
  refine guardB_introN (fun h => ?_) (fun h => ?_)
  · simp -implicitDefEqProofs only [↓walkD, walkU, Nat.reduceEqDiff, reduceIte, h]; simp only [On_eq]
  · simp -implicitDefEqProofs only [↓walkD, walkU, Nat.reduceEqDiff, reduceIte, h]; simp only [On_eq]

end Go.Proofs.Ytdhiacdfblakcaa
