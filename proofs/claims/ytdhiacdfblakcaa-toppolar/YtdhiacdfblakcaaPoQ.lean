/- The plain law: where a message's bits are laid. -/
import Derived.Test.YtdhiacdfblakcaaPoP
import Derived.Test.YtdhiacdfblakcaaPoD
namespace Go.Proofs.Ytdhiacdfblakcaa
open Go Go.Ab

theorem insL_perm (le : Int → Int → Bool) (x : Int) (l : List Int) : (insL le x l).Perm (x :: l) := by
  induction l with
  | nil => exact .refl _
  | cons y l ih =>
    simp only [insL]
    split
    · exact .refl _
    · exact (List.Perm.cons y ih).trans (List.Perm.swap x y l)

theorem isort_perm (le : Int → Int → Bool) (l : List Int) : (isort le l).Perm l := by
  induction l with
  | nil => exact .refl _
  | cons y l ih => exact (insL_perm le y _).trans (List.Perm.cons y ih)

theorem idxL_nodup (m : Nat) : (idxL m).Nodup := by
  unfold idxL
  rw [List.Nodup, List.pairwise_map]
  exact List.nodup_range.imp fun h e => h (by omega)

theorem bestL_nodup (m k : Nat) : (bestL m k).Nodup := by
  have h1 : (stL m).Nodup := (isort_perm _ _).nodup_iff.2 (idxL_nodup m)
  exact (isort_perm _ _).nodup_iff.2 (List.Nodup.sublist (List.take_sublist _ _) h1)

theorem bestL_mem {m k : Nat} {x : Int} (h : x ∈ bestL m k) : 0 ≤ x ∧ x < ((2 ^ m : Nat) : Int) := by
  have h1 := (isort_perm _ _).mem_iff.1 h
  have h2 := (isort_perm _ _).mem_iff.1 (List.mem_of_mem_take h1)
  simp only [idxL, List.mem_map, List.mem_range] at h2
  obtain ⟨i, hi, rfl⟩ := h2
  omega

/-- What is laid where. -/
def plc (N : Nat) (l a : List Int) : Nat → List Int
  | 0 => List.replicate N 0
  | i + 1 => (plc N l a i).set (l.getD i 0).toNat (a.getD i 0)
def frL (N : Nat) (l : List Int) : Nat → List Bool
  | 0 => List.replicate N false
  | i + 1 => (frL N l i).set (l.getD i 0).toNat true

theorem plc_length (N : Nat) (l a : List Int) : ∀ i, (plc N l a i).length = N
  | 0 => List.length_replicate
  | i + 1 => by rw [plc, List.length_set, plc_length N l a i]
theorem frL_length (N : Nat) (l : List Int) : ∀ i, (frL N l i).length = N
  | 0 => List.length_replicate
  | i + 1 => by rw [frL, List.length_set, frL_length N l i]

theorem plc_bits {N : Nat} {l a : List Int} (ha : ∀ x ∈ a, isBit x) : ∀ i, ∀ x ∈ plc N l a i, isBit x
  | 0, x, hx => by rw [(List.mem_replicate.1 hx).2]; exact .inl rfl
  | i + 1, x, hx => by
    rcases List.mem_or_eq_of_mem_set hx with h | h
    · exact plc_bits ha i x h
    · rw [h, List.getD_eq_getElem?_getD]
      cases hg : a[i]? with
      | none => exact .inl rfl
      | some y => exact ha y (List.mem_of_getElem? hg)

theorem plc_fr {N : Nat} {l a : List Int} {j : Nat} (hj : j < N) : ∀ i, (frL N l i).getD j false = false → (plc N l a i).getD j 0 = 0
  | 0, _ => by simp [plc, List.getD_eq_getElem?_getD, hj]
  | i + 1, h => by
    have l1 := plc_length N l a i
    have l2 := frL_length N l i
    simp only [frL, plc, List.getD_eq_getElem?_getD, List.getElem?_set] at h ⊢
    by_cases e : (l[i]?.getD 0).toNat = j
    · rw [if_pos e, l2, if_pos (by omega)] at h; simp at h
    · rw [if_neg e] at h ⊢
      have := plc_fr (l := l) (a := a) hj i (by rw [List.getD_eq_getElem?_getD]; exact h)
      rw [List.getD_eq_getElem?_getD] at this
      exact this

theorem plc_get {N : Nat} {l a : List Int} (hd : l.Nodup) (hm : ∀ x ∈ l, 0 ≤ x ∧ x < (N : Int)) {j : Nat} : ∀ i, j < i → i ≤ l.length → (plc N l a i).getD (l.getD j 0).toNat 0 = a.getD j 0
  | 0, h, _ => by omega
  | i + 1, h, hi => by
    have l1 := plc_length N l a i
    have gi : l.getD i 0 = l[i] := by rw [List.getD_eq_getElem?_getD, List.getElem?_eq_getElem (by omega)]; rfl
    have gj : l.getD j 0 = l[j] := by rw [List.getD_eq_getElem?_getD, List.getElem?_eq_getElem (by omega)]; rfl
    have mi := hm _ (List.getElem_mem (l := l) (n := i) (by omega))
    have mj := hm _ (List.getElem_mem (l := l) (n := j) (by omega))
    rw [plc]
    simp only [gi, gj]
    by_cases e : j = i
    · subst e
      rw [List.getD_eq_getElem?_getD, List.getElem?_set_self (by omega)]; rfl
    · have hne : (l[i]).toNat ≠ (l[j]).toNat := by
        intro hc
        have h1 : l[i] = l[j] := by omega
        have := (List.getElem_inj hd).1 h1
        omega
      have ih := plc_get (a := a) hd hm (j := j) i (by omega) (by omega)
      rw [gj] at ih
      rw [List.getD_eq_getElem?_getD, List.getElem?_set_ne hne, ← List.getD_eq_getElem?_getD]
      exact ih

end Go.Proofs.Ytdhiacdfblakcaa
