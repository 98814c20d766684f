/- Walks: the best bits. -/
import Derived.Test.YtdhiacdfblakcaaPoC
import Derived.Test.YtdhiacdfblakcaaAbU
namespace Go.Proofs.Ytdhiacdfblakcaa
open Go Go.Ab

theorem idx_step {N i : Nat} (hi : i < N) : (((List.range i).map fun (j : Nat) => (j : Int)) ++ List.replicate (N - i) 0).set i (i : Int) = ((List.range (i + 1)).map fun (j : Nat) => (j : Int)) ++ List.replicate (N - (i + 1)) 0 := by
  have e : N - i = (N - (i + 1)) + 1 := by omega
  rw [List.set_append_right _ _ (by simp), e, List.replicate_succ]
  simp [List.range_succ]

theorem stL_length (m : Nat) : (stL m).length = 2 ^ m := by
  have hi : ∀ (le : Int → Int → Bool) (x : Int) (l : List Int), (insL le x l).length = l.length + 1 := by
    intro le x l
    induction l with
    | nil => rfl
    | cons y l ih => simp only [insL]; split <;> simp [ih]
  have hs : ∀ (le : Int → Int → Bool) (l : List Int), (isort le l).length = l.length := by
    intro le l
    induction l with
    | nil => rfl
    | cons y l ih => simp only [isort, hi, ih, List.length_cons]
  rw [stL, hs]; simp [idxL]

theorem isort_length (le : Int → Int → Bool) (l : List Int) : (isort le l).length = l.length := by
  have hi : ∀ (le : Int → Int → Bool) (x : Int) (l : List Int), (insL le x l).length = l.length + 1 := by
    intro le x l
    induction l with
    | nil => rfl
    | cons y l ih => simp only [insL]; split <;> simp [ih]
  induction l with
  | nil => rfl
  | cons y l ih => simp only [isort, hi, ih, List.length_cons]

theorem bestL_length {m k : Nat} (h : k ≤ 2 ^ m) : (bestL m k).length = k := by
  rw [bestL, isort_length, List.length_take, stL_length]; omega

theorem best_spec {m k : Nat} (hm : m ≤ 5) (hk : k ≤ 2 ^ m) (c1 : chkChan m = true) (c2 : chkStable m = true) (c3 : chkSort m k = true) (s : St) :
    ACalls P 14 [.int .i64 m, .int .i64 k] s fun r s' => Ext s s' ∧ ∃ v, r = .tuple #[v, .int .i64 0] ∧ Sl s' v (vints (bestL m k)) := by
  have hp : 2 ^ m ≤ 2 ^ 5 := Nat.pow_le_pow_right (by omega) hm
  refine ACalls.intro h14 rfl (asem_on ?_)
  simp -implicitDefEqProofs only [↓walkD, walkU, acall_func, Nat.reduceEqDiff, reduceIte, a14, c14]
  refine (chan_at c1 s).then ?_
  rintro _ _ ⟨d, n', hd1, hd2, rfl, rfl⟩
  simp -implicitDefEqProofs only [↓walkD, walkU, Nat.reduceEqDiff, reduceIte, i64]
  refine alloc_store rfl fun s1 x1 bx1 hc1 hn1 => ?_
  have hcn : (s.add d (.cells (vints (chanL m)) 1 (exC m)) n').n = n' := rfl
  rw [hcn] at bx1 hc1 hn1
  have x0 : Ext s s1 := (Ext.add hd1 (by omega) _).trans x1
  have hdH : s1.H d = some (.cells (vints (chanL m)) 1 (exC m)) := by rw [x1.H d hd2]; simp [St.add]
  have hlt : ¬ ((k : Nat) : Int) < 0 := by omega
  have hgt : ¬ ((k : Nat) : Int) > ((2 ^ m : Nat) : Int) := by omega
  simp -implicitDefEqProofs only [↓walkD, walkU, Nat.reduceEqDiff, reduceIte, hcn, hlt, hgt, decide_false, bx1.rdv, List.getElem?_cons_zero, alen_slice, bne_self_eq_false]
  refine mks_ow (k := 2 ^ m) (by omega) (by omega) fun va s2 x2 o2 n2 => ?_
  have l2 := o2.sl.len
  rw [List.length_replicate] at l2
  simp -implicitDefEqProofs only [↓walkD, walkU, Nat.reduceEqDiff, reduceIte, l2]
  refine AW.loop (fun K t' s' => ∃ i : Nat, K = 2 ^ m - i ∧ i ≤ 2 ^ m ∧ Ext s1 s' ∧ s'.n = s2.n ∧ t' 1 = .int .i64 k ∧ t' 6 = .pointer (some ⟨n', 0, none⟩) ∧ t' 8 = va ∧ t' 30 = .int .i64 ((2 ^ m : Nat) : Int) ∧ t' 31 = .int .i64 i ∧
    Ow s1.n s' va s1.n (vints (((List.range i).map fun (j : Nat) => (j : Int)) ++ List.replicate (2 ^ m - i) 0))) (2 ^ m) ?_ ?_
  · exact ⟨0, by simp, by omega, x2, rfl, by simp [upd_apply, initE_1], by simp [upd_apply], by simp [upd_apply], by simp [upd_apply], by simp [upd_apply], by simpa [← vints_rep] using o2⟩
  rintro K t' s' ⟨i, rfl, hi, hx, hn, e1, e6, e8, e30, e31, ho⟩
  refine asem_on ?_
  simp -implicitDefEqProofs only [↓walkD, walkU, reduceIte, e30, e31]
  refine condB_dec (fun h => ?_) (fun h => ?_)
  · have hi' : i < 2 ^ m := by omega
    obtain ⟨p, p1, p2⟩ := ho.sl.iel (i := i) (by simp; omega)
    simp -implicitDefEqProofs only [↓walkD, walkU, Nat.reduceEqDiff, reduceIte, e8, e31, p1]
    refine ho.store p1 (by simp [vints_length]; omega) rfl fun s3 o3 k3 n3 => ?_
    rw [vints_set, idx_step hi'] at o3
    simp -implicitDefEqProofs only [↓walkD, walkU, Nat.reduceEqDiff, reduceIte, e1, e6, e8, e30, e31]; simp only [On_eq]
    exact ⟨2 ^ m - (i + 1), by omega, i + 1, rfl, by omega, hx.chg k3 ho.gr (Nat.le_refl _), by omega, iv (wrap_succ (by omega)), o3⟩
  · have hi' : i = 2 ^ m := by omega
    subst hi'
    rw [Nat.sub_self, List.replicate_zero, List.append_nil] at ho
    have hidx : ((List.range (2 ^ m)).map fun (j : Nat) => (j : Int)) = idxL m := rfl
    rw [hidx] at ho
    obtain ⟨rfl, hb1, hb2, hb3⟩ := ho
    have hlen : (vints (idxL m)).length = 2 ^ m := by simp [vints, idxL]
    rw [hlen] at e8
    simp -implicitDefEqProofs only [↓walkD, walkU, acall_func, Nat.reduceEqDiff, reduceIte, e6, e8]
    refine (stable_at c2 hb3 hb2 (c := n') (d := d) ?_ ?_ ?_ ?_ ?_ ?_ ?_).then ?_
    · rw [hx.H n' (by omega), hc1]; rfl
    · omega
    · rw [hx.H d (by omega), hdH]
    · omega
    · omega
    · omega
    · omega
    rintro _ _ ⟨rfl, n4, hn4, rfl⟩
    have hs : aslc (⟨fun i => if i = s1.n then some (AObj.cells (vints (stL m)) 1 true) else if i = n' ∨ i = d then none else s'.H i, n4⟩ : St) 1 (.slice (some ⟨s1.n, 0, none⟩) (2 ^ m) (2 ^ m)) none (some (.int .i64 k)) (some (.int .i64 k)) =
        some (.slice (some ⟨s1.n, 0, none⟩) k k) := by
      have h1 : (0 : Int) ≤ (k : Int) ∧ (k : Int) ≤ ((2 ^ m : Nat) : Int) := by omega
      have h2 : (0 : Int) ≤ (k : Int) ∧ (k : Int) ≤ (k : Int) := by omega
      simp only [aslc, abounds, abound, if_pos h1, if_pos h2, Int.toNat_natCast, Option.isNone_some, Bool.false_and, if_true, objEsz, Option.bind_some, or_true, Nat.sub_zero, Nat.mul_one, Nat.add_zero, Bool.false_eq_true, if_false]
    simp -implicitDefEqProofs only [↓walkD, walkU, acall_func, Nat.reduceEqDiff, reduceIte, e1, e8, hs]
    refine (sort_at c3 (b := s1.n) ?_ ?_).then ?_
    · simp
    · simp only; omega
    rintro _ _ ⟨rfl, n5, hn5, rfl⟩
    simp -implicitDefEqProofs only [↓walkD, walkU, Nat.reduceEqDiff, reduceIte, e8]; simp only [On_eq]
    simp only at hn5
    have hd0 : s.n ≤ n' := by omega
    refine ⟨⟨by simp only; omega, fun b hb => ?_⟩, _, rfl, ?_⟩
    · simp only [St.put]
      rw [if_neg (by omega), if_neg (by omega), if_neg (by omega), hx.H b (by omega), x0.H b hb]
    · refine .inr ⟨s1.n, 0, k, by rw [vints_length, bestL_length hk], by rw [vints_length, bestL_length hk]; omega, .inr ⟨by simp only; omega, by simp [St.put, objEsz]⟩, fun i hi => ?_⟩
      rw [vints_length] at hi
      rw [rd_cells (c := vints (bestL m k ++ (stL m).drop k)) (e := 1) (x := true) (by simp [St.put]), Nat.zero_add, vints_append, List.getElem?_append_left (by rw [vints_length]; exact hi), List.getElem?_eq_getElem (by rw [vints_length]; exact hi)]

end Go.Proofs.Ytdhiacdfblakcaa
