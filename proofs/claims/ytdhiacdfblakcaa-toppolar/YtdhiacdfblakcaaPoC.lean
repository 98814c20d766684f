/- Walks: transforms. -/
import Derived.Test.YtdhiacdfblakcaaPoB
namespace Go.Proofs.Ytdhiacdfblakcaa
open Go Go.Ab

def isBit (x : Int) : Prop := x = 0 ∨ x = 1
/-- The sum of two bits. -/
def bx (a b : Int) : Int := if a = b then 0 else 1
theorem bx_bit (a b : Int) : isBit (bx a b) := by unfold bx isBit; split <;> simp
theorem xor_bits {a b : Int} (ha : isBit a) (hb : isBit b) : abits .xor .i64 a b = bx a b := by
  rcases ha with rfl | rfl <;> rcases hb with rfl | rfl <;> decide

def trL : Nat → List Int → List Int
  | 0, w => w
  | m + 1, w => List.zipWith bx (trL m (w.take (2 ^ m))) (trL m (w.drop (2 ^ m))) ++ trL m (w.drop (2 ^ m))

theorem trL_length : ∀ (m : Nat) (w : List Int), w.length = 2 ^ m → (trL m w).length = 2 ^ m
  | 0, w, h => h
  | m + 1, w, h => by
    rw [Nat.pow_succ] at h
    have h1 := trL_length m (w.take (2 ^ m)) (by simp; omega)
    have h2 := trL_length m (w.drop (2 ^ m)) (by simp; omega)
    simp only [trL, List.length_append, List.length_zipWith, h1, h2, Nat.pow_succ]
    omega

theorem trL_bits : ∀ (m : Nat) (w : List Int), (∀ x ∈ w, isBit x) → ∀ x ∈ trL m w, isBit x
  | 0, _, h => h
  | m + 1, w, h => by
    intro x hx
    simp only [trL, List.mem_append] at hx
    rcases hx with hx | hx
    · obtain ⟨i, hi, rfl⟩ := List.getElem_of_mem hx
      rw [List.getElem_zipWith]
      exact bx_bit _ _
    · exact trL_bits m _ (fun y hy => h y (List.mem_of_mem_drop hy)) x hx

theorem zip_step {a b : List Int} {i : Nat} (hi : i < a.length) (hb : i < b.length) :
    ((List.zipWith bx a b).take i ++ a.drop i).set i (bx a[i] b[i]) = (List.zipWith bx a b).take (i + 1) ++ a.drop (i + 1) := by
  have hl : ((List.zipWith bx a b).take i).length = i := by simp; omega
  rw [List.set_append_right _ _ (by omega), hl, Nat.sub_self, List.drop_eq_getElem_cons hi, List.set_cons_zero,
    List.take_succ_eq_append_getElem (by simp; omega), List.getElem_zipWith, List.append_assoc]
  rfl

theorem transform_spec : ∀ (m : Nat), m ≤ 5 → ∀ {s : St} {v : Value} {w : List Int}, Sl s v (vints w) → w.length = 2 ^ m → (∀ x ∈ w, isBit x) →
    ACalls P 19 [v] s fun r s' => Ext s s' ∧ Gr s.n s' r (vints (trL m w))
  | 0, _, s, v, w, hv, hl, _ => by
    have l1 := hv.ilen
    rw [hl] at l1
    refine ACalls.intro h19 rfl (asem_on ?_)
    simp -implicitDefEqProofs only [↓walkD, walkU, Nat.reduceEqDiff, reduceIte, a19, c19, l1]
    refine condB_beq (fun h => ?_) (fun h => absurd rfl h)
    simp -implicitDefEqProofs only [↓walkD, walkU, acall_func, Nat.reduceEqDiff, reduceIte]
    refine (clone_spec hv (by rw [hl]; decide)).then ?_
    rintro r s' ⟨h1, h2⟩
    simp -implicitDefEqProofs only [↓walkD, walkU, Nat.reduceEqDiff, reduceIte]; simp only [On_eq]
    exact ⟨h1, h2⟩
  | m + 1, hm, s, v, w, hv, hl, hw => by
    have ih := fun {s} {v} {w} => transform_spec m (by omega) (s := s) (v := v) (w := w)
    have hp : 2 ^ (m + 1) = 2 ^ m + 2 ^ m := by rw [Nat.pow_succ]; omega
    have hb : 2 ^ m ≤ 2 ^ 5 := Nat.pow_le_pow_right (by omega) (by omega)
    have h0 : 0 < 2 ^ m := Nat.two_pow_pos m
    generalize hH : 2 ^ m = H at *
    have l1 := hv.ilen
    have ed : IntKind.i64.wrap ((w.length : Int).tdiv 2) = (H : Nat) := by
      have : (w.length : Int).tdiv 2 = ((w.length / 2 : Nat) : Int) := tdiv_nat _ 2
      rw [this, wrap_nat (by omega)]; omega
    obtain ⟨v1, s1, hv1, b1⟩ := hv.slcTo (hi := H) (by rw [vints_length]; omega)
    obtain ⟨v2, s2, hv2, b2⟩ := hv.slcFrom (lo := H) (by rw [vints_length]; omega)
    rw [vints_take] at hv1
    rw [vints_drop] at hv2
    have ha1 : (w.take H).length = H := by simp; omega
    have ha2 : (w.drop H).length = H := by simp; omega
    refine ACalls.intro h19 rfl (asem_on ?_)
    simp -implicitDefEqProofs only [↓walkD, walkU, Nat.reduceEqDiff, reduceIte, a19, c19, l1]
    refine condB_beq (fun h => by omega) (fun _ => ?_)
    simp -implicitDefEqProofs only [↓walkD, walkU, acall_func, Nat.reduceEqDiff, reduceIte, l1, ed, s1, s2, Int.reduceEq]
    refine (ih hv1 ha1 fun x hx => hw x (List.mem_of_mem_take hx)).then ?_
    rintro r1 t1 ⟨x1, g1⟩
    simp -implicitDefEqProofs only [↓walkD, walkU, acall_func, Nat.reduceEqDiff, reduceIte, (hv.slc_ext x1 _ _ _).trans s2]
    refine (ih (hv2.ext x1) ha2 fun x hx => hw x (List.mem_of_mem_drop hx)).then ?_
    rintro r2 t2 ⟨x2, g2⟩
    have hA := trL_length m (w.take H) (by omega)
    have hB := trL_length m (w.drop H) (by omega)
    have bA := trL_bits m (w.take H) fun x hx => hw x (List.mem_of_mem_take hx)
    have bB := trL_bits m (w.drop H) fun x hx => hw x (List.mem_of_mem_drop hx)
    rw [hH] at hA hB
    have hT : trL (m + 1) w = List.zipWith bx (trL m (w.take H)) (trL m (w.drop H)) ++ trL m (w.drop H) := by rw [trL, hH]
    rw [hT]
    generalize trL m (w.take H) = A at *
    generalize trL m (w.drop H) = B at *
    have g1' := g1.ext x2
    have lA := g1'.sl.ilen
    simp -implicitDefEqProofs only [↓walkD, walkU, Nat.reduceEqDiff, reduceIte, lA]
    refine AW.loop (fun k t' s' => ∃ i : Nat, k = H - i ∧ i ≤ H ∧ Ext s s' ∧ t' 3 = r1 ∧ t' 4 = r2 ∧ t' 24 = .int .i64 (A.length : Nat) ∧ t' 25 = .int .i64 i ∧
      Gr s.n s' r1 (vints ((List.zipWith bx A B).take i ++ A.drop i)) ∧ Gr t1.n s' r2 (vints B)) H ?_ ?_
    · exact ⟨0, by simp, by omega, x1.trans x2, by simp [upd_apply], by simp [upd_apply], by simp [upd_apply], by simp [upd_apply], by simpa using g1', g2⟩
    · rintro k t' s' ⟨i, rfl, hi, hx, e3, e4, e24, e25, gA, gB⟩
      refine asem_on ?_
      simp -implicitDefEqProofs only [↓walkD, walkU, reduceIte, e24, e25]
      refine condB_dec (fun h => ?_) (fun h => ?_)
      · have hi' : i < H := by omega
        have lz : ((List.zipWith bx A B).take i).length = i := by simp; omega
        have lZ : ((List.zipWith bx A B).take i ++ A.drop i).length = H := by simp; omega
        obtain ⟨p, p1, p2⟩ := gA.sl.iel (i := i) (by omega)
        obtain ⟨q, q1, q2⟩ := gB.sl.iel (i := i) (by omega)
        have ea : ((List.zipWith bx A B).take i ++ A.drop i)[i]'(by omega) = A[i]'(by omega) := by
          rw [List.getElem_append_right (by omega)]
          simp [lz]
        rw [ea] at p2
        simp -implicitDefEqProofs only [↓walkD, walkU, Nat.reduceEqDiff, reduceIte, e3, e4, e25, p1, p2, q1, q2]
        refine gA.store p1 (by rw [vints_length]; omega) rfl fun s'' g2 hc hn => ?_
        rw [vints_set, xor_bits (bA _ (List.getElem_mem _)) (bB _ (List.getElem_mem _)), zip_step (by omega) (by omega)] at g2
        simp -implicitDefEqProofs only [↓walkD, walkU, Nat.reduceEqDiff, reduceIte, e3, e4, e24, e25]; simp only [On_eq]
        have hd : Ab.blk r2 ≠ Ab.blk r1 ∨ Ab.blk r1 = none := by
          by_cases hz : Ab.blk r1 = none
          · exact .inr hz
          · left
            intro he
            cases hb1 : Ab.blk r1 with
            | none => exact hz hb1
            | some b =>
              have h1 := (g1.blk b hb1).2
              have h2 := (gB.blk b (he.trans hb1)).1
              omega
        exact ⟨H - (i + 1), by omega, i + 1, rfl, by omega, hx.chg hc gA (Nat.le_refl _), iv (wrap_succ (by omega)), g2, gB.chg hc hd.symm⟩
      · simp -implicitDefEqProofs only [↓walkD, walkU, Nat.reduceEqDiff, reduceIte, e3, e4]
        have hi' : i = H := by omega
        subst hi'
        have : (List.zipWith bx A B).take i ++ A.drop i = List.zipWith bx A B := by
          rw [List.take_of_length_le (by simp; omega), List.drop_of_length_le (by omega), List.append_nil]
        rw [this] at gA
        refine gA.app hx.n gB.sl (vints_cell _) (by omega) (by simp [vints_length]; omega) fun v' s'' g2 hc hb' => ?_
        simp -implicitDefEqProofs only [↓walkD, walkU, Nat.reduceEqDiff, reduceIte]; simp only [On_eq]
        exact ⟨hx.chg hc gA (Nat.le_refl _), by rw [vints_append]; exact g2⟩

end Go.Proofs.Ytdhiacdfblakcaa
