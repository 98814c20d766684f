/- Walks: the law's own helpers. -/
import Derived.Test.YtdhiacdfblakcaaPoTab
namespace Go.Proofs.Ytdhiacdfblakcaa
open Go Go.Ab

theorem take_succ_eq {l m : List Int} {i : Nat} (h : l.take i = m.take i) (hi : i < l.length) (hj : i < m.length) (he : l[i] = m[i]) : l.take (i + 1) = m.take (i + 1) := by
  rw [List.take_succ_eq_append_getElem hi, List.take_succ_eq_append_getElem hj, h, he]

theorem same_spec {s : St} {v w : Value} {l m : List Int} (hv : Sl s v (vints l)) (hw : Sl s w (vints m)) (hl : l.length < 2 ^ 62) : ACalls P 11 [v, w] s fun r s' => r = .bool (decide (l = m)) ∧ s' = s := by
  have l1 := hv.ilen
  have l2 := hw.ilen
  refine ACalls.intro h11 rfl (asem_on ?_)
  simp -implicitDefEqProofs only [↓walkD, walkU, Nat.reduceEqDiff, reduceIte, a11, c11, l1, l2]
  refine condB_bne (fun h => ?_) (fun h => ?_)
  · simp -implicitDefEqProofs only [↓walkD, walkU, Nat.reduceEqDiff, reduceIte]; simp only [On_eq, and_true]
    rw [eq_comm, Value.bool.injEq, decide_eq_false_iff_not]
    rintro rfl; exact h rfl
  have hlen : l.length = m.length := by simp only [Int.natCast_inj] at h; exact h
  simp -implicitDefEqProofs only [↓walkD, walkU]
  refine AW.loop (fun n t' s' => ∃ i : Nat, n = l.length - i ∧ i ≤ l.length ∧ s' = s ∧ t' 0 = v ∧ t' 1 = w ∧ t' 5 = .int .i64 i ∧ l.take i = m.take i) l.length ⟨0, by simp [upd_apply, initE_0, initE_1]⟩ ?_
  rintro n t' s' ⟨i, rfl, hi, rfl, e0, e1, e5, ht⟩
  refine asem_on ?_
  simp -implicitDefEqProofs only [↓walkD, walkU, Nat.reduceEqDiff, reduceIte, e0, e5, l1]
  refine condB_dec (fun h => ?_) (fun h => ?_)
  · have hi' : i < l.length := by omega
    obtain ⟨p1, p2, p3⟩ := hv.iel hi'
    obtain ⟨q1, q2, q3⟩ := hw.iel (i := i) (by omega)
    simp -implicitDefEqProofs only [↓walkD, walkU, Nat.reduceEqDiff, reduceIte, e0, e1, e5, p2, q2, p3, q3]
    refine condB_bne (fun hne => ?_) (fun heq => ?_)
    · simp -implicitDefEqProofs only [↓walkD, walkU, Nat.reduceEqDiff, reduceIte]; simp only [On_eq, and_true]
      rw [eq_comm, Value.bool.injEq, decide_eq_false_iff_not]
      rintro rfl; exact hne rfl
    · simp -implicitDefEqProofs only [↓walkD, walkU, Nat.reduceEqDiff, reduceIte, e0, e1, e5]; simp only [On_eq, true_and]
      exact ⟨l.length - (i + 1), by omega, i + 1, rfl, hi', iv (wrap_succ (by omega)), take_succ_eq ht hi' (by omega) heq⟩
  · simp -implicitDefEqProofs only [↓walkD, walkU, Nat.reduceEqDiff, reduceIte]; simp only [On_eq, and_true]
    have : i = l.length := by omega
    subst this
    rw [List.take_length, hlen, List.take_length] at ht
    rw [eq_comm, Value.bool.injEq, decide_eq_true_eq]; exact ht

def inR (c : Int) : Prop := -9223372036854775808 ≤ c ∧ c ≤ 9223372036854775807

/-- A number out of n, of any number. -/
def pickN (c : Int) (n : Nat) : Nat := (if c < 0 then -(c + 1) else c).toNat % n

theorem pickN_lt (c : Int) {n : Nat} (h : 0 < n) : pickN c n < n := Nat.mod_lt _ h

theorem pick_spec {c : Int} {n : Nat} (hc : inR c) (hn : 0 < n) (s : St) : ACalls P 4 [.int .i64 c, .int .i64 n] s fun r s' => r = .int .i64 (pickN c n) ∧ s' = s := by
  have h0 : ¬ (n : Int) = 0 := by omega
  refine ACalls.intro h4 rfl (asem_on ?_)
  obtain ⟨h1, h2⟩ := hc
  simp -implicitDefEqProofs only [↓walkD, walkU, Nat.reduceEqDiff, reduceIte, a4, c4]
  refine condB_dec (fun h => ?_) (fun h => ?_)
  · have e1 : IntKind.i64.wrap (c + 1) = c + 1 := w64 (by omega) (by omega)
    have e2 : IntKind.i64.wrap (0 - (c + 1)) = -(c + 1) := by rw [w64 (by omega) (by omega)]; omega
    simp -implicitDefEqProofs only [↓walkD, walkU, Nat.reduceEqDiff, reduceIte, h0, e1, e2]; simp only [On_eq, and_true]
    rw [pickN, if_pos h]
    have : (-(c + 1)) = (((-(c + 1)).toNat : Nat) : Int) := by omega
    rw [this, tmod_nat]
    simp
  · simp -implicitDefEqProofs only [↓walkD, walkU, Nat.reduceEqDiff, reduceIte, h0]; simp only [On_eq, and_true]
    rw [pickN, if_neg h]
    have : c = ((c.toNat : Nat) : Int) := by omega
    rw [this, tmod_nat]
    simp

/-- The i-th of raw numbers. -/
def rawI (l : List Int) (i : Nat) : Int := if l.length = 0 then i else IntKind.i64.wrap (l.getD (i % l.length) 0 + IntKind.i64.wrap (((i / l.length : Nat) : Int) * 7919))

theorem rawI_inR (l : List Int) {i : Nat} (h : i < 2 ^ 40) : inR (rawI l i) := by
  unfold rawI
  split
  · exact ⟨by omega, by omega⟩
  · exact w64_range _

theorem raw_spec {s : St} {v : Value} {l : List Int} {i : Nat} (hv : Sl s v (vints l)) (hi : i < 2 ^ 40) : ACalls P 13 [v, .int .i64 i] s fun r s' => r = .int .i64 (rawI l i) ∧ s' = s := by
  have l1 := hv.ilen
  refine ACalls.intro h13 rfl (asem_on ?_)
  simp -implicitDefEqProofs only [↓walkD, walkU, Nat.reduceEqDiff, reduceIte, a13, c13, l1]
  refine condB_beq (fun h => ?_) (fun h => ?_)
  · simp -implicitDefEqProofs only [↓walkD, walkU, Nat.reduceEqDiff, reduceIte]; simp only [On_eq, and_true]
    rw [rawI, if_pos (by omega)]
  · have hpos : 0 < l.length := by omega
    have hlt : i % l.length < l.length := Nat.mod_lt _ hpos
    have hne : ¬ (l.length : Int) = 0 := by omega
    have em : (i : Int).tmod (l.length : Int) = ((i % l.length : Nat) : Int) := tmod_nat _ _
    have ed : (i : Int).tdiv (l.length : Int) = ((i / l.length : Nat) : Int) := tdiv_nat _ _
    have hd : i / l.length < 2 ^ 62 := Nat.lt_of_le_of_lt (Nat.div_le_self _ _) (by omega)
    obtain ⟨p, p2, p3⟩ := hv.iel hlt
    simp -implicitDefEqProofs only [↓walkD, walkU, Nat.reduceEqDiff, reduceIte, hne, em, ed, wrap_nat hd, l1, p2, p3]; simp only [On_eq, and_true]
    rw [rawI, if_neg (by omega), List.getD_eq_getElem?_getD, List.getElem?_eq_getElem hlt]
    rfl

/-- A bit out of any number. -/
def bitI (x : Int) : Int := ((pickN x 4 % 2 : Nat) : Int)
def wordL (l : List Int) (fr n : Nat) : List Int := (List.range n).map fun i => bitI (rawI l (fr + i))

theorem wordL_length (l : List Int) (fr n : Nat) : (wordL l fr n).length = n := by simp [wordL]
theorem wordL_succ (l : List Int) (fr n : Nat) : wordL l fr (n + 1) = wordL l fr n ++ [bitI (rawI l (fr + n))] := by simp [wordL, List.range_succ]
theorem wordL_bit (l : List Int) (fr n : Nat) : ∀ x ∈ wordL l fr n, x = 0 ∨ x = 1 := by
  intro x hx
  simp only [wordL, List.mem_map] at hx
  obtain ⟨i, _, rfl⟩ := hx
  unfold bitI
  omega

theorem word_spec {s : St} {v : Value} {l : List Int} {fr n : Nat} (hv : Sl s v (vints l)) (hn : fr + n < 2 ^ 39) :
    ACalls P 6 [v, .int .i64 fr, .int .i64 n, .bool false] s fun r s' => Ext s s' ∧ Gr s.n s' r (vints (wordL l fr n)) := by
  refine ACalls.intro h6 rfl (asem_on ?_)
  simp -implicitDefEqProofs only [↓walkD, walkU, a6, c6]
  refine AW.loop (fun k t' s' => ∃ i : Nat, k = n - i ∧ i ≤ n ∧ Ext s s' ∧ t' 0 = v ∧ t' 1 = .int .i64 fr ∧ t' 2 = .int .i64 n ∧ t' 3 = .bool false ∧ t' 10 = .int .i64 i ∧ Gr s.n s' (t' 9) (vints (wordL l fr i))) n
    ⟨0, by simp [upd_apply, initE_0, initE_1, initE_2, initE_3, Ext.refl, wordL, vints, Gr.nil]⟩ ?_
  rintro k t' s' ⟨i, rfl, hi, hk, e0, e1, e2, e3, e10, hg⟩
  refine asem_on ?_
  simp -implicitDefEqProofs only [↓walkD, walkU, Nat.reduceEqDiff, reduceIte, e2, e10]
  refine condB_dec (fun h => ?_) (fun h => ?_)
  · have hi' : i < n := by omega
    simp -implicitDefEqProofs only [↓walkD, walkU, acall_func, Nat.reduceEqDiff, reduceIte, e0, e1, e10, wrap_add (show fr + i < 2 ^ 62 by omega)]
    refine (raw_spec (hv.ext hk) (by omega)).then ?_
    rintro _ _ ⟨rfl, rfl⟩
    simp -implicitDefEqProofs only [↓walkD, walkU, acall_func, Nat.reduceEqDiff, reduceIte]
    refine (pick_spec (n := 4) (rawI_inR l (by omega)) (by omega) _).then ?_
    rintro _ _ ⟨rfl, rfl⟩
    simp -implicitDefEqProofs only [↓walkD, walkU, Nat.reduceEqDiff, reduceIte]
    have hb := pickN_lt (rawI l (fr + i)) (n := 4) (by omega)
    have hx : ∀ h : ((pickN (rawI l (fr + i)) 4 : Nat) : Int) > 1, IntKind.i64.wrap (((pickN (rawI l (fr + i)) 4 : Nat) : Int) - 2) = bitI (rawI l (fr + i)) := fun h => by
      rw [w64 (by omega) (by omega), bitI]; omega
    have hx' : ∀ h : ¬ ((pickN (rawI l (fr + i)) 4 : Nat) : Int) > 1, ((pickN (rawI l (fr + i)) 4 : Nat) : Int) = bitI (rawI l (fr + i)) := fun h => by
      rw [bitI]; omega
    refine condB_dec (fun h2 => ?_) (fun h2 => ?_)
    · simp -implicitDefEqProofs only [↓walkD, walkU, Nat.reduceEqDiff, reduceIte, e3, absl_int, hx h2]
      refine hg.app1 hk.n rfl (by omega) (by simp [wordL_length, vints_length]; omega) fun v' s'' hg' hc' hb' => ?_
      simp -implicitDefEqProofs only [↓walkD, walkU, Nat.reduceEqDiff, reduceIte, e0, e1, e2, e3, e10]; simp only [On_eq]
      exact ⟨n - (i + 1), by omega, i + 1, rfl, by omega, hk.chg hc' hg (Nat.le_refl _), iv (wrap_succ (by omega)), by rw [wordL_succ, ← vints_snoc]; exact hg'⟩
    · simp -implicitDefEqProofs only [↓walkD, walkU, Nat.reduceEqDiff, reduceIte, absl_int, hx' h2]
      refine hg.app1 hk.n rfl (by omega) (by simp [wordL_length, vints_length]; omega) fun v' s'' hg' hc' hb' => ?_
      simp -implicitDefEqProofs only [↓walkD, walkU, Nat.reduceEqDiff, reduceIte, e0, e1, e2, e3, e10]; simp only [On_eq]
      exact ⟨n - (i + 1), by omega, i + 1, rfl, by omega, hk.chg hc' hg (Nat.le_refl _), iv (wrap_succ (by omega)), by rw [wordL_succ, ← vints_snoc]; exact hg'⟩
  · simp -implicitDefEqProofs only [↓walkD, walkU, Nat.reduceEqDiff, reduceIte]; simp only [On_eq]
    have : i = n := by omega
    subst this
    exact ⟨hk, hg⟩

end Go.Proofs.Ytdhiacdfblakcaa
