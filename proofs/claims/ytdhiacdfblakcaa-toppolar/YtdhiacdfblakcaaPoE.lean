/- Walks: encoding. -/
import Derived.Test.YtdhiacdfblakcaaPoQ
namespace Go.Proofs.Ytdhiacdfblakcaa
open Go Go.Ab

theorem shl1 {m : Nat} (hm : m ≤ 5) : IntKind.i64.wrap (1 * 2 ^ min ((m : Nat) : Int).toNat IntKind.i64.bits) = ((2 ^ m : Nat) : Int) := by
  have : m = 0 ∨ m = 1 ∨ m = 2 ∨ m = 3 ∨ m = 4 ∨ m = 5 := by omega
  rcases this with rfl | rfl | rfl | rfl | rfl | rfl <;> decide

theorem any_false {l : List Int} (h : ∀ x ∈ l, isBit x) : l.any (fun x => x != 0 && x != 1) = false := by
  rw [List.any_eq_false]
  intro x hx
  rcases h x hx with rfl | rfl <;> simp

theorem transf_spec {m : Nat} (hm : m ≤ 5) {s : St} {v : Value} {w : List Int} (hv : Sl s v (vints w)) (hl : w.length = 2 ^ m) (hb : ∀ x ∈ w, isBit x) :
    ACalls P 10 [.int .i64 m, v] s fun r s' => Ext s s' ∧ ∃ v', r = .tuple #[v', .int .i64 0] ∧ Gr s.n s' v' (vints (trL m w)) := by
  have l1 := hv.ilen
  refine ACalls.intro h10 rfl (asem_on ?_)
  simp -implicitDefEqProofs only [↓walkD, walkU, acall_func, Nat.reduceEqDiff, reduceIte, a10, c10]
  refine (level_spec hm s).then ?_
  rintro _ _ ⟨rfl, rfl⟩
  have h0 : ¬ ((m : Nat) : Int) < 0 := by omega
  simp -implicitDefEqProofs only [↓walkD, walkU, acall_func, Nat.reduceEqDiff, reduceIte, bne_self_eq_false, l1, h0, shl1 hm, hl]
  refine (contains_spec (fun x => x != 0 && x != 1) hv (by rw [hl]; exact Nat.lt_of_le_of_lt (Nat.pow_le_pow_right (by omega) hm) (by decide)) fun x _ K hK => ?_).then ?_
  · simp -implicitDefEqProofs only [walkU, acall_func]
    exact (notbit_spec x _).then fun _ _ ⟨e1, e2⟩ => by rw [e1, e2]; exact hK
  rintro _ _ ⟨rfl, rfl⟩
  simp -implicitDefEqProofs only [↓walkD, walkU, acall_func, Nat.reduceEqDiff, reduceIte, any_false hb]
  refine (transform_spec m hm hv hl hb).then ?_
  rintro r s1 ⟨x1, g1⟩
  simp -implicitDefEqProofs only [↓walkD, walkU, Nat.reduceEqDiff, reduceIte]; simp only [On_eq]
  exact ⟨x1, _, rfl, g1⟩

theorem encode_spec {m : Nat} (hm : m ≤ 5) {s : St} {v : Value} {a : List Int} (hv : Sl s v (vints a)) (hk : a.length ≤ 2 ^ m) (hb : ∀ x ∈ a, isBit x)
    (c1 : chkChan m = true) (c2 : chkStable m = true) (c3 : chkSort m a.length = true) :
    ACalls P 7 [.int .i64 m, v] s fun r s' => Ext s s' ∧ ∃ v', r = .tuple #[v', .int .i64 0] ∧ Gr s.n s' v' (vints (trL m (plc (2 ^ m) (bestL m a.length) a a.length))) := by
  have l1 := hv.ilen
  have h0 : ¬ ((m : Nat) : Int) < 0 := by omega
  have hp : 2 ^ m ≤ 2 ^ 5 := Nat.pow_le_pow_right (by omega) hm
  refine ACalls.intro h7 rfl (asem_on ?_)
  simp -implicitDefEqProofs only [↓walkD, walkU, acall_func, Nat.reduceEqDiff, reduceIte, a7, c7, l1]
  refine (best_spec hm hk c1 c2 c3 s).then ?_
  rintro _ s1 ⟨x1, vb, rfl, hB⟩
  have lB := hB.ilen
  have eB := bestL_length hk
  rw [eB] at lB
  simp -implicitDefEqProofs only [↓walkD, walkU, Nat.reduceEqDiff, reduceIte, bne_self_eq_false, h0, shl1 hm]
  refine mks_ow (k := 2 ^ m) (by omega) (by omega) fun va s2 x2 o2 n2 => ?_
  simp -implicitDefEqProofs only [↓walkD, walkU, Nat.reduceEqDiff, reduceIte, lB]
  refine AW.loop (fun K t' s' => ∃ i : Nat, K = a.length - i ∧ i ≤ a.length ∧ Ext s1 s' ∧ t' 0 = .int .i64 m ∧ t' 1 = v ∧ t' 8 = va ∧ t' 24 = vb ∧ t' 25 = .int .i64 (a.length : Nat) ∧ t' 26 = .int .i64 i ∧
    Ow s1.n s' va s1.n (vints (plc (2 ^ m) (bestL m a.length) a i))) a.length ?_ ?_
  · exact ⟨0, by simp, by omega, x2, by simp [upd_apply, initE_0], by simp [upd_apply, initE_1], by simp [upd_apply], by simp [upd_apply], by simp [upd_apply], by simp [upd_apply], by simpa [plc, ← vints_rep] using o2⟩
  rintro K t' s' ⟨i, rfl, hi, hx, e0, e1, e8, e24, e25, e26, ho⟩
  refine asem_on ?_
  simp -implicitDefEqProofs only [↓walkD, walkU, reduceIte, e25, e26]
  refine condB_dec (fun h => ?_) (fun h => ?_)
  · have hi' : i < a.length := by omega
    obtain ⟨p, p1, p2⟩ := (hB.ext hx).iel (i := i) (by omega)
    obtain ⟨q, q1, q2⟩ := ((hv.ext x1).ext hx).iel hi'
    have hm1 := bestL_mem (List.getElem_mem (l := bestL m a.length) (n := i) (by omega))
    have ec : (bestL m a.length)[i]'(by omega) = (((bestL m a.length)[i]'(by omega)).toNat : Int) := by omega
    obtain ⟨o, o1, _⟩ := ho.sl.iel (i := ((bestL m a.length)[i]'(by omega)).toNat) (by rw [plc_length]; omega)
    rw [ec] at p2
    simp -implicitDefEqProofs only [↓walkD, walkU, Nat.reduceEqDiff, reduceIte, e1, e8, e24, e26, p1, p2, q1, q2, o1]
    refine ho.store o1 (by rw [vints_length, plc_length]; omega) rfl fun s3 o3 k3 n3 => ?_
    have hs : (plc (2 ^ m) (bestL m a.length) a i).set ((bestL m a.length)[i]'(by omega)).toNat a[i] = plc (2 ^ m) (bestL m a.length) a (i + 1) := by
      rw [plc, List.getD_eq_getElem?_getD, List.getElem?_eq_getElem (by omega), List.getD_eq_getElem?_getD, List.getElem?_eq_getElem hi']; rfl
    rw [vints_set, hs] at o3
    simp -implicitDefEqProofs only [↓walkD, walkU, Nat.reduceEqDiff, reduceIte, e0, e1, e8, e24, e25, e26]; simp only [On_eq]
    exact ⟨a.length - (i + 1), by omega, i + 1, rfl, by omega, hx.chg k3 ho.gr (Nat.le_refl _), iv (wrap_succ (by omega)), o3⟩
  · have hi' : i = a.length := by omega
    subst hi'
    simp -implicitDefEqProofs only [↓walkD, walkU, acall_func, Nat.reduceEqDiff, reduceIte, e0, e8]
    refine (transf_spec hm ho.sl (plc_length _ _ _ _) (plc_bits hb _)).then ?_
    rintro _ s4 ⟨x4, v4, rfl, g4⟩
    simp -implicitDefEqProofs only [↓walkD, walkU, Nat.reduceEqDiff, reduceIte]; simp only [On_eq]
    exact ⟨(x1.trans hx).trans x4, _, rfl, g4.mono (Nat.le_trans x1.n hx.n)⟩

end Go.Proofs.Ytdhiacdfblakcaa
