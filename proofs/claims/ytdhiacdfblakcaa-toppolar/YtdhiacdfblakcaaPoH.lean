/- Walks: decoding; the law. -/
import Derived.Test.YtdhiacdfblakcaaPoG
namespace Go.Proofs.Ytdhiacdfblakcaa
open Go Go.Ab

theorem any_lost {l x : List Int} (h : Cons l x) (hb : ∀ y ∈ x, isBit y) : l.any (fun x => decide (x < -1) || decide (x > 1)) = false := by
  rw [List.any_eq_false]
  intro y hy
  obtain ⟨i, hi, rfl⟩ := List.getElem_of_mem hy
  rcases h.vals hb hi with e | e
  · rw [e]; decide
  · rcases e with e | e <;> rw [e] <;> decide

theorem vbools_rep (n : Nat) : List.replicate n (Value.bool false) = vbools (List.replicate n false) := by simp [vbools]
theorem vbools_set (l : List Bool) (i : Nat) (b : Bool) : (vbools l).set i (.bool b) = vbools (l.set i b) := by simp [vbools, List.map_set]

theorem Sl.blk_lt {s : St} {v : Value} {c : List Value} (h : Sl s v c) (hne : c ≠ []) : ∀ b, blk v = some b → b < s.n := by
  rcases h with ⟨rfl, rfl⟩ | ⟨b, o, cap, rfl, hc, he, hr⟩
  · exact absurd rfl hne
  · intro b' e
    cases e
    have := List.length_pos_iff.2 hne
    rcases he with h | h
    · omega
    · exact h.1

/-- Of a word of which some is lost: what was laid in it, or nothing. -/
theorem decode_spec {m k : Nat} (hm : m ≤ 5) (hk : k ≤ 2 ^ m) {s : St} {v : Value} {w a : List Int} (hv : Sl s v (vints w)) (ha : a.length = k) (hab : ∀ x ∈ a, isBit x)
    (hc : Cons w (trL m (plc (2 ^ m) (bestL m k) a k))) (c1 : chkChan m = true) (c2 : chkStable m = true) (c3 : chkSort m k = true) :
    ACalls P 9 [.int .i64 m, .int .i64 k, v] s fun r s' => Ext s s' ∧
      ((okL (frL (2 ^ m) (bestL m k) k) m w (plc (2 ^ m) (bestL m k) a k) 0 = true ∧ ∃ v', r = .tuple #[v', .bool true, .int .i64 0] ∧ Sl s' v' (vints a)) ∨
       (okL (frL (2 ^ m) (bestL m k) k) m w (plc (2 ^ m) (bestL m k) a k) 0 = false ∧ r = .tuple #[.slice none 0 0, .bool false, .int .i64 0])) := by
  have h0 : ¬ ((m : Nat) : Int) < 0 := by omega
  have hp : 2 ^ m ≤ 2 ^ 5 := Nat.pow_le_pow_right (by omega) hm
  have hub := plc_bits (N := 2 ^ m) (l := bestL m k) hab k
  have hul := plc_length (2 ^ m) (bestL m k) a k
  have hxb := trL_bits m _ hub
  have hwl : w.length = 2 ^ m := by rw [hc.1, trL_length m _ hul]
  refine ACalls.intro h9 rfl (asem_on ?_)
  simp -implicitDefEqProofs only [↓walkD, walkU, acall_func, Nat.reduceEqDiff, reduceIte, a9, c9]
  refine (best_spec hm hk c1 c2 c3 s).then ?_
  rintro _ s1 ⟨x1, vb, rfl, hB⟩
  have lB := hB.ilen
  have eB := bestL_length hk
  rw [eB] at lB
  have hv1 := hv.ext x1
  have lv := hv.ilen
  rw [hwl] at lv
  simp -implicitDefEqProofs only [↓walkD, walkU, acall_func, Nat.reduceEqDiff, reduceIte, bne_self_eq_false, h0, shl1 hm, lv]
  refine (contains_spec (fun x => decide (x < -1) || decide (x > 1)) hv1 (by rw [hwl]; omega) fun x _ K hK => ?_).then ?_
  · simp -implicitDefEqProofs only [walkU, acall_func]
    exact (notlost_spec x _).then fun _ _ ⟨e1, e2⟩ => by rw [e1, e2]; exact hK
  rintro _ s1' ⟨rfl, hs1⟩
  obtain rfl := hs1.symm
  simp -implicitDefEqProofs only [↓walkD, walkU, Nat.reduceEqDiff, reduceIte, any_lost hc hxb, h0, shl1 hm]
  refine mks_ow (k := 2 ^ m) (by omega) (by omega) fun fv s2 x2 o2 n2 => ?_
  rw [vbools_rep] at o2
  have hone := o2.sl.one
  have hbld : (afill [.slice none 0 0, .slice none 0 0, .bool false] [(0, 1, fv)]).map (fun c => Value.agg c.toArray) = some (.agg #[fv, .slice none 0 0, .bool false]) := by
    simp [afill, ev_one fv hone, setR]
  simp -implicitDefEqProofs only [↓walkD, walkU, apure, Nat.reduceEqDiff, reduceIte, hbld, lB]
  have hnn : ∀ (ob : AObj), Ext s2 (s2.new ob) := fun ob => Ext.new ob
  refine AW.loop (fun K t' s' => ∃ i : Nat, K = k - i ∧ i ≤ k ∧ Ext s1 s' ∧ s1.n + 2 ≤ s'.n ∧ t' 0 = .int .i64 m ∧ t' 1 = .int .i64 k ∧ t' 2 = v ∧ t' 9 = vb ∧ t' 10 = ptr (s1.n + 1) 0 ∧ t' 36 = vb ∧ t' 37 = .int .i64 k ∧ t' 38 = .int .i64 i ∧
    Bx s' (s1.n + 1) [fv, .slice none 0 0, .bool false] ∧ Ow s1.n s' fv s1.n (vbools (frL (2 ^ m) (bestL m k) i))) k ?_ ?_
  · refine ⟨0, by simp, by omega, x2.trans (hnn _), by simp [St.new, n2], by simp [upd_apply, initE_0], by simp [upd_apply, initE_1], by simp [upd_apply, initE_2], by simp [upd_apply], by simp [upd_apply, n2], by simp [upd_apply], by simp [upd_apply], by simp [upd_apply], ?_, o2.ext (hnn _)⟩
    rw [← n2]
    exact ⟨Nat.lt_succ_self _, 3, St.new_self _ _⟩
  rintro K t' s' ⟨i, rfl, hi, hx, hn2, e0, e1, e2, e9, e10, e36, e37, e38, hbx, ho⟩
  refine asem_on ?_
  have hr0 : rdv s' (ptr (s1.n + 1) 0) = some fv := hbx.rdv 0
  simp -implicitDefEqProofs only [↓walkD, walkU, reduceIte, e37, e38]
  refine condB_dec (fun h => ?_) (fun h => ?_)
  · have hi' : i < k := by omega
    obtain ⟨p, p1, p2⟩ := (hB.ext hx).iel (i := i) (by omega)
    have hm1 := bestL_mem (List.getElem_mem (l := bestL m k) (n := i) (by omega))
    have ec : (bestL m k)[i]'(by omega) = (((bestL m k)[i]'(by omega)).toNat : Int) := by omega
    obtain ⟨o, o1, _⟩ := ho.sl.elem (i := ((bestL m k)[i]'(by omega)).toNat) (by rw [vbools_length, frL_length]; omega)
    rw [ec] at p2
    simp -implicitDefEqProofs only [↓walkD, walkU, apure, Nat.reduceEqDiff, reduceIte, e10, e36, e38, p1, p2, hr0, o1]
    refine ho.store o1 (by rw [vbools_length, frL_length]; omega) rfl fun s3 o3 k3 n3 => ?_
    have hs : (frL (2 ^ m) (bestL m k) i).set ((bestL m k)[i]'(by omega)).toNat true = frL (2 ^ m) (bestL m k) (i + 1) := by
      rw [frL, List.getD_eq_getElem?_getD, List.getElem?_eq_getElem (by omega)]; rfl
    rw [vbools_set, hs] at o3
    simp -implicitDefEqProofs only [↓walkD, walkU, Nat.reduceEqDiff, reduceIte, e0, e1, e2, e9, e10, e36, e37, e38]; simp only [On_eq]
    have hbv : blk fv ≠ some (s1.n + 1) := by rw [ho.blk]; simp
    exact ⟨k - (i + 1), by omega, i + 1, rfl, by omega, hx.chg k3 ho.gr (Nat.le_refl _), by omega, iv (wrap_succ (by omega)), hbx.chg k3 hbv, o3⟩
  · have hi' : i = k := by omega
    subst hi'
    simp -implicitDefEqProofs only [↓walkD, walkU, acall_func, Nat.reduceEqDiff, reduceIte, e2, e10]
    have D : Dk (s1.n + 2) s' (s1.n + 1) fv (frL (2 ^ m) (bestL m i) i) (.slice none 0 0) [] false :=
      ⟨hbx, ho.sl, Gr.nil _ _, by omega, fun b e => by rw [ho.blk] at e; cases e; omega⟩
    have hvb : ∀ b, blk v = some b → b < s1.n := Sl.blk_lt hv1 (by intro e; have := congrArg List.length e; rw [vints_length, hwl] at this; simp at this)
    refine (read_spec m hm D hn2 (hv1.ext hx) (fun b e => by have := hvb b e; exact ⟨by omega, by simp [blk]⟩) hwl hul hc (by simp [frL_length]) (by rw [frL_length]; omega)
      (fun j hj h => plc_fr hj i (by simpa using h)) hub).then ?_
    rintro r s4 ⟨bv4, bits4, D4, F4, B4, ok4⟩
    have x4 : Ext s1 s4 := ⟨Nat.le_trans hx.n F4.n, fun b hb => (F4.H b (by have := hx.n; omega) (fun e => e.elim (fun e => by omega) (fun e => by cases e))).trans (hx.H b hb)⟩
    have hl0 : ([] : List Int).length = 0 := rfl
    rw [hl0] at D4 ok4
    generalize okL (frL (2 ^ m) (bestL m i) i) m w (plc (2 ^ m) (bestL m i) a i) 0 = ok at *
    cases ok with
    | false =>
      simp -implicitDefEqProofs only [↓walkD, walkU, apure, Nat.reduceEqDiff, reduceIte, e10, D4.r2]; simp only [On_eq]
      exact ⟨x1.trans x4, by simp⟩
    | true =>
    obtain ⟨rfl, _, _⟩ := ok4 rfl
    simp -implicitDefEqProofs only [↓walkD, walkU, apure, Nat.reduceEqDiff, reduceIte, e1, e10, D4.r2]
    refine mks0_then (k := i) (by omega) (by omega) fun v5 s5 x5 g5 b5 => ?_
    simp -implicitDefEqProofs only [↓walkD, walkU, Nat.reduceEqDiff, reduceIte, e9, lB]
    refine AW.loop (fun K t' s' => ∃ j : Nat, K = i - j ∧ j ≤ i ∧ Ext s4 s' ∧ t' 10 = ptr (s1.n + 1) 0 ∧ t' 58 = vb ∧ t' 59 = .int .i64 i ∧ t' 60 = .int .i64 j ∧ Gr s4.n s' (t' 6) (vints (a.take j))) i ?_ ?_
    · exact ⟨0, by simp, by omega, x5, by simp [upd_apply, e10], by simp [upd_apply], by simp [upd_apply], by simp [upd_apply], by simpa [upd_apply, vints] using g5⟩
    rintro K t' s6 ⟨j, rfl, hj, x6, e10, e58, e59, e60, g6⟩
    refine asem_on ?_
    have D6 := D4.ext x6
    simp -implicitDefEqProofs only [↓walkD, walkU, reduceIte, e59, e60]
    refine condB_dec (fun h => ?_) (fun h => ?_)
    · have hj' : j < i := by omega
      obtain ⟨p, p1, p2⟩ := (hB.ext (x4.trans x6)).iel (i := j) (by omega)
      have hm1 := bestL_mem (List.getElem_mem (l := bestL m i) (n := j) (by omega))
      have ec : (bestL m i)[j]'(by omega) = (((bestL m i)[j]'(by omega)).toNat : Int) := by omega
      obtain ⟨o, o1, o2⟩ := D6.gr.sl.iel (i := ((bestL m i)[j]'(by omega)).toNat) (by rw [List.nil_append, plc_length]; omega)
      have hget := plc_get (N := 2 ^ m) (a := a) (bestL_nodup m i) (fun x hx => bestL_mem hx) (j := j) i hj' (by omega)
      rw [getD_at (l := bestL m i) (i := j) (by omega), getD_at (l := a) (i := j) (by omega)] at hget
      rw [← getD_at, List.nil_append, hget] at o2
      rw [ec] at p2
      simp -implicitDefEqProofs only [↓walkD, walkU, apure, Nat.reduceEqDiff, reduceIte, e10, e58, e60, p1, p2, D6.r1, o1, o2, absl_int]
      refine g6.app1 x6.n rfl (by omega) (by rw [vints_length, List.length_take]; omega) fun v' s7 g7 c7 b7 => ?_
      have hsn : a.take j ++ [a[j]'(by omega)] = a.take (j + 1) := by rw [List.take_succ_eq_append_getElem (by omega)]
      rw [vints_snoc, hsn] at g7
      simp -implicitDefEqProofs only [↓walkD, walkU, Nat.reduceEqDiff, reduceIte, e10, e58, e59, e60]; simp only [On_eq]
      exact ⟨i - (j + 1), by omega, j + 1, rfl, by omega, x6.chg c7 g6 (Nat.le_refl _), iv (wrap_succ (by omega)), g7⟩
    · have hj' : j = i := by omega
      subst hj'
      rw [List.take_of_length_le (by omega)] at g6
      simp -implicitDefEqProofs only [↓walkD, walkU, Nat.reduceEqDiff, reduceIte]; simp only [On_eq]
      exact ⟨(x1.trans x4).trans x6, by simpa using g6.sl⟩

end Go.Proofs.Ytdhiacdfblakcaa
