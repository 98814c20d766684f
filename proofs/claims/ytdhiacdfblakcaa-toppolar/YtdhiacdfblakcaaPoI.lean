/- The law's simp -implicitDefEqProofs only [↓walkD, walkU, acall_func, apure, Nat.reduceEqDiff, reduceIte]. -/
import Derived.Test.YtdhiacdfblakcaaPoH
import Derived.Test.YtdhiacdfblakcaaPoSortA
import Derived.Test.YtdhiacdfblakcaaPoSortB
import Derived.Test.YtdhiacdfblakcaaPoSortC
import Derived.Test.YtdhiacdfblakcaaPoSortD
namespace Go.Proofs.Ytdhiacdfblakcaa
open Go Go.Ab

theorem sorts {m k : Nat} (hm : m ≤ 5) (hk : k ≤ 2 ^ m) : chkSort m k = true := by
  by_cases h5 : m = 5
  · subst h5
    have hk' : k ≤ 32 := hk
    by_cases h1 : k < 18
    · exact List.all_eq_true.1 sort_5a k (List.mem_range.2 h1)
    · by_cases h2 : k < 26
      · have := List.all_eq_true.1 sort_5b (k - 18) (List.mem_range.2 (by omega))
        have e : 18 + (k - 18) = k := by omega
        rw [e] at this; exact this
      · have := List.all_eq_true.1 sort_5c (k - 26) (List.mem_range.2 (by omega))
        have e : 26 + (k - 26) = k := by omega
        rw [e] at this; exact this
  · exact List.all_eq_true.1 (List.all_eq_true.1 sort_small m (List.mem_range.2 (by omega))) k (List.mem_range.2 (by omega))
theorem chans {m : Nat} (hm : m ≤ 5) : chkChan m = true := List.all_eq_true.1 chan_all m (List.mem_range.2 (by omega))
theorem stables {m : Nat} (hm : m ≤ 5) : chkStable m = true := List.all_eq_true.1 stable_all m (List.mem_range.2 (by omega))

def sumW (l : List Int) : Nat → Int
  | 0 => 0
  | i + 1 => IntKind.i64.wrap (sumW l i + l.getD i 0)
def halfW (m : Nat) : Int := IntKind.i64.wrap ((IntKind.i64.wrap (((2 ^ m : Nat) : Int) * 2 ^ min (2 ^ m) 64)).tdiv 2)
theorem sum_half {m : Nat} (hm : m ≤ 5) : sumW (chanL m) (2 ^ m) = halfW m := by
  have : (List.range 6).all (fun m => ieq (sumW (chanL m) (2 ^ m)) (halfW m)) = true := by kernel_rfl
  have := List.all_eq_true.1 this m (List.mem_range.2 (by omega))
  rw [ieq_eq, beq_iff_eq] at this
  exact this

theorem shlu {m : Nat} (hm : m ≤ 5) : IntKind.u64.wrap (1 * 2 ^ min ((m : Nat) : Int).toNat IntKind.u64.bits) = ((2 ^ m : Nat) : Int) := by
  have : m = 0 ∨ m = 1 ∨ m = 2 ∨ m = 3 ∨ m = 4 ∨ m = 5 := by omega
  rcases this with rfl | rfl | rfl | rfl | rfl | rfl <;> decide

/-- What is lost. -/
def erB (w ls : List Int) : Nat → List Int
  | 0 => w
  | i + 1 => (erB w ls i).set (pickN (ls.getD i 0) w.length) (-1)
def erF (w ls : List Int) (less : Int) : Nat → List Int
  | 0 => w
  | i + 1 => if pickN (IntKind.i64.wrap (less + (i : Int))) 3 > 0 then (erF w ls less i).set (pickN (ls.getD i 0) w.length) (-1) else erF w ls less i

theorem erB_length (w ls : List Int) : ∀ i, (erB w ls i).length = w.length
  | 0 => rfl
  | i + 1 => by rw [erB, List.length_set, erB_length w ls i]
theorem erF_length (w ls : List Int) (less : Int) : ∀ i, (erF w ls less i).length = w.length
  | 0 => rfl
  | i + 1 => by
    rw [erF]; split
    · rw [List.length_set, erF_length w ls less i]
    · exact erF_length w ls less i

theorem cons_set {a w : List Int} (h : Cons a w) (p : Nat) : Cons (a.set p (-1)) w := by
  refine ⟨by rw [List.length_set]; exact h.1, fun i hi => ?_⟩
  by_cases e : p = i
  · subst e; left
    rw [List.getD_eq_getElem?_getD, List.getElem?_set_self (by rw [h.1]; exact hi)]; rfl
  · have := h.2 i hi
    rw [List.getD_eq_getElem?_getD, List.getElem?_set_ne e, ← List.getD_eq_getElem?_getD]
    exact this
theorem cons_refl (w : List Int) : Cons w w := ⟨rfl, fun _ _ => .inr rfl⟩
theorem erB_cons (w ls : List Int) : ∀ i, Cons (erB w ls i) w
  | 0 => cons_refl w
  | i + 1 => cons_set (erB_cons w ls i) _
theorem erF_cons (w ls : List Int) (less : Int) : ∀ i, Cons (erF w ls less i) w
  | 0 => cons_refl w
  | i + 1 => by
    rw [erF]; split
    · exact cons_set (erF_cons w ls less i) _
    · exact erF_cons w ls less i
theorem er_less (w ls : List Int) (less : Int) : ∀ i, Less (erB w ls i) (erF w ls less i)
  | 0 => fun _ => .inr rfl
  | i + 1 => fun j => by
    have h := er_less w ls less i j
    have l1 := erB_length w ls i
    have l2 := erF_length w ls less i
    simp only [erB, erF]
    generalize pickN (ls.getD i 0) w.length = p
    by_cases e : p = j
    · subst e
      by_cases hj : p < w.length
      · left
        rw [List.getD_eq_getElem?_getD, List.getElem?_set_self (by omega)]; rfl
      · right
        have g : ∀ a : List Int, a.length = w.length → a.getD p 0 = 0 := fun a ha => by rw [List.getD_eq_getElem?_getD, List.getElem?_eq_none (by omega)]; rfl
        rw [g _ (by rw [List.length_set]; omega)]
        split
        · rw [g _ (by rw [List.length_set]; omega)]
        · rw [g _ (by omega)]
    · rw [List.getD_eq_getElem?_getD, List.getElem?_set_ne e, ← List.getD_eq_getElem?_getD]
      split
      · rw [List.getD_eq_getElem?_getD (l := (erF w ls less i).set p (-1)), List.getElem?_set_ne e, ← List.getD_eq_getElem?_getD]; exact h
      · exact h

theorem chanL_length : ∀ m, (chanL m).length = 2 ^ m
  | 0 => rfl
  | m + 1 => by
    have : ∀ (f : Int → Int × Int) (l : List Int), (l.flatMap fun v => [(f v).1, (f v).2]).length = l.length + l.length := by
      intro f l
      induction l with
      | nil => rfl
      | cons x l ih => simp only [List.flatMap_cons, List.length_append, ih, List.length_cons, List.length_nil]; omega
    rw [chanL]
    have h := this (fun v => (IntKind.i64.wrap (IntKind.i64.wrap (IntKind.i64.wrap (2 * v) * (2 ^ (2 ^ m))) - IntKind.i64.wrap (v * v)), IntKind.i64.wrap (v * v))) (chanL m)
    rw [chanL_length m] at h
    rw [Nat.pow_succ]
    exact h.trans (by omega)

theorem decode2 {m k : Nat} (hm : m ≤ 5) (hk : k ≤ 2 ^ m) {s : St} {v : Value} {w a : List Int} (hv : Sl s v (vints w)) (ha : a.length = k) (hab : ∀ x ∈ a, isBit x)
    (hc : Cons w (trL m (plc (2 ^ m) (bestL m k) a k))) :
    ACalls P 9 [.int .i64 m, .int .i64 k, v] s fun r s' => Ext s s' ∧ ∃ v', r = .tuple #[v', .bool (okL (frL (2 ^ m) (bestL m k) k) m w (plc (2 ^ m) (bestL m k) a k) 0), .int .i64 0] ∧
      (okL (frL (2 ^ m) (bestL m k) k) m w (plc (2 ^ m) (bestL m k) a k) 0 = true → Sl s' v' (vints a)) := by
  refine (decode_spec hm hk hv ha hab hc (chans hm) (stables hm) (sorts hm hk)).mono ?_
  rintro r s' ⟨hx, h⟩
  refine ⟨hx, ?_⟩
  rcases h with ⟨e, v', rfl, hs⟩ | ⟨e, rfl⟩
  · exact ⟨v', by rw [e], fun _ => hs⟩
  · exact ⟨_, by rw [e], fun h => by rw [e] at h; cases h⟩

theorem isB_undef (b : Bool) : isB undefV b = false := rfl

set_option maxHeartbeats 2000000 in
set_option maxRecDepth 20000 in
theorem law {s : St} {vr vl : Value} {raw lost : List Int} {m0 k0 less : Int} (hr : Sl s vr (vints raw)) (hl : Sl s vl (vints lost)) (hr0 : raw.length < 2 ^ 60) (hl0 : lost.length < 2 ^ 60) (hls : ∀ x ∈ lost, inR x) (hm0 : inR m0) (hk0 : inR k0) (hless : inR less) :
    ACalls P 3 [vr, .int .i64 m0, .int .i64 k0, vl, .int .i64 less] s fun r s' => r = .bool true ∧ Ext s s' := by
  have lr := hr.ilen
  have ll := hl.ilen
  refine ACalls.intro h3 rfl (asem_on ?_)
  simp -implicitDefEqProofs only [↓walkD, walkU, Nat.reduceEqDiff, reduceIte, a3, c3, lr, ll, wrap_add (show raw.length + lost.length < 2 ^ 62 by omega)]
  refine condB_dec (fun h => ?_) (fun h => ?_)
  · simp -implicitDefEqProofs only [↓walkD, walkU, Nat.reduceEqDiff, reduceIte]; simp only [On_eq]
    exact Ext.refl _
  simp -implicitDefEqProofs only [↓walkD, walkU, acall_func, Nat.reduceEqDiff, reduceIte]
  refine (pick_spec (n := 6) hm0 (by omega) s).then ?_
  rintro _ _ ⟨rfl, hs⟩; obtain rfl := hs.symm; clear hs
  have hm : pickN m0 6 ≤ 5 := by have := pickN_lt m0 (n := 6) (by omega); omega
  generalize pickN m0 6 = m at *
  have hp : 2 ^ m ≤ 2 ^ 5 := Nat.pow_le_pow_right (by omega) hm
  have hp0 : 0 < 2 ^ m := Nat.two_pow_pos m
  have h0 : ¬ ((m : Nat) : Int) < 0 := by omega
  simp -implicitDefEqProofs only [↓walkD, walkU, acall_func, Nat.reduceEqDiff, reduceIte, h0, shl1 hm, wrap_succ (show 2 ^ m < 2 ^ 62 by omega)]
  refine (pick_spec (n := 2 ^ m + 1) hk0 (by omega) s).then ?_
  rintro _ _ ⟨rfl, hs⟩; obtain rfl := hs.symm; clear hs
  have hk : pickN k0 (2 ^ m + 1) ≤ 2 ^ m := by have := pickN_lt k0 (n := 2 ^ m + 1) (by omega); omega
  generalize pickN k0 (2 ^ m + 1) = k at *
  have cs := sorts hm hk
  have cc := chans hm
  have cst := stables hm
  simp -implicitDefEqProofs only [↓walkD, walkU, acall_func, Nat.reduceEqDiff, reduceIte]
  refine (chan_at cc s).then ?_
  rintro _ _ ⟨b, n', hb1, hb2, rfl, rfl⟩
  have xs : Ext s (s.add b (.cells (vints (chanL m)) 1 (exC m)) n') := Ext.add hb1 (by omega) _
  have hch : Sl (s.add b (.cells (vints (chanL m)) 1 (exC m)) n') (.slice (some ⟨b, 0, none⟩) (2 ^ m) (2 ^ m)) (vints (chanL m)) := by
    refine .inr ⟨b, 0, 2 ^ m, by rw [vints_length, chanL_length], by rw [vints_length, chanL_length]; omega, .inr ⟨hb2, by simp [St.add, objEsz]⟩, fun i hi => ?_⟩
    rw [rd_cells (c := vints (chanL m)) (e := 1) (x := exC m) (by simp [St.add]), Nat.zero_add, List.getElem?_eq_getElem hi]
  generalize s.add b (.cells (vints (chanL m)) 1 (exC m)) n' = s1 at *
  generalize Value.slice (some ⟨b, 0, none⟩) (2 ^ m) (2 ^ m) = vc at *
  have lc := hch.ilen
  rw [chanL_length] at lc
  simp -implicitDefEqProofs only [↓walkD, walkU, Nat.reduceEqDiff, reduceIte, i64, bne_self_eq_false, h0, shl1 hm, lc]
  refine AW.loop (fun K t' s' => ∃ i : Nat, K = 2 ^ m - i ∧ i ≤ 2 ^ m ∧ s' = s1 ∧ t' 0 = vr ∧ t' 1 = .int .i64 m ∧ t' 2 = .int .i64 k ∧ t' 3 = vl ∧ t' 4 = .int .i64 less ∧ t' 11 = vc ∧ t' 13 = .int .i64 (sumW (chanL m) i) ∧ t' 14 = .int .i64 i) (2 ^ m) ?_ ?_
  · exact ⟨0, by simp, by omega, rfl, by simp [upd_apply, initE_0], by simp [upd_apply], by simp [upd_apply], by simp [upd_apply, initE_3], by simp [upd_apply, initE_4], by simp [upd_apply], by simp [upd_apply, sumW], by simp [upd_apply]⟩
  rintro K t' s' ⟨i, rfl, hi, rfl, e0, e1, e2, e3, e4, e11, e13, e14⟩
  refine asem_on ?_
  simp -implicitDefEqProofs only [↓walkD, walkU, Nat.reduceEqDiff, reduceIte, e11, e14, lc]
  refine condB_dec (fun h => ?_) (fun h => ?_)
  · have hi' : i < 2 ^ m := by omega
    obtain ⟨p, p1, p2⟩ := hch.iel (i := i) (by rw [chanL_length]; exact hi')
    rw [← getD_at] at p2
    simp -implicitDefEqProofs only [↓walkD, walkU, Nat.reduceEqDiff, reduceIte, e0, e1, e2, e3, e4, e11, e13, e14, p1, p2]; simp only [On_eq, true_and]
    exact ⟨2 ^ m - (i + 1), by omega, i + 1, rfl, by omega, rfl, iv (wrap_succ (by omega))⟩
  have hi' : i = 2 ^ m := by omega
  subst hi'
  have h0' : ¬ ((2 ^ m : Nat) : Int) < 0 := by omega
  have hsh : IntKind.i64.wrap (((2 ^ m : Nat) : Int) * 2 ^ min ((2 ^ m : Nat) : Int).toNat IntKind.i64.bits) = IntKind.i64.wrap (((2 ^ m : Nat) : Int) * 2 ^ min (2 ^ m) 64) := rfl
  have hhf : IntKind.i64.wrap ((IntKind.i64.wrap (((2 ^ m : Nat) : Int) * 2 ^ min (2 ^ m) 64)).tdiv 2) = halfW m := rfl
  rw [sum_half hm] at e13
  simp -implicitDefEqProofs only [↓walkD, walkU, acall_func, Nat.reduceEqDiff, reduceIte, e0, e1, e2, e13, h0, h0', shl1 hm, shlu hm, hsh, hhf, Int.reduceEq, bne_self_eq_false]
  refine (word_spec (fr := 0) (hr.ext xs) (by omega)).then ?_
  rintro va s2 ⟨x2, ga⟩
  have la := wordL_length raw 0 k
  have ba := wordL_bit raw 0 k
  generalize wordL raw 0 k = a at *
  simp -implicitDefEqProofs only [↓walkD, walkU, acall_func, Nat.reduceEqDiff, reduceIte, e1]
  refine (encode_spec hm ga.sl (by rw [la]; exact hk) ba cc cst (by rw [la]; exact cs)).then ?_
  rintro _ s3 ⟨x3, vw, rfl, gw⟩
  rw [la] at gw
  have hub := plc_bits (N := 2 ^ m) (l := bestL m k) ba k
  have hul := plc_length (2 ^ m) (bestL m k) a k
  have hwb := trL_bits m _ hub
  have hwl := trL_length m _ hul
  have lw := gw.sl.ilen
  rw [hwl] at lw
  generalize hw : trL m (plc (2 ^ m) (bestL m k) a k) = w at *
  simp -implicitDefEqProofs only [↓walkD, walkU, acall_func, Nat.reduceEqDiff, reduceIte, e1, bne_self_eq_false, lw, h0, shl1 hm]
  refine (copy_spec gw.sl (by rw [hwl]; omega)).then ?_
  rintro vb s4 ⟨x4, gb⟩
  simp -implicitDefEqProofs only [↓walkD, walkU, acall_func, Nat.reduceEqDiff, reduceIte]
  refine (copy_spec (gw.sl.ext x4) (by rw [hwl]; omega)).then ?_
  rintro vf s5 ⟨x5, gf⟩
  simp -implicitDefEqProofs only [↓walkD, walkU, Nat.reduceEqDiff, reduceIte]
  have hbf : ∀ b, blk vf = some b → blk vb ≠ some b := fun b e e2 => by have := (gf.blk b e).1; have := (gb.blk b e2).2; omega
  have hlost : Sl s3 vl (vints lost) := hl.ext ((xs.trans x2).trans x3)
  refine AW.loop (fun K t' s' => ∃ i : Nat, K = lost.length - i ∧ i ≤ lost.length ∧ Ext s3 s' ∧ t' 1 = .int .i64 m ∧ t' 2 = .int .i64 k ∧ t' 3 = vl ∧ t' 4 = .int .i64 less ∧ t' 15 = va ∧ t' 16 = vw ∧ t' 17 = vb ∧ t' 18 = vf ∧ t' 19 = .int .i64 i ∧
    Gr s3.n s' vb (vints (erB w lost i)) ∧ Gr s4.n s' vf (vints (erF w lost less i))) lost.length ?_ ?_
  · exact ⟨0, by simp, by omega, x4.trans x5, by simp [upd_apply, e1], by simp [upd_apply, e2], by simp [upd_apply, e3], by simp [upd_apply, e4], by simp [upd_apply], by simp [upd_apply], by simp [upd_apply], by simp [upd_apply], by simp [upd_apply], gb.ext x5, gf⟩
  clear e0 e1 e2 e3 e4 e11 e13 e14
  rintro K t' s6 ⟨i, rfl, hi, x6, e1, e2, e3, e4, e15, e16, e17, e18, e19, g6, f6⟩
  refine asem_on ?_
  simp -implicitDefEqProofs only [↓walkD, walkU, Nat.reduceEqDiff, reduceIte, e3, e19, ll]
  refine condB_dec (fun h => ?_) (fun h => ?_)
  · have hi' : i < lost.length := by omega
    obtain ⟨p, p1, p2⟩ := (hlost.ext x6).iel (i := i) hi'
    have hin := hls _ (List.getElem_mem hi')
    simp -implicitDefEqProofs only [↓walkD, walkU, acall_func, Nat.reduceEqDiff, reduceIte, e3, e16, e17, e19, p1, p2, lw]
    refine (pick_spec (n := 2 ^ m) hin hp0 s6).then ?_
    rintro _ _ ⟨rfl, hs⟩; obtain rfl := hs.symm; clear hs
    have hpk := pickN_lt (lost[i]) hp0
    have hgl : lost.getD i 0 = lost[i] := getD_at hi'
    obtain ⟨q, q1, q2⟩ := g6.sl.iel (i := pickN (lost[i]) (2 ^ m)) (by rw [erB_length, hwl]; exact hpk)
    simp -implicitDefEqProofs only [↓walkD, walkU, Nat.reduceEqDiff, reduceIte, q1]
    refine g6.store q1 (by rw [vints_length, erB_length, hwl]; exact hpk) rfl fun s7 g7 c7 n7 => ?_
    have hB1 : (erB w lost i).set (pickN (lost[i]) (2 ^ m)) (-1) = erB w lost (i + 1) := by rw [erB, hgl, hwl]
    rw [vints_set, hB1] at g7
    have x7 := x6.chg c7 g6 (Nat.le_refl _)
    have f7 := f6.chg c7 (by
      by_cases hz : Ab.blk vb = none
      · exact .inl hz
      · right; intro he
        cases hb' : Ab.blk vf with
        | none => rw [hb'] at he; exact hz he.symm
        | some b => exact hbf b hb' (by rw [← he, hb']))
    simp -implicitDefEqProofs only [↓walkD, walkU, acall_func, Nat.reduceEqDiff, reduceIte, e4, e19]
    refine (pick_spec (n := 3) (w64_range _) (by omega) s7).then ?_
    rintro _ _ ⟨rfl, hs⟩; obtain rfl := hs.symm; clear hs
    simp -implicitDefEqProofs only [↓walkD, walkU, Nat.reduceEqDiff, reduceIte]
    have hF : erF w lost less (i + 1) = if pickN (IntKind.i64.wrap (less + (i : Int))) 3 > 0 then (erF w lost less i).set (pickN (lost.getD i 0) w.length) (-1) else erF w lost less i := rfl
    refine condB_dec (fun h2 => ?_) (fun h2 => ?_)
    · obtain ⟨p', p1', p2'⟩ := (hlost.ext x7).iel (i := i) hi'
      obtain rfl : p' = p := by rw [p1] at p1'; cases p1'; rfl
      simp -implicitDefEqProofs only [↓walkD, walkU, acall_func, Nat.reduceEqDiff, reduceIte, e3, e16, e18, e19, p1, p2', lw]
      refine (pick_spec (n := 2 ^ m) hin hp0 s7).then ?_
      rintro _ _ ⟨rfl, hs⟩; obtain rfl := hs.symm; clear hs
      obtain ⟨o, o1, o2⟩ := f7.sl.iel (i := pickN (lost[i]) (2 ^ m)) (by rw [erF_length, hwl]; exact hpk)
      simp -implicitDefEqProofs only [↓walkD, walkU, Nat.reduceEqDiff, reduceIte, o1]
      refine f7.store o1 (by rw [vints_length, erF_length, hwl]; exact hpk) rfl fun s8 f8 c8 n8 => ?_
      rw [if_pos (by omega), hgl, hwl] at hF
      rw [vints_set, ← hF] at f8
      have x8 := x7.chg' c8 fun b e => Nat.le_trans x4.n (f7.blk b e).1
      have g8 := g7.chg c8 (by
        by_cases hz : Ab.blk vf = none
        · exact .inl hz
        · right; intro he
          cases hb' : Ab.blk vf with
          | none => exact hz hb'
          | some b => exact hbf b hb' (by rw [he, hb']))
      simp -implicitDefEqProofs only [↓walkD, walkU, Nat.reduceEqDiff, reduceIte, e1, e2, e3, e4, e15, e16, e17, e18, e19]; simp only [On_eq]
      exact ⟨lost.length - (i + 1), by omega, i + 1, rfl, by omega, x8, iv (wrap_succ (by omega)), g8, f8⟩
    · rw [if_neg (by omega)] at hF
      rw [← hF] at f7
      simp -implicitDefEqProofs only [↓walkD, walkU, Nat.reduceEqDiff, reduceIte, e1, e2, e3, e4, e15, e16, e17, e18, e19]; simp only [On_eq]
      exact ⟨lost.length - (i + 1), by omega, i + 1, rfl, by omega, x7, iv (wrap_succ (by omega)), g7, f7⟩
  have hi' : i = lost.length := by omega
  subst hi'
  have cB := erB_cons w lost lost.length
  have cF := erF_cons w lost less lost.length
  have hle := er_less w lost less lost.length
  generalize erB w lost lost.length = B at *
  generalize erF w lost less lost.length = F at *
  have hmono := okL_less (frL (2 ^ m) (bestL m k) k) m B F (plc (2 ^ m) (bestL m k) a k) 0 hle (by rw [hw]; exact cF) hul hub
  have hfull := okL_full (frL (2 ^ m) (bestL m k) k) m w (plc (2 ^ m) (bestL m k) a k) 0 fun j hj => bit_nn (getD_bit hwb (by omega))
  simp -implicitDefEqProofs only [↓walkD, walkU, acall_func, Nat.reduceEqDiff, reduceIte, e1, e2, e17]
  refine (decode2 hm hk g6.sl la ba (by rw [hw]; exact cB)).then ?_
  rintro _ s7 ⟨x7, vx, rfl, sx⟩
  simp -implicitDefEqProofs only [↓walkD, walkU, acall_func, Nat.reduceEqDiff, reduceIte, e1, e2, e18]
  refine (decode2 hm hk (f6.ext x7).sl la ba (by rw [hw]; exact cF)).then ?_
  rintro _ s8 ⟨x8, vy, rfl, sy⟩
  simp -implicitDefEqProofs only [↓walkD, walkU, acall_func, Nat.reduceEqDiff, reduceIte, e1, e2, e16]
  have sw8 : Sl s8 vw (vints w) := ((gw.sl.ext x6).ext x7).ext x8
  refine (decode2 hm hk sw8 la ba (by rw [hw]; exact cons_refl w)).then ?_
  rintro _ s9 ⟨x9, vz, rfl, sz⟩
  rw [hfull] at *
  have sz := sz rfl
  simp -implicitDefEqProofs only [↓walkD, walkU, acall_func, Nat.reduceEqDiff, reduceIte, e1, e16]
  refine (transf_spec hm (sw8.ext x9) hwl hwb).then ?_
  rintro _ s10 ⟨x10, vt, rfl, st⟩
  simp -implicitDefEqProofs only [↓walkD, walkU, acall_func, Nat.reduceEqDiff, reduceIte, e1]
  refine (transf_spec hm st.sl (trL_length m _ hwl) (trL_bits m _ hwb)).then ?_
  rintro _ s11 ⟨x11, vk, rfl, sk⟩
  rw [trL_trL m w hwl hwb] at sk
  have xE : Ext s3 s11 := ((((x6.trans x7).trans x8).trans x9).trans x10).trans x11
  have sa : Sl s11 va (vints a) := (ga.sl.ext x3).ext xE
  have sw : Sl s11 vw (vints w) := gw.sl.ext xE
  have sx' : okL (frL (2 ^ m) (bestL m k) k) m B (plc (2 ^ m) (bestL m k) a k) 0 = true → Sl s11 vx (vints a) := fun h => ((((sx h).ext x8).ext x9).ext x10).ext x11
  have sy' : okL (frL (2 ^ m) (bestL m k) k) m F (plc (2 ^ m) (bestL m k) a k) 0 = true → Sl s11 vy (vints a) := fun h => (((sy h).ext x9).ext x10).ext x11
  have sz' : Sl s11 vz (vints a) := (sz.ext x10).ext x11
  have fin : Ext s s11 := ((xs.trans x2).trans x3).trans xE
  have hal : a.length < 2 ^ 62 := by omega
  simp -implicitDefEqProofs only [↓walkD, walkU, acall_func, Nat.reduceEqDiff, reduceIte, e15, beq_self_eq_true]
  refine (same_spec sz' sa hal).then ?_
  rintro _ _ ⟨rfl, hs⟩; obtain rfl := hs.symm; clear hs
  generalize okL (frL (2 ^ m) (bestL m k) k) m B (plc (2 ^ m) (bestL m k) a k) 0 = okB at *
  generalize okL (frL (2 ^ m) (bestL m k) k) m F (plc (2 ^ m) (bestL m k) a k) 0 = okF at *
  cases okB with
  | true =>
    have hF := hmono rfl
    subst hF
    simp -implicitDefEqProofs only [↓walkD, walkU, acall_func, Nat.reduceEqDiff, reduceIte, e15, decide_true]
    refine (same_spec (sx' rfl) sa hal).then ?_
    rintro _ _ ⟨rfl, hs⟩; obtain rfl := hs.symm; clear hs
    simp -implicitDefEqProofs only [↓walkD, walkU, acall_func, Nat.reduceEqDiff, reduceIte, e15, decide_true]
    refine (same_spec (sy' rfl) sa hal).then ?_
    rintro _ _ ⟨rfl, hs⟩; obtain rfl := hs.symm; clear hs
    simp -implicitDefEqProofs only [↓walkD, walkU, acall_func, Nat.reduceEqDiff, reduceIte, e16, decide_true]
    refine (same_spec sk.sl sw (by omega)).then ?_
    rintro _ _ ⟨rfl, hs⟩; obtain rfl := hs.symm; clear hs
    simp -implicitDefEqProofs only [↓walkD, walkU, Nat.reduceEqDiff, reduceIte, decide_true]; simp only [On_eq]
    exact fin
  | false =>
    cases okF with
    | true =>
      simp -implicitDefEqProofs only [↓walkD, walkU, acall_func, Nat.reduceEqDiff, reduceIte, e15, decide_true, isB_undef]
      refine (same_spec (sy' rfl) sa hal).then ?_
      rintro _ _ ⟨rfl, hs⟩; obtain rfl := hs.symm; clear hs
      simp -implicitDefEqProofs only [↓walkD, walkU, acall_func, Nat.reduceEqDiff, reduceIte, e16, decide_true]
      refine (same_spec sk.sl sw (by omega)).then ?_
      rintro _ _ ⟨rfl, hs⟩; obtain rfl := hs.symm; clear hs
      simp -implicitDefEqProofs only [↓walkD, walkU, Nat.reduceEqDiff, reduceIte, decide_true]; simp only [On_eq]
      exact fin
    | false =>
      simp -implicitDefEqProofs only [↓walkD, walkU, acall_func, Nat.reduceEqDiff, reduceIte, e16, decide_true, isB_undef]
      refine (same_spec sk.sl sw (by omega)).then ?_
      rintro _ _ ⟨rfl, hs⟩; obtain rfl := hs.symm; clear hs
      simp -implicitDefEqProofs only [↓walkD, walkU, Nat.reduceEqDiff, reduceIte, decide_true]; simp only [On_eq]
      exact fin

end Go.Proofs.Ytdhiacdfblakcaa
