/- Walks: what is told of a greater part. -/
import Derived.Test.YtdhiacdfblakcaaPoF
namespace Go.Proofs.Ytdhiacdfblakcaa
open Go Go.Ab

theorem xor_f {a b : Int} (ha : a = -1 ∨ isBit a) (hb : b = -1 ∨ isBit b) (h1 : 0 ≤ a) (h2 : 0 ≤ b) : abits .xor .i64 a b = bx a b :=
  xor_bits (ha.resolve_left (by omega)) (hb.resolve_left (by omega))

theorem Cons.vals {w x : List Int} (h : Cons w x) (hx : ∀ y ∈ x, isBit y) {i : Nat} (hi : i < w.length) : w[i] = -1 ∨ isBit w[i] := by
  have := h.2 i (by rw [← h.1]; exact hi)
  rw [List.getD_eq_getElem?_getD, List.getElem?_eq_getElem hi] at this
  rcases this with e | e
  · exact .inl e
  · right
    have h2 := getD_bit hx (i := i) (by rw [← h.1]; exact hi)
    rw [← e] at h2; exact h2

theorem getD_at {l : List Int} {i : Nat} (h : i < l.length) : l.getD i 0 = l[i] := by
  rw [List.getD_eq_getElem?_getD, List.getElem?_eq_getElem h]; rfl

theorem getD_take {l : List Int} {i n : Nat} (h : i < n) : (l.take n).getD i 0 = l.getD i 0 := by
  simp [List.getD_eq_getElem?_getD, h]
theorem getD_drop {l : List Int} {i n : Nat} : (l.drop n).getD i 0 = l.getD (n + i) 0 := by
  simp [List.getD_eq_getElem?_getD]

theorem rdv_more (s : St) (n : Nat) (x : Value) : rdv ⟨s.H, n⟩ x = rdv s x := rfl

theorem Frm.chg {B : Nat → Prop} {v : Value} {s₀ s s' : St} (h : Frm B s₀ s) (c : Chg v s s') (hv : ∀ b, blk v = some b → s₀.n ≤ b) : Frm B s₀ s' :=
  h.trans (Frm.of_chg (B := fun b => blk v = some b) c fun _ _ e => e) fun b hb e => by have := hv b e; omega

set_option maxRecDepth 20000 in
set_option maxHeartbeats 2000000 in
theorem read_spec : ∀ (m : Nat), m ≤ 5 → ∀ {n0 d : Nat} {s : St} {fv bv v : Value} {fr : List Bool} {bits w u : List Int}, Dk n0 s d fv fr bv bits false → n0 ≤ s.n → Sl s v (vints w) →
    (∀ b, blk v = some b → b ≠ d ∧ blk bv ≠ some b) → w.length = 2 ^ m → u.length = 2 ^ m →
    Cons w (trL m u) → bits.length + 2 ^ m ≤ fr.length → fr.length ≤ 2 ^ 20 → (∀ i, i < 2 ^ m → fr.getD (bits.length + i) false = false → u.getD i 0 = 0) → (∀ x ∈ u, isBit x) →
    ACalls P 17 [ptr d 0, v] s (RdPost n0 s d fv fr bv (okL fr m w u bits.length) m u bits)
  | 0, _, n0, d, s, fv, bv, v, fr, bits, w, u, D, hn, hv, _, hl, hu, hc, hlen, hfr, hz, hub => read_leaf D hn hv hl hu hc hlen hfr (hz 0 (by decide)) hub
  | m + 1, hm, n0, d, s, fv, bv, v, fr, bits, w, u, D, hn, hv, hd, hl, hu, hc, hlen, hfr, hz, hub => by
    have ih := fun {n0} {d} {s} {fv} {bv} {v} {fr} {bits} {w} {u} => read_spec m (by omega) (n0 := n0) (d := d) (s := s) (fv := fv) (bv := bv) (v := v) (fr := fr) (bits := bits) (w := w) (u := u)
    have hp : 2 ^ (m + 1) = 2 ^ m + 2 ^ m := by rw [Nat.pow_succ]; omega
    have hb : 2 ^ m ≤ 2 ^ 5 := Nat.pow_le_pow_right (by omega) (by omega)
    have h0 : 0 < 2 ^ m := Nat.two_pow_pos m
    have hx := trL_bits (m + 1) u hub
    obtain ⟨k1, k2⟩ := tk hu
    have c1 := hc.fst hu hub
    have c2 := hc.snd hu hub
    have ag := fun {i} => hc.agree hu hub (i := i)
    have ub1 : ∀ x ∈ u.take (2 ^ m), isBit x := fun x hx => hub x (List.mem_of_mem_take hx)
    have ub2 : ∀ x ∈ u.drop (2 ^ m), isBit x := fun x hx => hub x (List.mem_of_mem_drop hx)
    have hA := trL_length m _ k1
    have bA := trL_bits m _ ub1
    have hB := trL_length m _ k2
    have bB := trL_bits m _ ub2
    have hT : trL (m + 1) u = List.zipWith bx (trL m (u.take (2 ^ m))) (trL m (u.drop (2 ^ m))) ++ trL m (u.drop (2 ^ m)) := rfl
    rw [okL]
    generalize hH : 2 ^ m = H at *
    have l1 := hv.ilen
    have ed : IntKind.i64.wrap ((w.length : Int).tdiv 2) = (H : Nat) := by
      have : (w.length : Int).tdiv 2 = ((w.length / 2 : Nat) : Int) := tdiv_nat _ 2
      rw [this, wrap_nat (by omega)]; omega
    refine ACalls.intro h17 rfl (asem_on ?_)
    simp -implicitDefEqProofs only [↓walkD, walkU, apure, Nat.reduceEqDiff, reduceIte, a17, c17, D.r2, l1]
    refine condB_beq (fun h => by omega) (fun _ => ?_)
    simp -implicitDefEqProofs only [↓walkD, walkU, Nat.reduceEqDiff, reduceIte, l1, ed, Int.reduceEq]
    refine mks_then (k := H) (by omega) (by omega) fun v1 s1 x1 g1 b1 => ?_
    have lv1 := g1.sl.len
    rw [List.length_replicate] at lv1
    simp -implicitDefEqProofs only [↓walkD, walkU, Nat.reduceEqDiff, reduceIte, lv1]
    rw [vints_rep] at g1
    refine AW.loop (fun K t' s' => ∃ i : Nat, K = H - i ∧ i ≤ H ∧ Ext s s' ∧ t' 0 = ptr d 0 ∧ t' 1 = v ∧ t' 6 = .int .i64 (H : Nat) ∧ t' 7 = v1 ∧ t' 73 = .int .i64 (H : Nat) ∧ t' 74 = .int .i64 i ∧
      Gr s.n s' v1 (vints (((List.range i).map fun i => f1 (w.getD i 0) (w.getD (H + i) 0)) ++ List.replicate (H - i) 0))) H ?_ ?_
    · exact ⟨0, by simp, by omega, x1, by simp [upd_apply, initE_0], by simp [upd_apply, initE_1], by simp [upd_apply], by simp [upd_apply], by simp [upd_apply], by simp [upd_apply], by simpa using g1⟩
    rintro K t' s' ⟨i, rfl, hi, hx', e0, e1, e6, e7, e73, e74, g⟩
    refine asem_on ?_
    simp -implicitDefEqProofs only [↓walkD, walkU, reduceIte, e73, e74]
    refine condB_dec (fun h => ?_) (fun h => ?_)
    · have hi' : i < H := by omega
      obtain ⟨p, p1, p2⟩ := g.sl.iel (i := i) (by simp; omega)
      simp -implicitDefEqProofs only [↓walkD, walkU, Nat.reduceEqDiff, reduceIte, e7, e74, p1]
      refine g.store p1 (by simp [vints_length]; omega) rfl fun s2 g2 c2' n2 => ?_
      have x2 := hx'.chg c2' g (Nat.le_refl _)
      obtain ⟨q, q1, q2⟩ := (hv.ext x2).iel (i := i) (by omega)
      obtain ⟨r, r1, r2⟩ := (hv.ext x2).iel (i := H + i) (by omega)
      have v1' := hc.vals hx (i := i) (by omega)
      have v2' := hc.vals hx (i := H + i) (by omega)
      rw [← getD_at] at q2 r2
      have ew : IntKind.i64.wrap ((H : Int) + (i : Int)) = ((H + i : Nat) : Int) := wrap_add (by omega)
      simp -implicitDefEqProofs only [↓walkD, walkU, Nat.reduceEqDiff, reduceIte, e1, q1, q2]
      have hset : ((((List.range i).map fun i => f1 (w.getD i 0) (w.getD (H + i) 0)) ++ List.replicate (H - i) 0).set i (-1)).set i (f1 (w.getD i 0) (w.getD (H + i) 0)) =
          ((List.range (i + 1)).map fun i => f1 (w.getD i 0) (w.getD (H + i) 0)) ++ List.replicate (H - (i + 1)) 0 := by
        rw [List.set_set]; exact range_step (fun i => f1 (w.getD i 0) (w.getD (H + i) 0)) 0 hi'
      have hset1 : f1 (w.getD i 0) (w.getD (H + i) 0) = -1 → (((List.range i).map fun i => f1 (w.getD i 0) (w.getD (H + i) 0)) ++ List.replicate (H - i) 0).set i (-1) =
          ((List.range (i + 1)).map fun i => f1 (w.getD i 0) (w.getD (H + i) 0)) ++ List.replicate (H - (i + 1)) 0 := by
        intro e
        rw [← hset, e, List.set_set]
      rw [vints_set] at g2
      rw [← getD_at] at v1' v2'
      refine guardB_intro (fun hA1 => ?_) (fun hA1 => ?_)
      · simp -implicitDefEqProofs only [↓walkD, walkU, Nat.reduceEqDiff, reduceIte, e1, e6, hA1, ew, r1, r2]
        refine condB_dec (fun hA2 => ?_) (fun hA2 => ?_)
        · have hA1' := of_decide_eq_true hA1
          simp -implicitDefEqProofs only [↓walkD, walkU, Nat.reduceEqDiff, reduceIte, e1, e6, e7, ew, q1, q2, r1, r2, p1]
          refine g2.store p1 (by simp [vints_length]; omega) rfl fun s3 g3 c3 n3 => ?_
          have ef : f1 (w.getD i 0) (w.getD (H + i) 0) = bx (w.getD i 0) (w.getD (H + i) 0) := by rw [f1, if_pos ⟨hA1', hA2⟩]
          rw [vints_set, xor_f v1' v2' hA1' hA2, ← ef, hset] at g3
          simp -implicitDefEqProofs only [↓walkD, walkU, Nat.reduceEqDiff, reduceIte, e0, e1, e6, e7, e73, e74]; simp only [On_eq]
          exact ⟨H - (i + 1), by omega, i + 1, rfl, by omega, x2.chg c3 g2 (Nat.le_refl _), iv (wrap_succ (by omega)), g3⟩
        · rw [hset1 (by rw [f1, if_neg (by omega)])] at g2
          simp -implicitDefEqProofs only [↓walkD, walkU, Nat.reduceEqDiff, reduceIte, e0, e1, e6, e7, e73, e74]; simp only [On_eq]
          exact ⟨H - (i + 1), by omega, i + 1, rfl, by omega, x2, iv (wrap_succ (by omega)), g2⟩
      · have hA1' := of_decide_eq_false hA1
        rw [hset1 (by rw [f1, if_neg (by omega)])] at g2
        simp -implicitDefEqProofs only [↓walkD, walkU, Nat.reduceEqDiff, reduceIte, e0, e1, e6, e7, e73, e74, hA1]; simp only [On_eq]
        exact ⟨H - (i + 1), by omega, i + 1, rfl, by omega, x2, iv (wrap_succ (by omega)), g2⟩
    · have hi' : i = H := by omega
      subst hi'
      rw [Nat.sub_self, List.replicate_zero, List.append_nil] at g
      have gF : Gr s.n s' v1 (vints (fstL i w)) := g
      clear g
      simp -implicitDefEqProofs only [↓walkD, walkU, acall_func, Nat.reduceEqDiff, reduceIte, e0, e7]
      have hbn : ∀ b, blk bv = some b → b < s.n := fun b e => (D.gr.blk b e).2
      have hvn : ∀ b, blk v1 = some b → b ≠ d ∧ blk bv ≠ some b := fun b e => by
        have h1 := (gF.blk b e).1
        have := D.d0
        exact ⟨by omega, fun e2 => by have := hbn b e2; omega⟩
      refine (ih (D.ext hx') (Nat.le_trans hn hx'.n) gF.sl hvn (by simp [fstL]) k1 c1 (by omega) hfr (fun j hj h => by rw [getD_take hj]; exact hz j (by omega) h) ub1).then ?_
      rintro rA s2 ⟨bv1, bits1, D1, F1, B1, ok1⟩
      have F1' : Frm (fun b => b = d ∨ blk bv = some b) s s2 := (Frm.of_ext (B := fun b => b = d ∨ blk bv = some b) hx').trans F1 fun b _ e => e
      have B1' : blk bv1 = blk bv ∨ ∀ b, blk bv1 = some b → s.n ≤ b := B1.imp id fun f b e => Nat.le_trans hx'.n (f b e)
      generalize okL fr m (fstL i w) (u.take i) bits.length = okA at *
      cases okA with
      | false =>
        simp -implicitDefEqProofs only [↓walkD, walkU, apure, Nat.reduceEqDiff, reduceIte, e0, e1, D1.r2]; simp only [On_eq]
        exact ⟨bv1, bits1, D1, F1', B1', fun h => by simp at h⟩
      | true =>
      obtain ⟨rfl, hA1, hA2⟩ := ok1 rfl
      have hv2 : Sl s2 v (vints w) := hv.frm F1' fun b e h => by
        obtain ⟨h1, h2⟩ := hd b e
        rcases h with h | h
        · exact h1 h
        · exact h2 h
      simp -implicitDefEqProofs only [↓walkD, walkU, apure, Nat.reduceEqDiff, reduceIte, e0, e6, D1.r2]
      refine mks_then (k := i) (by omega) (by omega) fun v2 s3 x3 g3 b3 => ?_
      have lv2 := g3.sl.len
      rw [List.length_replicate] at lv2
      simp -implicitDefEqProofs only [↓walkD, walkU, Nat.reduceEqDiff, reduceIte, lv2]
      rw [vints_rep] at g3
      have D3 := D1.ext x3
      have D1' : Dk n0 s3 d fv fr bv1 (bits ++ u.take i) false := D3
      have hA' : (trL m (u.take i)).length = i := hA
      generalize hAe : trL m (u.take i) = A at *
      refine AW.loop (fun K t' s' => ∃ j : Nat, K = i - j ∧ j ≤ i ∧ Frm (fun b => b = d) s2 s' ∧ Dk n0 s' d fv fr bv1 (bits ++ u.take i) false ∧ t' 0 = ptr d 0 ∧ t' 1 = v ∧ t' 6 = .int .i64 (i : Nat) ∧ t' 9 = rA ∧ t' 10 = v2 ∧ t' 120 = .int .i64 (i : Nat) ∧ t' 121 = .int .i64 j ∧
        Gr s2.n s' v2 (vints (((List.range j).map fun j => f2 (w.getD j 0) (w.getD (i + j) 0) (A.getD j 0)) ++ List.replicate (i - j) 0))) i ?_ ?_
      · exact ⟨0, by simp, by omega, Frm.of_ext x3, D1', by simp [upd_apply, e0], by simp [upd_apply, e1], by simp [upd_apply, e6], by simp [upd_apply], by simp [upd_apply], by simp [upd_apply], by simp [upd_apply], by simpa using g3⟩
      rintro K t' s4 ⟨j, rfl, hj, F4, D4, e0, e1, e6, e9, e10, e120, e121, g4⟩
      refine asem_on ?_
      have hv4 : Sl s4 v (vints w) := hv2.frm F4 fun b e => (hd b e).1
      have hrA4 : Sl s4 rA (vints A) := hA1.frm F4 fun b e h => by
        have h1 := (hA2 b e).1
        have h2 := hx'.n
        have h3 := D.d0
        have h4 : b = d := h
        omega
      have hd0 := D.d0
      have hs2 : s.n ≤ s2.n := F1'.n
      simp -implicitDefEqProofs only [↓walkD, walkU, reduceIte, e120, e121]
      refine condB_dec (fun h => ?_) (fun h => ?_)
      · have hj' : j < i := by omega
        obtain ⟨p, p1, p2⟩ := g4.sl.iel (i := j) (by simp; omega)
        obtain ⟨q, q1, q2⟩ := hv4.iel (i := i + j) (by omega)
        have y1 := hc.vals hx (i := i + j) (by omega)
        have y2 := hc.vals hx (i := j) (by omega)
        have ew : IntKind.i64.wrap ((i : Int) + (j : Int)) = ((i + j : Nat) : Int) := wrap_add (by omega)
        simp -implicitDefEqProofs only [↓walkD, walkU, Nat.reduceEqDiff, reduceIte, e1, e6, e10, e121, ew, q1, q2, p1]
        refine g4.store p1 (by simp [vints_length]; omega) rfl fun s5 g5 c5 n5 => ?_
        have hv2n : ∀ b, blk v2 = some b → s2.n ≤ b := fun b e => (g4.blk b e).1
        have F5 := Frm.chg F4 c5 hv2n
        have Fc : Frm (fun b => blk v2 = some b) s4 s5 := Frm.of_chg c5 fun b _ e => e
        have D5 := D4.frm Fc (fun e => by have := hv2n d e; omega) (fun b e e2 => by have := hv2n b e2; have := (D4.f0 b e).1; omega) (fun b e e2 => by
          have := hv2n b e2
          have := (D1.gr.blk b e).2
          omega)
        have hv5 : Sl s5 v (vints w) := hv2.frm F5 fun b e => (hd b e).1
        have hrA5 : Sl s5 rA (vints A) := hA1.frm F5 fun b e h => by
          have h1 := (hA2 b e).1
          have h2 := hx'.n
          have h4 : b = d := h
          omega
        obtain ⟨r, r1, r2⟩ := hv5.iel (i := j) (by omega)
        obtain ⟨o, o1, o2⟩ := hrA5.iel (i := j) (by omega)
        rw [vints_set] at g5
        have hset : ((((List.range j).map fun j => f2 (w.getD j 0) (w.getD (i + j) 0) (A.getD j 0)) ++ List.replicate (i - j) 0).set j (w[i + j]'(by omega))).set j (f2 (w.getD j 0) (w.getD (i + j) 0) (A.getD j 0)) =
            ((List.range (j + 1)).map fun j => f2 (w.getD j 0) (w.getD (i + j) 0) (A.getD j 0)) ++ List.replicate (i - (j + 1)) 0 := by
          rw [List.set_set]; exact range_step (fun j => f2 (w.getD j 0) (w.getD (i + j) 0) (A.getD j 0)) 0 hj'
        have hlen5 : ((((List.range j).map fun j => f2 (w.getD j 0) (w.getD (i + j) 0) (A.getD j 0)) ++ List.replicate (i - j) 0).set j (w[i + j]'(by omega))).length = i := by simp; omega
        obtain ⟨z, z1, z2⟩ := g5.sl.iel (i := j) (by omega)
        rw [List.getElem_set_self] at z2
        rw [← getD_at] at q2 z2 hset y1 g5
        rw [← getD_at] at r2 y2
        rw [← getD_at] at o2
        obtain rfl : z = p := by rw [z1] at p1; cases p1; rfl
        simp -implicitDefEqProofs only [↓walkD, walkU, Nat.reduceEqDiff, reduceIte, e1, r1, r2]
        refine condB_dec (fun hw => ?_) (fun hw => ?_)
        · have yb := y2.resolve_left (by omega)
          have Ab : isBit (A.getD j 0) := getD_bit bA (by omega)
          have ef : f2 (w.getD j 0) (w.getD (i + j) 0) (A.getD j 0) = bx (w.getD j 0) (A.getD j 0) := by rw [f2, if_pos hw]
          simp -implicitDefEqProofs only [↓walkD, walkU, apure, Nat.reduceEqDiff, reduceIte, e0, e1, e9, e10, r1, r2, o1, o2, xor_bits yb Ab, D5.r2, z1, z2]
          have fin : ∀ (s6 : St), Dk n0 s6 d fv fr bv1 (bits ++ u.take i) false → Frm (fun b => b = d) s5 s6 → Gr s2.n s6 v2 (vints (((((List.range j).map fun j => f2 (w.getD j 0) (w.getD (i + j) 0) (A.getD j 0)) ++ List.replicate (i - j) 0).set j (w.getD (i + j) 0)))) := fun s6 _ F6 =>
            g5.frm F6 fun b e e2 => by have := hv2n b e; have e3 : b = d := e2; omega
          refine guardB_intro (fun hy => ?_) (fun hy => ?_)
          · have hy' := of_decide_eq_true hy
            have hne : (w.getD (i + j) 0 != bx (w.getD j 0) (A.getD j 0)) = false := by
              rw [bne_eq_false_iff_eq]
              exact ag hj' hw hy'
            simp -implicitDefEqProofs only [↓walkD, walkU, apure, Nat.reduceEqDiff, reduceIte, e10, hy, hne, z1, z2]
            refine D5.mark fun s6 D6 F6 N6 => ?_
            have g6 := fin s6 D6 F6
            simp -implicitDefEqProofs only [↓walkD, walkU, Nat.reduceEqDiff, reduceIte, e10, z1]
            refine g6.store z1 (by rw [vints_length]; simp; omega) rfl fun s7 g7 c7 n7 => ?_
            rw [vints_set, ← ef, hset] at g7
            have F6' : Frm (fun b => b = d) s2 s6 := F5.trans F6 fun b _ e => e
            have D7 := D6.frm (Frm.of_chg (B := fun b => blk v2 = some b) c7 fun b _ e => e) (fun e => by have := hv2n d e; omega) (fun b e e2 => by have := hv2n b e2; have := (D4.f0 b e).1; omega) (fun b e e2 => by
              have := hv2n b e2
              have := (D1.gr.blk b e).2
              omega)
            simp -implicitDefEqProofs only [↓walkD, walkU, Nat.reduceEqDiff, reduceIte, e0, e1, e6, e9, e10, e120, e121]; simp only [On_eq]
            exact ⟨i - (j + 1), by omega, j + 1, rfl, by omega, Frm.chg F6' c7 hv2n, D7, iv (wrap_succ (by omega)), g7⟩
          · simp -implicitDefEqProofs only [↓walkD, walkU, apure, Nat.reduceEqDiff, reduceIte, hy]
            refine D5.mark fun s6 D6 F6 N6 => ?_
            have g6 := fin s6 D6 F6
            simp -implicitDefEqProofs only [↓walkD, walkU, Nat.reduceEqDiff, reduceIte, e10, z1]
            refine g6.store z1 (by rw [vints_length]; simp; omega) rfl fun s7 g7 c7 n7 => ?_
            rw [vints_set, ← ef, hset] at g7
            have F6' : Frm (fun b => b = d) s2 s6 := F5.trans F6 fun b _ e => e
            have D7 := D6.frm (Frm.of_chg (B := fun b => blk v2 = some b) c7 fun b _ e => e) (fun e => by have := hv2n d e; omega) (fun b e e2 => by have := hv2n b e2; have := (D4.f0 b e).1; omega) (fun b e e2 => by
              have := hv2n b e2
              have := (D1.gr.blk b e).2
              omega)
            simp -implicitDefEqProofs only [↓walkD, walkU, Nat.reduceEqDiff, reduceIte, e0, e1, e6, e9, e10, e120, e121]; simp only [On_eq]
            exact ⟨i - (j + 1), by omega, j + 1, rfl, by omega, Frm.chg F6' c7 hv2n, D7, iv (wrap_succ (by omega)), g7⟩
        · have ef : f2 (w.getD j 0) (w.getD (i + j) 0) (A.getD j 0) = w.getD (i + j) 0 := by rw [f2, if_neg (by omega)]
          rw [ef, List.set_set] at hset
          rw [hset] at g5
          simp -implicitDefEqProofs only [↓walkD, walkU, Nat.reduceEqDiff, reduceIte, e0, e1, e6, e9, e10, e120, e121]; simp only [On_eq]
          exact ⟨i - (j + 1), by omega, j + 1, rfl, by omega, F5, D5, iv (wrap_succ (by omega)), g5⟩
      · have : j = i := by omega
        subst this
        rw [Nat.sub_self, List.replicate_zero, List.append_nil] at g4
        have gS : Gr s2.n s4 v2 (vints (sndL j w A)) := g4
        clear g4
        simp -implicitDefEqProofs only [↓walkD, walkU, acall_func, Nat.reduceEqDiff, reduceIte, e0, e10]
        have hbl : (bits ++ u.take j).length = bits.length + j := by rw [List.length_append, k1]
        have hvn2 : ∀ b, blk v2 = some b → b ≠ d ∧ blk bv1 ≠ some b := fun b e => by
          have h1 := (gS.blk b e).1
          exact ⟨by omega, fun e2 => by have := (D1.gr.blk b e2).2; omega⟩
        refine (ih D4 (Nat.le_trans hn (Nat.le_trans hs2 F4.n)) gS.sl hvn2 (by simp [sndL]) k2 c2 (by rw [hbl]; omega) hfr (fun l hl h => by rw [getD_drop]; exact hz (j + l) (by omega) (by rw [hbl, Nat.add_assoc] at h; exact h)) ub2).then ?_
        rintro rB s5 ⟨bv2, bits2, D5, F5, B5, ok2⟩
        rw [hbl] at D5 ok2
        have Ftot : Frm (fun b => b = d ∨ blk bv = some b) s s5 := by
          refine (F1'.trans F4 fun b _ e => .inl e).trans F5 fun b hb e => ?_
          rcases e with e | e
          · exact .inl e
          · right
            rcases B1' with h1 | h1
            · rw [← h1]; exact e
            · have := h1 b e; omega
        have Btot : blk bv2 = blk bv ∨ ∀ b, blk bv2 = some b → s.n ≤ b := by
          rcases B5 with h1 | h1
          · rw [h1]; exact B1'
          · exact .inr fun b e => Nat.le_trans (Nat.le_trans hs2 F4.n) (h1 b e)
        generalize okL fr m (sndL j w A) (u.drop j) (bits.length + j) = okB at *
        cases okB with
        | false =>
          simp -implicitDefEqProofs only [↓walkD, walkU, apure, Nat.reduceEqDiff, reduceIte, e0, e1, D5.r2]; simp only [On_eq]
          exact ⟨bv2, bits2, D5, Ftot, Btot, fun h => by simp at h⟩
        | true =>
        obtain ⟨rfl, hB1, hB2⟩ := ok2 rfl
        simp -implicitDefEqProofs only [↓walkD, walkU, apure, Nat.reduceEqDiff, reduceIte, e0, e1, D5.r2, l1]
        refine mks0_then (k := w.length) (by omega) (by omega) fun v3 s6 x6 g6 b6 => ?_
        have hrA5 : Sl s5 rA (vints A) := hrA4.frm F5 fun b e h => by
          have h1 := hA2 b e
          rcases h with h | h
          · have h2 := hx'.n; omega
          · exact h1.2 h
        have lA := hrA5.ilen
        rw [hA'] at lA
        simp -implicitDefEqProofs only [↓walkD, walkU, Nat.reduceEqDiff, reduceIte, e9, lA]
        generalize hBe : trL m (u.drop j) = B at *
        have g6' : Gr s5.n s6 v3 (vints ((List.zipWith bx A B).take 0)) := by simpa [vints] using g6
        refine AW.loop (fun K t' s' => ∃ i : Nat, K = j - i ∧ i ≤ j ∧ Ext s5 s' ∧ t' 9 = rA ∧ t' 13 = rB ∧ t' 186 = .int .i64 (j : Nat) ∧ t' 187 = .int .i64 i ∧
          Gr s5.n s' (t' 14) (vints ((List.zipWith bx A B).take i))) j ?_ ?_
        · exact ⟨0, by simp, by omega, x6, by simp [upd_apply, e9], by simp [upd_apply], by simp [upd_apply], by simp [upd_apply], by simpa [upd_apply] using g6'⟩
        rintro K t' s7 ⟨i, rfl, hi, x7, e9, e13, e186, e187, g7⟩
        refine asem_on ?_
        simp -implicitDefEqProofs only [↓walkD, walkU, reduceIte, e186, e187]
        refine condB_dec (fun h => ?_) (fun h => ?_)
        · have hi' : i < j := by omega
          obtain ⟨p, p1, p2⟩ := (hrA5.ext x7).iel (i := i) (by omega)
          obtain ⟨q, q1, q2⟩ := (hB1.ext x7).iel (i := i) (by omega)
          have Ab : isBit (A[i]'(by omega)) := bA _ (List.getElem_mem _)
          have Bb : isBit (B[i]'(by omega)) := bB _ (List.getElem_mem _)
          simp -implicitDefEqProofs only [↓walkD, walkU, Nat.reduceEqDiff, reduceIte, e9, e13, e187, p1, p2, q1, q2, xor_bits Ab Bb, absl_int, put_new, rdv_more]
          refine g7.app1 x7.n rfl (by omega) (by rw [vints_length, List.length_take]; omega) fun v' s8 g8 c8 b8 => ?_
          have hsnoc : (List.zipWith bx A B).take i ++ [bx (A[i]'(by omega)) (B[i]'(by omega))] = (List.zipWith bx A B).take (i + 1) := by
            rw [List.take_succ_eq_append_getElem (by simp; omega), List.getElem_zipWith]
          rw [vints_snoc, hsnoc] at g8
          simp -implicitDefEqProofs only [↓walkD, walkU, Nat.reduceEqDiff, reduceIte, e9, e13, e186, e187]; simp only [On_eq]
          exact ⟨j - (i + 1), by omega, i + 1, rfl, by omega, x7.chg c8 g7 (Nat.le_refl _), iv (wrap_succ (by omega)), g8⟩
        · have : i = j := by omega
          subst this
          rw [List.take_of_length_le (by simp; omega)] at g7
          simp -implicitDefEqProofs only [↓walkD, walkU, Nat.reduceEqDiff, reduceIte, e13]
          refine g7.app x7.n (hB1.ext x7) (vints_cell _) (by omega) (by rw [vints_length, vints_length, List.length_zipWith]; omega) fun v' s8 g8 c8 b8 => ?_
          have x8 := x7.chg c8 g7 (Nat.le_refl _)
          simp -implicitDefEqProofs only [↓walkD, walkU, Nat.reduceEqDiff, reduceIte]; simp only [On_eq]
          refine ⟨bv2, _, D5.ext x8, Ftot.trans (Frm.of_ext (B := fun _ => False) x8) fun b _ e => e.elim, Btot, fun _ => ⟨by rw [List.append_assoc, List.take_append_drop], by rw [hT, vints_append]; exact g8.sl, fun b e => ?_⟩⟩
          have h1 := (g8.blk b e).1
          exact ⟨Nat.le_trans Ftot.n h1, fun e2 => by have := (D5.gr.blk b e2).2; omega⟩

end Go.Proofs.Ytdhiacdfblakcaa
