/- The plain law: what is told of a word, of which some is lost. -/
import Derived.Test.YtdhiacdfblakcaaPoC
namespace Go.Proofs.Ytdhiacdfblakcaa
open Go Go.Ab

def f1 (x y : Int) : Int := if 0 ≤ x ∧ 0 ≤ y then bx x y else -1
def f2 (x y a : Int) : Int := if 0 ≤ x then bx x a else y
def fstL (H : Nat) (w : List Int) : List Int := (List.range H).map fun i => f1 (w.getD i 0) (w.getD (H + i) 0)
def sndL (H : Nat) (w a : List Int) : List Int := (List.range H).map fun i => f2 (w.getD i 0) (w.getD (H + i) 0) (a.getD i 0)

/-- Is all told of a part, where it is a word of what stands there? -/
def okL (fr : List Bool) : Nat → List Int → List Int → Nat → Bool
  | 0, w, _, p => !(fr.getD p false && decide (w.getD 0 0 < 0))
  | m + 1, w, u, p => okL fr m (fstL (2 ^ m) w) (u.take (2 ^ m)) p && okL fr m (sndL (2 ^ m) w (trL m (u.take (2 ^ m)))) (u.drop (2 ^ m)) (p + 2 ^ m)

/-- A word of which some is lost. -/
def Cons (w x : List Int) : Prop := w.length = x.length ∧ ∀ i, i < x.length → w.getD i 0 = -1 ∨ w.getD i 0 = x.getD i 0

theorem getD_bit {l : List Int} (h : ∀ x ∈ l, isBit x) {i : Nat} (hi : i < l.length) : isBit (l.getD i 0) := by
  rw [List.getD_eq_getElem?_getD, List.getElem?_eq_getElem hi]
  exact h _ (List.getElem_mem hi)

theorem getD_map {f : Nat → Int} {n i : Nat} (hi : i < n) : ((List.range n).map f).getD i 0 = f i := by
  rw [List.getD_eq_getElem?_getD, List.getElem?_map, List.getElem?_range hi]; rfl

theorem trL_lo {m i : Nat} {u : List Int} (hu : u.length = 2 ^ (m + 1)) (hi : i < 2 ^ m) :
    (trL (m + 1) u).getD i 0 = bx ((trL m (u.take (2 ^ m))).getD i 0) ((trL m (u.drop (2 ^ m))).getD i 0) := by
  rw [Nat.pow_succ] at hu
  have h1 := trL_length m (u.take (2 ^ m)) (by simp; omega)
  have h2 := trL_length m (u.drop (2 ^ m)) (by simp; omega)
  simp only [trL, List.getD_eq_getElem?_getD]
  rw [List.getElem?_append_left (by simp [h1, h2]; omega), List.getElem?_eq_getElem (by simp [h1, h2]; omega), List.getElem_zipWith, List.getElem?_eq_getElem (by omega), List.getElem?_eq_getElem (by omega)]
  rfl

theorem trL_hi {m i : Nat} {u : List Int} (hu : u.length = 2 ^ (m + 1)) : (trL (m + 1) u).getD (2 ^ m + i) 0 = (trL m (u.drop (2 ^ m))).getD i 0 := by
  rw [Nat.pow_succ] at hu
  have h1 := trL_length m (u.take (2 ^ m)) (by simp; omega)
  have h2 := trL_length m (u.drop (2 ^ m)) (by simp; omega)
  have h3 : (List.zipWith bx (trL m (u.take (2 ^ m))) (trL m (u.drop (2 ^ m)))).length = 2 ^ m := by simp [h1, h2]
  simp only [trL, List.getD_eq_getElem?_getD]
  rw [List.getElem?_append_right (by omega), h3]
  congr 2; omega

theorem bx_undo {a b : Int} (ha : isBit a) (hb : isBit b) : bx (bx a b) b = a ∧ bx (bx a b) a = b ∧ 0 ≤ bx a b := by
  rcases ha with rfl | rfl <;> rcases hb with rfl | rfl <;> decide

theorem bit_nn {a : Int} (h : isBit a) : 0 ≤ a := by rcases h with rfl | rfl <;> omega

section
variable {m : Nat} {w u : List Int}

theorem tk (hu : u.length = 2 ^ (m + 1)) : (u.take (2 ^ m)).length = 2 ^ m ∧ (u.drop (2 ^ m)).length = 2 ^ m := by
  rw [Nat.pow_succ] at hu
  constructor <;> simp <;> omega

theorem Cons.fst (h : Cons w (trL (m + 1) u)) (hu : u.length = 2 ^ (m + 1)) (hb : ∀ x ∈ u, isBit x) : Cons (fstL (2 ^ m) w) (trL m (u.take (2 ^ m))) := by
  obtain ⟨h1, h2⟩ := tk hu
  have l1 := trL_length m _ h1
  have l2 := trL_length m _ h2
  have l3 := trL_length (m + 1) u hu
  have e : 2 ^ (m + 1) = 2 ^ m + 2 ^ m := by rw [Nat.pow_succ]; omega
  refine ⟨by simp [fstL, l1], fun i hi => ?_⟩
  rw [l1] at hi
  have b1 := getD_bit (trL_bits m (u.take (2 ^ m)) fun x hx => hb x (List.mem_of_mem_take hx)) (i := i) (by omega)
  have b2 := getD_bit (trL_bits m (u.drop (2 ^ m)) fun x hx => hb x (List.mem_of_mem_drop hx)) (i := i) (by omega)
  rw [fstL, getD_map hi, f1]
  have c1 := h.2 i (by omega)
  have c2 := h.2 (2 ^ m + i) (by omega)
  rw [trL_lo hu hi] at c1
  rw [trL_hi hu] at c2
  obtain ⟨e1, e2, e3⟩ := bx_undo b1 b2
  have := bit_nn b2
  split
  · rename_i hc
    right
    rw [c1.resolve_left (by omega), c2.resolve_left (by omega), e1]
  · exact .inl rfl

theorem Cons.snd (h : Cons w (trL (m + 1) u)) (hu : u.length = 2 ^ (m + 1)) (hb : ∀ x ∈ u, isBit x) : Cons (sndL (2 ^ m) w (trL m (u.take (2 ^ m)))) (trL m (u.drop (2 ^ m))) := by
  obtain ⟨h1, h2⟩ := tk hu
  have l1 := trL_length m _ h1
  have l2 := trL_length m _ h2
  have l3 := trL_length (m + 1) u hu
  have e : 2 ^ (m + 1) = 2 ^ m + 2 ^ m := by rw [Nat.pow_succ]; omega
  refine ⟨by simp [sndL, l2], fun i hi => ?_⟩
  rw [l2] at hi
  have b1 := getD_bit (trL_bits m (u.take (2 ^ m)) fun x hx => hb x (List.mem_of_mem_take hx)) (i := i) (by omega)
  have b2 := getD_bit (trL_bits m (u.drop (2 ^ m)) fun x hx => hb x (List.mem_of_mem_drop hx)) (i := i) (by omega)
  rw [sndL, getD_map hi, f2]
  have c1 := h.2 i (by omega)
  have c2 := h.2 (2 ^ m + i) (by omega)
  rw [trL_lo hu hi] at c1
  rw [trL_hi hu] at c2
  obtain ⟨e1, e2, e3⟩ := bx_undo b1 b2
  split
  · rename_i hc
    right
    rw [c1.resolve_left (by omega), e2]
  · exact c2

/-- What was told by two halves agrees. -/
theorem Cons.agree (h : Cons w (trL (m + 1) u)) (hu : u.length = 2 ^ (m + 1)) (hb : ∀ x ∈ u, isBit x) {i : Nat} (hi : i < 2 ^ m) (h1 : 0 ≤ w.getD i 0) (h2 : 0 ≤ w.getD (2 ^ m + i) 0) :
    w.getD (2 ^ m + i) 0 = bx (w.getD i 0) ((trL m (u.take (2 ^ m))).getD i 0) := by
  obtain ⟨k1, k2⟩ := tk hu
  have l1 := trL_length m _ k1
  have l2 := trL_length m _ k2
  have l3 := trL_length (m + 1) u hu
  have e : 2 ^ (m + 1) = 2 ^ m + 2 ^ m := by rw [Nat.pow_succ]; omega
  have b1 := getD_bit (trL_bits m (u.take (2 ^ m)) fun x hx => hb x (List.mem_of_mem_take hx)) (i := i) (by omega)
  have b2 := getD_bit (trL_bits m (u.drop (2 ^ m)) fun x hx => hb x (List.mem_of_mem_drop hx)) (i := i) (by omega)
  have c1 := h.2 i (by omega)
  have c2 := h.2 (2 ^ m + i) (by omega)
  rw [trL_lo hu hi] at c1
  rw [trL_hi hu] at c2
  rw [c1.resolve_left (by omega), c2.resolve_left (by omega), (bx_undo b1 b2).2.1]
end

/-- Less is lost. -/
def Less (w w' : List Int) : Prop := ∀ i, w.getD i 0 = -1 ∨ w.getD i 0 = w'.getD i 0

/-- Where less is lost all is told still. -/
theorem okL_less (fr : List Bool) : ∀ (m : Nat) (w w' u : List Int) (p : Nat), Less w w' → Cons w' (trL m u) → u.length = 2 ^ m → (∀ x ∈ u, isBit x) → okL fr m w u p = true → okL fr m w' u p = true
  | 0, w, w', u, p, h, _, _, _, hk => by
    simp only [okL, Bool.not_eq_true', Bool.and_eq_false_iff, decide_eq_false_iff_not] at hk ⊢
    rcases hk with hk | hk
    · exact .inl hk
    · right
      rw [← (h 0).resolve_left (by omega)]; exact hk
  | m + 1, w, w', u, p, h, hc', hu, hb, hk => by
    simp only [okL, Bool.and_eq_true] at hk ⊢
    obtain ⟨k1, k2⟩ := tk hu
    have hf : ∀ (f g : Nat → Int) (H : Nat), (∀ i, i < H → f i = -1 ∨ f i = g i) → Less ((List.range H).map f) ((List.range H).map g) := by
      intro f g H hfg i
      by_cases hi : i < H
      · rw [getD_map hi, getD_map hi]; exact hfg i hi
      · right
        simp only [List.getD_eq_getElem?_getD]
        rw [List.getElem?_eq_none (by simpa using hi), List.getElem?_eq_none (by simpa using hi)]
    refine ⟨okL_less fr m _ _ _ _ (hf _ _ _ fun i _ => ?_) (hc'.fst hu hb) k1 (fun x hx => hb x (List.mem_of_mem_take hx)) hk.1, okL_less fr m _ _ _ _ (hf _ _ _ fun i hi => ?_) (hc'.snd hu hb) k2 (fun x hx => hb x (List.mem_of_mem_drop hx)) hk.2⟩
    · have h1 := h i
      have h2 := h (2 ^ m + i)
      unfold f1
      by_cases hc : 0 ≤ w.getD i 0 ∧ 0 ≤ w.getD (2 ^ m + i) 0
      · right
        rw [if_pos hc, ← h1.resolve_left (by omega), ← h2.resolve_left (by omega), if_pos hc]
      · left; rw [if_neg hc]
    · have h1 := h i
      have h2 := h (2 ^ m + i)
      unfold f2
      by_cases hc : 0 ≤ w.getD i 0
      · right
        rw [if_pos hc, ← h1.resolve_left (by omega), if_pos hc]
      · rw [if_neg hc]
        rcases h2 with h2 | h2
        · exact .inl h2
        · by_cases h3 : w'.getD (2 ^ m + i) 0 = -1
          · left; rw [h2, h3]
          · right
            have l3 := trL_length (m + 1) u hu
            have e : 2 ^ (m + 1) = 2 ^ m + 2 ^ m := by rw [Nat.pow_succ]; omega
            have c2 := (hc'.2 (2 ^ m + i) (by omega)).resolve_left h3
            have b2 := bit_nn (getD_bit (trL_bits (m + 1) u hb) (i := 2 ^ m + i) (by omega))
            split
            · rename_i h4
              rw [h2, hc'.agree hu hb hi h4 (by omega)]
            · exact h2

/-- Where nothing is lost all is told. -/
theorem okL_full (fr : List Bool) : ∀ (m : Nat) (w u : List Int) (p : Nat), (∀ i, i < 2 ^ m → 0 ≤ w.getD i 0) → okL fr m w u p = true
  | 0, w, u, p, h => by
    simp only [okL, Bool.not_eq_true', Bool.and_eq_false_iff, decide_eq_false_iff_not]
    right
    have := h 0 (by decide)
    omega
  | m + 1, w, u, p, h => by
    have e : 2 ^ (m + 1) = 2 ^ m + 2 ^ m := by rw [Nat.pow_succ]; omega
    simp only [okL, Bool.and_eq_true]
    refine ⟨okL_full fr m _ _ _ fun i hi => ?_, okL_full fr m _ _ _ fun i hi => ?_⟩
    · rw [fstL, getD_map hi, f1, if_pos ⟨h _ (by omega), h _ (by omega)⟩]
      exact bit_nn (bx_bit _ _)
    · rw [sndL, getD_map hi, f2, if_pos (h _ (by omega))]
      exact bit_nn (bx_bit _ _)

/-- A transform's transform is what it was made of. -/
theorem zip_bx_undo : ∀ {a b : List Int}, a.length = b.length → (∀ x ∈ a, isBit x) → (∀ x ∈ b, isBit x) → List.zipWith bx (List.zipWith bx a b) b = a
  | [], [], _, _, _ => rfl
  | [], _ :: _, h, _, _ => by simp at h
  | _ :: _, [], h, _, _ => by simp at h
  | x :: a, y :: b, h, ha, hb => by
    simp only [List.zipWith_cons_cons]
    rw [(bx_undo (ha x (by simp)) (hb y (by simp))).1, zip_bx_undo (by simpa using h) (fun z hz => ha z (by simp [hz])) (fun z hz => hb z (by simp [hz]))]

theorem zip_bits {a b : List Int} : ∀ x ∈ List.zipWith bx a b, isBit x := by
  intro x hx
  obtain ⟨i, hi, rfl⟩ := List.getElem_of_mem hx
  rw [List.getElem_zipWith]; exact bx_bit _ _

/-- Sums go through. -/
theorem trL_add : ∀ (m : Nat) (a b : List Int), a.length = 2 ^ m → b.length = 2 ^ m → (∀ x ∈ a, isBit x) → (∀ x ∈ b, isBit x) → trL m (List.zipWith bx a b) = List.zipWith bx (trL m a) (trL m b)
  | 0, _, _, _, _, _, _ => rfl
  | m + 1, a, b, ha, hb, ba, bb => by
    obtain ⟨a1, a2⟩ := tk ha
    obtain ⟨b1, b2⟩ := tk hb
    have t1 := trL_add m (a.take (2 ^ m)) (b.take (2 ^ m)) a1 b1 (fun x hx => ba x (List.mem_of_mem_take hx)) (fun x hx => bb x (List.mem_of_mem_take hx))
    have t2 := trL_add m (a.drop (2 ^ m)) (b.drop (2 ^ m)) a2 b2 (fun x hx => ba x (List.mem_of_mem_drop hx)) (fun x hx => bb x (List.mem_of_mem_drop hx))
    simp only [trL]
    rw [List.take_zipWith, List.drop_zipWith, t1, t2, List.zipWith_append (by simp [trL_length m _ a1, trL_length m _ a2, trL_length m _ b1, trL_length m _ b2])]
    congr 1
    have e1 := trL_length m _ a1
    have e2 := trL_length m _ a2
    have e3 := trL_length m _ b1
    have e4 := trL_length m _ b2
    have q1 := trL_bits m (a.take (2 ^ m)) fun x hx => ba x (List.mem_of_mem_take hx)
    have q2 := trL_bits m (a.drop (2 ^ m)) fun x hx => ba x (List.mem_of_mem_drop hx)
    have q3 := trL_bits m (b.take (2 ^ m)) fun x hx => bb x (List.mem_of_mem_take hx)
    have q4 := trL_bits m (b.drop (2 ^ m)) fun x hx => bb x (List.mem_of_mem_drop hx)
    apply List.ext_getElem
    · simp [e1, e2, e3, e4]
    · intro i h1 h2
      simp only [List.getElem_zipWith]
      simp only [List.length_zipWith] at h1
      have g1 := q1 _ (List.getElem_mem (l := trL m (a.take (2 ^ m))) (n := i) (by omega))
      have g2 := q2 _ (List.getElem_mem (l := trL m (a.drop (2 ^ m))) (n := i) (by omega))
      have g3 := q3 _ (List.getElem_mem (l := trL m (b.take (2 ^ m))) (n := i) (by omega))
      have g4 := q4 _ (List.getElem_mem (l := trL m (b.drop (2 ^ m))) (n := i) (by omega))
      generalize (trL m (a.take (2 ^ m)))[i] = x at *
      generalize (trL m (a.drop (2 ^ m)))[i] = y at *
      generalize (trL m (b.take (2 ^ m)))[i] = z at *
      generalize (trL m (b.drop (2 ^ m)))[i] = t at *
      rcases g1 with rfl | rfl <;> rcases g2 with rfl | rfl <;> rcases g3 with rfl | rfl <;> rcases g4 with rfl | rfl <;> decide

theorem trL_trL : ∀ (m : Nat) (w : List Int), w.length = 2 ^ m → (∀ x ∈ w, isBit x) → trL m (trL m w) = w
  | 0, _, _, _ => rfl
  | m + 1, w, hw, hb => by
    obtain ⟨k1, k2⟩ := tk hw
    have l1 := trL_length m _ k1
    have l2 := trL_length m _ k2
    have b1 := trL_bits m (w.take (2 ^ m)) fun x hx => hb x (List.mem_of_mem_take hx)
    have b2 := trL_bits m (w.drop (2 ^ m)) fun x hx => hb x (List.mem_of_mem_drop hx)
    have i1 := trL_trL m _ k1 fun x hx => hb x (List.mem_of_mem_take hx)
    have i2 := trL_trL m _ k2 fun x hx => hb x (List.mem_of_mem_drop hx)
    have ht : (trL (m + 1) w).take (2 ^ m) = List.zipWith bx (trL m (w.take (2 ^ m))) (trL m (w.drop (2 ^ m))) := by
      rw [trL, List.take_left' (by simp [l1, l2])]
    have hd : (trL (m + 1) w).drop (2 ^ m) = trL m (w.drop (2 ^ m)) := by
      rw [trL, List.drop_left' (by simp [l1, l2])]
    rw [trL, ht, hd, trL_add m _ _ l1 l2 b1 b2, i1, i2, zip_bx_undo (by omega) (fun x hx => hb x (List.mem_of_mem_take hx)) (fun x hx => hb x (List.mem_of_mem_drop hx)), List.take_append_drop]

end Go.Proofs.Ytdhiacdfblakcaa
