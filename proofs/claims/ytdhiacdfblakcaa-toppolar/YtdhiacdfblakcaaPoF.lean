/- Walks: what is told of a part. -/
import Derived.Test.YtdhiacdfblakcaaPoE
namespace Go.Proofs.Ytdhiacdfblakcaa
open Go Go.Ab

abbrev ptr (d o : Nat) : Value := .pointer (some ⟨d, o, none⟩)
def vbools (l : List Bool) : List Value := l.map Value.bool
theorem vbools_length (l : List Bool) : (vbools l).length = l.length := List.length_map _
theorem vbools_get (l : List Bool) (i : Nat) (h : i < (vbools l).length) : (vbools l)[i] = .bool (l[i]'(by simpa [vbools] using h)) := by simp [vbools]

/-- The decoder's block. -/
structure Dk (n0 : Nat) (s : St) (d : Nat) (fv : Value) (fr : List Bool) (bv : Value) (bits : List Int) (failed : Bool) : Prop where
  bx : Bx s d [fv, bv, .bool failed]
  fr : Sl s fv (vbools fr)
  gr : Gr n0 s bv (vints bits)
  d0 : d < n0
  f0 : ∀ b, blk fv = some b → b < n0 ∧ b ≠ d

theorem _root_.Go.Ab.Frm.mono {B C : Nat → Prop} {s s' : St} (h : Frm B s s') (k : ∀ b, b < s.n → B b → C b) : Frm C s s' := ⟨h.n, fun b hb hn => h.H b hb fun e => hn (k b hb e)⟩

section
variable {n0 d : Nat} {s s' : St} {fv bv : Value} {fr : List Bool} {bits : List Int} {failed : Bool}
theorem Dk.bd (h : Dk n0 s d fv fr bv bits failed) : blk bv ≠ some d := fun e => by have := (h.gr.blk d e).1; have := h.d0; omega
theorem Dk.frm {B : Nat → Prop} (h : Dk n0 s d fv fr bv bits failed) (k : Frm B s s') (h1 : ¬ B d) (h2 : ∀ b, blk fv = some b → ¬ B b) (h3 : ∀ b, blk bv = some b → ¬ B b) : Dk n0 s' d fv fr bv bits failed :=
  ⟨h.bx.frm k h1, h.fr.frm k h2, h.gr.frm k h3, h.d0, h.f0⟩
theorem Dk.ext (h : Dk n0 s d fv fr bv bits failed) (k : Ext s s') : Dk n0 s' d fv fr bv bits failed := h.frm (Frm.of_ext (B := fun _ => False) k) id (fun _ _ => id) (fun _ _ => id)
theorem Dk.r0 (h : Dk n0 s d fv fr bv bits failed) : rdv s (ptr d 0) = some fv := h.bx.rdv 0
theorem Dk.r1 (h : Dk n0 s d fv fr bv bits failed) : rdv s (ptr d 1) = some bv := h.bx.rdv 1
theorem Dk.r2 (h : Dk n0 s d fv fr bv bits failed) : rdv s (ptr d 2) = some (.bool failed) := h.bx.rdv 2
/-- The mark is written. -/
theorem Dk.mark {g : Bool} {K : Value → St → Prop} (h : Dk n0 s d fv fr bv bits failed) (hk : ∀ s', Dk n0 s' d fv fr bv bits g → Frm (fun b => b = d) s s' → s'.n = s.n → K undefV (On s')) : astore s 1 (ptr d 2) (.bool g) K := by
  refine h.bx.store (Nat.lt_succ_self 2) rfl fun s' b' c' n' => hk s' ?_ ?_ n'
  · have hc : Frm (fun b => b = d) s s' := Frm.of_chg c' fun b _ e => by cases e; rfl
    exact ⟨b', h.fr.frm hc fun b e e2 => (h.f0 b e).2 e2, h.gr.frm hc fun b e e2 => h.bd (by rw [e, e2]), h.d0, h.f0⟩
  · exact Frm.of_chg c' fun b _ e => by cases e; rfl
/-- A bit is told: the list grows .. -/
theorem Dk.push {x : Int} {K : Value → St → Prop} (h : Dk n0 s d fv fr bv bits failed) (hn : n0 ≤ s.n) (hl : bits.length < 2 ^ 39)
    (hk : ∀ bv' s', Bx s' d [fv, bv, .bool failed] → Sl s' fv (vbools fr) → Gr n0 s' bv' (vints (bits ++ [x])) → Frm (fun b => blk bv = some b) s s' → (blk bv' = blk bv ∨ ∀ b, blk bv' = some b → s.n ≤ b) → K bv' (On s')) :
    aapp (s.new (.cells [.int .i64 x] 1 true)) 1 8 bv (.slice (some ⟨s.n, 0, none⟩) 1 1) K := by
  refine h.gr.app1 hn rfl (by decide) (by rw [vints_length]; omega) fun v' s' g c hb => ?_
  have f1 : Frm (fun b => blk bv = some b) s s' := Frm.of_chg c fun b _ e => e
  have b1 := h.bx.frm f1 h.bd
  have fr1 := h.fr.frm f1 fun b e e2 => by have := (h.f0 b e).1; have := (h.gr.blk b e2).1; omega
  exact hk v' s' b1 fr1 (by rw [← vints_snoc]; exact g) f1 hb
/-- .. and is kept. -/
theorem Dk.keep {b0 b1 : Value} {K : Value → St → Prop} (h : Bx s d [fv, b0, .bool failed]) (hf : Sl s fv (vbools fr)) (hg : Gr n0 s b1 (vints bits)) (d0 : d < n0) (f0 : ∀ b, blk fv = some b → b < n0 ∧ b ≠ d)
    (hk : ∀ s', Dk n0 s' d fv fr b1 bits failed → Frm (fun b => b = d) s s' → s'.n = s.n → K undefV (On s')) : astore s 1 (ptr d 1) b1 K := by
  refine h.store (i := 1) (Nat.lt_succ_of_lt (Nat.lt_succ_self 1)) hg.sl.one fun s'' b' c' n' => ?_
  have hc : Frm (fun b => b = d) s s'' := Frm.of_chg c' fun b _ e => by cases e; rfl
  exact hk s'' ⟨b', hf.frm hc fun b e e2 => (f0 b e).2 e2, hg.frm hc fun b e e2 => by have := (hg.blk b e).1; omega, d0, f0⟩ hc n'
end

def RdPost (n0 : Nat) (s : St) (d : Nat) (fv : Value) (fr : List Bool) (bv : Value) (ok : Bool) (m : Nat) (u bits : List Int) (r : Value) (s' : St) : Prop :=
  ∃ bv' bits', Dk n0 s' d fv fr bv' bits' (!ok) ∧ Frm (fun b => b = d ∨ blk bv = some b) s s' ∧ (blk bv' = blk bv ∨ ∀ b, blk bv' = some b → s.n ≤ b) ∧
    (ok = true → bits' = bits ++ u ∧ Sl s' r (vints (trL m u)) ∧ ∀ b, blk r = some b → s.n ≤ b ∧ blk bv' ≠ some b)

theorem read_leaf {n0 d : Nat} {s : St} {fv bv v : Value} {fr : List Bool} {bits w u : List Int} (D : Dk n0 s d fv fr bv bits false) (hn : n0 ≤ s.n) (hv : Sl s v (vints w)) (hl : w.length = 1) (hu : u.length = 1)
    (hc : Cons w (trL 0 u)) (hlen : bits.length + 1 ≤ fr.length) (hfr : fr.length ≤ 2 ^ 20) (hz : fr.getD bits.length false = false → u.getD 0 0 = 0) (hub : ∀ x ∈ u, isBit x) :
    ACalls P 17 [ptr d 0, v] s (RdPost n0 s d fv fr bv (okL fr 0 w u bits.length) 0 u bits) := by
  have lv := hv.ilen
  rw [hl] at lv
  have lb := D.gr.sl.ilen
  obtain ⟨p, p1, p2⟩ := hv.iel (i := 0) (by omega)
  have p1' : aidx 1 v (.int .i64 0) = some p := p1
  obtain ⟨q, q1, q2⟩ := D.fr.elem (i := bits.length) (by rw [vbools_length]; omega)
  rw [vbools_get] at q2
  have hw0 : w[0]'(by omega) = -1 ∨ w[0]'(by omega) = u.getD 0 0 := by
    have := hc.2 0 (by rw [trL]; omega)
    rw [trL, List.getD_eq_getElem?_getD, List.getElem?_eq_getElem (by omega)] at this
    exact this
  have hF : fr.getD bits.length false = fr[bits.length]'(by omega) := by rw [List.getD_eq_getElem?_getD, List.getElem?_eq_getElem (by omega)]; rfl
  have hW : w.getD 0 0 = w[0]'(by omega) := by rw [List.getD_eq_getElem?_getD, List.getElem?_eq_getElem (by omega)]; rfl
  have hbit : isBit (u.getD 0 0) := getD_bit hub (by omega)
  have hU : u = [u.getD 0 0] := by
    match u, hu with
    | [x], _ => rfl
  rw [okL, hF, hW]
  rw [hF] at hz
  generalize w[0]'(by omega) = w0 at *
  generalize hff : fr[bits.length]'(by omega) = f at *
  refine ACalls.intro h17 rfl (asem_on ?_)
  simp -implicitDefEqProofs only [↓walkD, walkU, apure, Nat.reduceEqDiff, reduceIte, a17, c17, D.r2, lv]
  refine condB_beq (fun _ => ?_) (fun h => absurd rfl h)
  simp -implicitDefEqProofs only [↓walkD, walkU, apure, Nat.reduceEqDiff, reduceIte, p1', p2, D.r0, D.r1, lb, q1, q2]
  have key : ∀ (x : Int) (g : Bool) (s1 s2 : St) (bv' : Value), Dk n0 s1 d fv fr bv bits g → Frm (fun b => b = d) s s1 → s1.n = s.n → Bx s2 d [fv, bv, .bool g] → Sl s2 fv (vbools fr) → Gr n0 s2 bv' (vints (bits ++ [x])) →
      Frm (fun b => blk bv = some b) s1 s2 → (blk bv' = blk bv ∨ ∀ b, blk bv' = some b → s1.n ≤ b) → (okL fr 0 w u bits.length = !g) → (g = false → x = u.getD 0 0) → ∀ s3 : St, Dk n0 s3 d fv fr bv' (bits ++ [x]) g → Frm (fun b => b = d) s2 s3 → s3.n = s2.n →
      RdPost n0 s d fv fr bv (!g) 0 u bits (.slice (some ⟨s3.n, 0, none⟩) 1 1) (s3.new (.cells [.int .i64 x] 1 true)) := by
    intro x g s1 s2 bv' D1 F1 N1 B2 R2 G2 F2 hb hg hx s3 D3 F3 N3
    have E : Ext s3 (s3.new (.cells [.int .i64 x] 1 true)) := Ext.new _
    refine ⟨bv', bits ++ [x], by rw [Bool.not_not]; exact D3.ext E, ?_, ?_, fun hok => ?_⟩
    · have h1 : Frm (fun b => b = d ∨ blk bv = some b) s s2 := (F1.mono fun b _ e => .inl e).trans F2 fun b _ e => .inr e
      exact (h1.trans F3 fun b _ e => .inl e).trans (Frm.of_ext (B := fun _ => False) E) fun b _ e => e.elim
    · rw [N1] at hb; exact hb
    · have hg0 : g = false := by simpa using hok
      have hx0 := hx hg0
      refine ⟨by rw [hU, ← hx0], ?_, ?_⟩
      · have hm : Gr s3.n (s3.new (.cells [.int .i64 x] 1 true)) (.slice (some ⟨s3.n, 0, none⟩) 1 1) [.int .i64 x] := Gr.made s3 [.int .i64 x] true (Nat.le_refl _)
        have e2 : vints (trL 0 u) = [.int .i64 x] := by rw [trL, hU, ← hx0]; rfl
        rw [e2]; exact hm.sl
      · intro b e
        cases e
        have := F2.n
        exact ⟨by omega, fun e => by have := (D3.gr.blk _ e).2; omega⟩
  rw [okL, hF, hW] at key
  refine condB_intro (fun h => ?_) (fun h => ?_)
  · have hf : f = false := by simpa using h
    have h0 := hz hf
    have hw1 : (w0 == 1) = false := by
      rcases hw0 with e | e
      · rw [e]; rfl
      · rw [e, h0]; rfl
    simp -implicitDefEqProofs only [↓walkD, walkU, apure, Nat.reduceEqDiff, reduceIte, hw1]
    refine D.mark fun s1 D1 F1 N1 => ?_
    simp -implicitDefEqProofs only [↓walkD, walkU, apure, Nat.reduceEqDiff, reduceIte, D1.r2, Int.lt_irrefl, decide_false]
    refine D1.mark fun s2 D2 F2 N2 => ?_
    simp -implicitDefEqProofs only [↓walkD, walkU, apure, Nat.reduceEqDiff, reduceIte, D2.r1, absl_int]
    refine D2.push (by omega) (by omega) fun bv' s3 B3 R3 G3 F3 hb => ?_
    simp -implicitDefEqProofs only [↓walkD, walkU, apure, Nat.reduceEqDiff, reduceIte]
    refine Dk.keep B3 R3 G3 D.d0 D.f0 fun s4 D4 F4 N4 => ?_
    simp -implicitDefEqProofs only [↓walkD, walkU, Nat.reduceEqDiff, reduceIte, absl_int]; simp only [On_eq]
    have hk := key 0 false s2 s3 bv' D2 ((F1.trans F2) fun b _ e => e) (by omega) B3 R3 G3 F3 hb (by rw [hf]; rfl) (fun _ => h0.symm) s4 D4 F4 N4
    rw [hf]; exact hk
  · have hf : f = true := by simpa using h
    simp -implicitDefEqProofs only [↓walkD, walkU, apure, Nat.reduceEqDiff, reduceIte, D.r2]
    refine D.mark fun s2 D2 F2 N2 => ?_
    simp -implicitDefEqProofs only [↓walkD, walkU, apure, Nat.reduceEqDiff, reduceIte, D2.r1, absl_int]
    refine D2.push (by omega) (by omega) fun bv' s3 B3 R3 G3 F3 hb => ?_
    simp -implicitDefEqProofs only [↓walkD, walkU, apure, Nat.reduceEqDiff, reduceIte]
    refine Dk.keep B3 R3 G3 D.d0 D.f0 fun s4 D4 F4 N4 => ?_
    simp -implicitDefEqProofs only [↓walkD, walkU, Nat.reduceEqDiff, reduceIte, absl_int]; simp only [On_eq]
    have hk := key w0 (decide (w0 < 0)) s2 s3 bv' D2 F2 N2 B3 R3 G3 F3 hb (by rw [hf]; simp) (fun h => hw0.resolve_left (by have := of_decide_eq_false h; omega)) s4 D4 F4 N4
    rw [hf, Bool.true_and]; exact hk

end Go.Proofs.Ytdhiacdfblakcaa
