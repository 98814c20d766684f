/- From the world's arguments (slices of numbers) into the small machine, and back. -/
import Derived.Test.YtdhiacdfblakcaaAbU
import Derived.Below
namespace Go.Ab
open Go

/-- A slice of numbers that came in. -/
def ArgI (W : World) (x : Option Addr × Nat × Nat × List Int) : Prop :=
  (x.1 = none ∧ x.2.1 = 0 ∧ x.2.2.1 = 0 ∧ x.2.2.2 = []) ∨ ∃ p, x.1 = some p ∧ x.2.1 ≤ x.2.2.1 ∧ x.2.2.2.length = x.2.2.1 ∧ ∀ i, i < x.2.2.2.length → W.cell? (p.add i) = some (.int .i64 (x.2.2.2.getD i 0))

abbrev Args := List (Option Addr × Nat × Nat × List Int)

def avI (b : Nat) (x : Option Addr × Nat × Nat × List Int) : Value := match x.1 with
  | none => .slice none 0 0
  | some _ => .slice (some ⟨b, 0, none⟩) x.2.1 x.2.2.1

def mu0 (L : Args) : Mu := fun b => match L[b]? with
  | some x => match x.1 with | some p => some ⟨p.block, p.off, x.2.2.1, 0, 1⟩ | none => none
  | none => none

def st0 (L : Args) : St := ⟨fun b => match L[b]? with
  | some x => match x.1 with | some _ => if x.2.2.1 = 0 then none else some (.ro (vints x.2.2.2) 1) | none => none
  | none => none, L.length⟩

section
variable {L : Args} {W : World}

theorem cell_block {p : Addr} {v : Value} (h : W.cell? p = some v) : ∃ cs e fr, W.heap[p.block]? = some (.cells cs e fr) ∧ p.spot = none ∧ cs[p.off]? = some v := by
  unfold World.cell? at h
  split at h
  · rename_i cs e fr hb
    refine ⟨cs, e, fr, hb, ?_⟩
    split at h
    · cases h
    · rename_i hs
      refine ⟨?_, h⟩
      cases hp : p.spot with
      | none => rfl
      | some _ => simp [hp] at hs
  · cases h

theorem rel0 (h : ∀ x ∈ L, ArgI W x) : Rel (mu0 L) (st0 L) W := by
  refine ⟨?_, ?_, ?_⟩
  · intro b l hb
    unfold mu0 at hb
    split at hb
    · rename_i x hx
      exact (List.getElem?_eq_some_iff.1 hx).1
    · cases hb
  · intro b o hb
    simp only [st0] at hb
    split at hb
    · rename_i x hx
      split at hb
      · rename_i p hp
        split at hb
        · cases hb
        · rename_i hcap
          cases hb
          have hm : mu0 L b = some ⟨p.block, p.off, x.2.2.1, 0, 1⟩ := by simp only [mu0, hx, hp]
          rcases h x (List.mem_of_getElem? hx) with ⟨e, _⟩ | ⟨q, e, hl, hz, hc⟩
          · rw [hp] at e; cases e
          · rw [hp] at e; cases e
            have h0 := hc 0 (by omega)
            obtain ⟨cs, e, fr, hb, hs, _⟩ := cell_block h0
            have hb' : W.heap[p.block]? = some (.cells cs e fr) := hb
            have hat : ∀ i, i < x.2.2.2.length → cs[p.off + i]? = some (.int .i64 (x.2.2.2.getD i 0)) := by
              intro i hi
              have h1 := hc i hi
              obtain ⟨cs', e', fr', hb2, _, h2⟩ := cell_block h1
              have ea : (p.add i).block = p.block ∧ (p.add i).off = p.off + i := by unfold Addr.add; split <;> simp_all
              rw [ea.1] at hb2
              rw [ea.2] at h2
              rw [hb'] at hb2
              cases hb2
              exact h2
            have hsz : p.off + x.2.2.1 ≤ cs.size := by
              have := hat (x.2.2.1 - 1) (by omega)
              have := (Array.getElem?_eq_some_iff.1 this).1
              omega
            refine ⟨_, hm, by rw [vints_length, hz], rfl, rfl, cs, e, fr, hb', hsz, ?_⟩
            refine VRs.of_get (by simp [vints_length]; omega) fun i v v' h1 h2 => ?_
            have hi : i < x.2.2.2.length := by
              have := (List.getElem?_eq_some_iff.1 h1).1
              rwa [vints_length] at this
            rw [List.getElem?_take, if_pos (by rw [vints_length]; exact hi), List.getElem?_drop] at h2
            have h3 := hat i hi
            rw [← Array.getElem?_toList, h2] at h3
            cases h3
            have h4 : v = .int .i64 (x.2.2.2.getD i 0) := by
              rw [List.getElem?_eq_getElem (by rw [vints_length]; exact hi)] at h1
              cases h1
              rw [vints_get, List.getD_eq_getElem?_getD, List.getElem?_eq_getElem hi]; rfl
            rw [h4]
            exact .int _ _
      · cases hb
    · cases hb
  · intro b₁ b₂ o₁ o₂ L₁ L₂ _ h₁ _ hown
    simp only [st0] at h₁
    split at h₁
    · split at h₁
      · split at h₁
        · cases h₁
        · cases h₁; cases hown
      · cases h₁
    · cases h₁

theorem vr0 {b : Nat} {x : Option Addr × Nat × Nat × List Int} (hx : L[b]? = some x) (h : ArgI W x) : VR (mu0 L) (avI b x) (.slice x.1 x.2.1 x.2.2.1) := by
  rcases h with ⟨e1, e2, e3, e4⟩ | ⟨p, e, hl, hz, hc⟩
  · rw [avI, e1, e2, e3]; exact .sliceNil
  · have hm : mu0 L b = some ⟨p.block, p.off, x.2.2.1, 0, 1⟩ := by simp only [mu0, hx, e]
    rw [avI, e]
    refine .slice hm (by simp) (by simp) hl (Nat.le_refl _) (by simp) ?_
    by_cases h0 : x.2.2.1 = 0
    · exact .inl h0
    · right
      obtain ⟨cs, e', fr, hb, hs, _⟩ := cell_block (hc 0 (by omega))
      have hs' : p.spot = none := hs
      cases p
      simp only at hs'
      subst hs'
      rfl

theorem sl0 {b : Nat} {x : Option Addr × Nat × Nat × List Int} (hx : L[b]? = some x) (h : ArgI W x) : Sl (st0 L) (avI b x) (vints (x.2.2.2.take x.2.1)) := by
  have hb := (List.getElem?_eq_some_iff.1 hx).1
  rcases h with ⟨e1, e2, e3, e4⟩ | ⟨p, e, hl, hz, hc⟩
  · rw [avI, e1, e4]; exact .inl ⟨rfl, by simp [vints]⟩
  · have hlen : (vints (x.2.2.2.take x.2.1)).length = x.2.1 := by rw [vints_length, List.length_take]; omega
    rw [avI, e]
    by_cases h0 : x.2.2.1 = 0
    · exact .inr ⟨b, 0, x.2.2.1, by rw [hlen], by omega, .inl h0, fun i hi => by omega⟩
    · have hH : (st0 L).H b = some (.ro (vints x.2.2.2) 1) := by simp only [st0, hx, e, if_neg h0]
      refine .inr ⟨b, 0, x.2.2.1, by rw [hlen], by omega, .inr ⟨hb, by rw [hH]; rfl⟩, fun i hi => ?_⟩
      rw [rd_ro hH, Nat.zero_add, List.getElem?_eq_getElem (by rw [vints_length]; omega)]
      simp only [vints_get, List.getElem_take]

/-- A law that comes out true in the small machine does so in the world, and leaves all there as it was. -/
theorem law_calls {P : Program} {f : FuncId} {args : List Value} {cargs : Array Value} {X : St → Prop} (h : ACalls P f args (st0 L) fun r s' => r = .bool true ∧ X s') (hL : ∀ x ∈ L, ArgI W x) (hv : VRs (mu0 L) args cargs.toList) :
    Calls P f cargs W fun e W' => e = .returned (.bool true) ∧ RowKit.Below W.heap.size W W' := by
  refine (h.2 (mu0 L) cargs W (rel0 hL) hv).mono ?_
  rintro e W' ⟨μ', s', v, v', rfl, st, _, hvr, rfl, _⟩
  refine ⟨by cases hvr; rfl, st.os, st.tape, st.output, st.size, fun k hk => st.frame k hk ?_⟩
  rintro ⟨b, o, l, hb, ho, _⟩
  simp only [st0] at hb
  split at hb
  · split at hb
    · split at hb
      · cases hb
      · cases hb; cases ho
    · cases hb
  · cases hb
end
end Go.Ab
