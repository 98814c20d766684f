/- An operation hangs on its operands alone. -/
import Derived.Test.YtdhiacdfblakcaaAbJ
namespace Go.Ab
open Go

def AOp.opnds : AOp → List Operand
  | .mov x | .un _ x | .isnil _ _ x | .conv _ x | .chk x | .ext x _ | .faddr x _ | .field x _ _ _ | .len x | .lenS x | .load x _ _ | .box x => [x]
  | .pick c a b => [c, a, b]
  | .bin _ x y | .iaddr x y _ | .iaddrA x y _ _ | .idxS x y | .idxA x y _ _ _ | .mm _ x y | .store x y _ | .app x y _ _ | .copy x y _ => [x, y]
  | .fn _ f c => f ++ c
  | .slcS x lo hi => x :: (lo.toList ++ hi.toList)
  | .slc x lo hi mx _ => x :: (lo.toList ++ hi.toList ++ mx.toList)
  | .build _ ps => ps.map (·.2.2)
  | .alloc _ => []
  | .mkslice n c _ _ _ => [n, c]
  | .bslice _ _ _ ps => ps.map (·.2.2)
  | .call f args => f :: args

def tmpOf : Operand → Option Nat
  | .tmp i => some i
  | _ => none

/-- The slots that an instruction looks at. -/
def AIns.slots (i : AIns) : List Nat := (match i.guard with | some (g, _) => [g] | none => []) ++ i.op.opnds.filterMap tmpOf

theorem ev_cong {t u : Env} {x : Operand} (h : ∀ d, tmpOf x = some d → t d = u d) : ev t x = ev u x := by
  cases x with
  | tmp i => exact h i rfl
  | _ => rfl

theorem evs_cong {t u : Env} {l : List Operand} (h : ∀ x ∈ l, ev t x = ev u x) : l.map (ev t) = l.map (ev u) := List.map_congr_left h

theorem opt_cong {t u : Env} {x : Option Operand} (h : ∀ y ∈ x.toList, ev t y = ev u y) : x.map (ev t) = x.map (ev u) := by
  cases x with
  | none => rfl
  | some y => simp [h y (by simp)]

theorem parts_cong {t u : Env} {ps : List (Nat × Nat × Operand)} (h : ∀ x ∈ ps.map (·.2.2), ev t x = ev u x) :
    ps.map (fun p => (p.1, p.2.1, ev t p.2.2)) = ps.map (fun p => (p.1, p.2.1, ev u p.2.2)) := by
  apply List.map_congr_left
  intro p hp
  rw [h p.2.2 (List.mem_map.2 ⟨p, hp, rfl⟩)]

theorem op_cong {P : Program} {t u : Env} {s : St} {K : Value → St → Prop} {op : AOp} (h : ∀ x ∈ op.opnds, ev t x = ev u x) :
    apure t op = apure u op ∧ aread t s op = aread u s op ∧ aalloc t op = aalloc u op ∧ aheavy P t s K op = aheavy P u s K op := by
  cases op <;> simp only [AOp.opnds, List.mem_cons, List.not_mem_nil, or_false, forall_eq_or_imp, forall_eq, List.mem_append] at h <;>
    simp only [apure, aread, aalloc, aheavy, and_self, and_true, true_and]
  case mov => rw [h]
  case pick => rw [h.1, h.2.1, h.2.2]
  case bin => rw [h.1, h.2]
  case un => rw [h]
  case isnil => rw [h]
  case conv => rw [h]
  case chk => rw [h]
  case fn => rw [evs_cong (t := t) fun x hx => h x (.inl hx), evs_cong (t := t) fun x hx => h x (.inr hx)]
  case ext => rw [h]
  case faddr => rw [h]
  case field => rw [h]
  case iaddr => rw [h.1, h.2]
  case iaddrA => rw [h.1, h.2]
  case idxS => rw [h.1, h.2]
  case idxA => rw [h.1, h.2]
  case slcS => rw [h.1, opt_cong (t := t) fun x hx => h.2 x (.inl hx), opt_cong (t := t) fun x hx => h.2 x (.inr hx)]
  case build => rw [parts_cong h]
  case len => rw [h]
  case lenS => rw [h]
  case mm => rw [h.1, h.2]
  case slc => rw [h.1, opt_cong (t := t) fun x hx => h.2 x (.inl (.inl hx)), opt_cong (t := t) fun x hx => h.2 x (.inl (.inr hx)), opt_cong (t := t) fun x hx => h.2 x (.inr hx)]
  case load => rw [h]
  case box => rw [h]
  case mkslice => rw [h.1, h.2]
  case bslice => rw [parts_cong h]
  case store => rw [h.1, h.2]
  case app => rw [h.1, h.2]
  case copy => rw [h.1, h.2]
  case call => rw [h.1, evs_cong (t := t) fun x hx => h.2 x hx]

theorem AIns.cong {i : AIns} {t u : Env} (h : ∀ d ∈ i.slots, t d = u d) : awanted t i.guard = awanted u i.guard ∧ ∀ x ∈ i.op.opnds, ev t x = ev u x := by
  refine ⟨?_, ?_⟩
  · cases hg : i.guard with
    | none => rfl
    | some p =>
      obtain ⟨g, b⟩ := p
      simp only [awanted]
      rw [h g (by simp [AIns.slots, hg])]
  · intro x hx
    refine ev_cong fun d hd => h d ?_
    simp only [AIns.slots, List.mem_append, List.mem_filterMap]
    exact .inr ⟨x, hx, hd⟩

/-- Fewer blocks are asked for. -/
theorem Rel.sub {μ : Mu} {s s' : St} {w : World} (h : Rel μ s w) (hn : s.n ≤ s'.n) (hs : ∀ b o, s'.H b = some o → s.H b = some o) : Rel μ s' w :=
  ⟨fun b L hb => Nat.lt_of_lt_of_le (h.lt b L hb) hn, fun b o hb => h.obj b o (hs b o hb), fun b₁ b₂ o₁ o₂ L₁ L₂ hne h₁ h₂ => h.disj b₁ b₂ o₁ o₂ L₁ L₂ hne (hs _ _ h₁) (hs _ _ h₂)⟩

end Go.Ab
