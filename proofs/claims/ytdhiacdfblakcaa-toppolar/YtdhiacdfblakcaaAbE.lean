/- The operations that only compute: sound. -/
import Derived.Test.YtdhiacdfblakcaaAbD
namespace Go.Ab
open Go

theorem VRs.setR {μ : Mu} : ∀ {vs vs' c c' : List Value} (o : Nat), VRs μ c c' → VRs μ vs vs' → VRs μ (Ab.setR c o vs) (Ab.setR c' o vs')
  | [], _, c, c', o, hc, hv => by cases hv; exact hc
  | v :: vs, _, c, c', o, hc, hv => by
    cases hv with
    | cons h t => exact VRs.setR (o + 1) (hc.set o h) t

theorem foldl_setR (off : Nat) : ∀ (vs : List Value) (j : Nat) (cs : Array Value),
    ((vs.zipIdx j).foldl (fun cs (x : Value × Nat) => cs.setIfInBounds (off + x.2) x.1) cs).toList = setR cs.toList (off + j) vs
  | [], _, _ => rfl
  | v :: vs, j, cs => by
    simp only [List.zipIdx_cons, List.foldl_cons, setR]
    rw [foldl_setR off vs (j + 1)]
    simp [Nat.add_assoc]

theorem fill_setR (off : Nat) (v : Value) (cells : Array Value) :
    (v.cells.zipIdx.foldl (fun cs x => cs.setIfInBounds (off + x.2) x.1) cells).toList = setR cells.toList off v.cells.toList := by
  rw [← Array.foldl_toList]
  have := foldl_setR off v.cells.toList 0 cells
  simpa using this

/-- The model's 'fill' and the small machine's. -/
theorem s_fill {μ : Mu} (place : Nat → Option (Nat × Nat)) : ∀ (ps : List (Nat × Nat × Value)) (qs : List (Nat × Value)) (c r : List Value) (c' : Array Value),
    afill c ps = some r → VRs μ c c'.toList → List.length ps = List.length qs →
    (∀ (i : Nat) (p : Nat × Nat × Value) (q : Nat × Value), ps[i]? = some p → qs[i]? = some q → place q.1 = some (p.1, p.2.1) ∧ VR μ p.2.2 q.2) →
    ∃ r', Instr.fill place c' qs = some r' ∧ VRs μ r r'.toList
  | [], [], c, r, c', h, hc, _, _ => by cases h; exact ⟨c', rfl, hc⟩
  | [], _ :: _, _, _, _, _, _, hl, _ => by simp at hl
  | _ :: _, [], _, _, _, _, _, hl, _ => by simp at hl
  | (off, n, v) :: ps, (i, v') :: qs, c, r, c', h, hc, hl, hp => by
    simp only [afill] at h
    split at h
    · rename_i hcond
      obtain ⟨h1, h2⟩ := hcond
      have h0 := hp 0 _ _ rfl rfl
      obtain ⟨hpl, hv⟩ := h0
      have hvc := VRs.cells hv
      have hlen := hvc.length
      have hclen := hc.length
      have hset := hc.setR off hvc
      obtain ⟨r', e1, e2⟩ := s_fill place ps qs (setR c off v.cells.toList) r
        (v'.cells.zipIdx.foldl (fun cs x => cs.setIfInBounds (off + x.2) x.1) c') h (by rw [fill_setR]; exact hset) (by simpa using hl)
        (fun i p q a b => hp (i + 1) p q (by simpa using a) (by simpa using b))
      refine ⟨r', ?_, e2⟩
      simp only [Instr.fill]
      simp only at hpl
      rw [hpl]
      simp only
      rw [if_neg]
      · exact e1
      · simp only [Array.length_toList] at hlen hclen h1
        simp
        omega
    · cases h

section
variable {P : Program} {w : World} {μ : Mu} {nt : Nat} {t : Env} {a : Act}

theorem EnvR.evs (h : EnvR μ nt t a) : ∀ {l : List Operand}, okL nt l = true → VRs μ (l.map (Ab.ev t)) (l.map a.eval)
  | [], _ => .nil
  | x :: l, hl => by
    simp only [okL, List.all_cons, Bool.and_eq_true] at hl
    exact .cons (h.ev hl.1) (EnvR.evs h hl.2)

theorem okL_cons {x : Operand} {l : List Operand} (h : okL nt (x :: l) = true) : okS nt x = true ∧ okL nt l = true := by
  simpa [okL] using h

theorem run_equal_of {ty : TypeId} {x y : Value} {b : Bool} (h : ∀ d, (Op.equalIn (d + 1) ty x y).run P w = .ok b w) : (Op.equal ty x y).run P w = .ok b w := h 9999

theorem run_cmp_of {ty : TypeId} {x y : Value} {b : Bool} (neg : Bool) (h : ∀ d, (Op.equalIn (d + 1) ty x y).run P w = .ok b w)
    (h1 : binOp .eql ty x y = (do pure (.bool (← Op.equal ty x y)))) (h2 : binOp .neq ty x y = (do pure (.bool (!(← Op.equal ty x y))))) :
    (binOp (if neg then .neq else .eql) ty x y).run P w = .ok (.bool (b != neg)) w := by
  cases neg
  · simp only [Bool.false_eq_true, if_false, h1, Sem.run_bind, run_equal_of h, Result.andThen_ok, Sem.run_pure, Bool.bne_false]
  · simp only [if_true, h2, Sem.run_bind, run_equal_of h, Result.andThen_ok, Sem.run_pure, Bool.bne_true]

theorem s_isnil {k : Nat} {neg b : Bool} {x x' : Value} {ty : TypeId} (ox oy : Operand) (hu : nilKind P ty oy = some k) (hx : VR μ x x') (h : anil k x = some b) :
    (do eqGuard (if neg then .neq else .eql) ty ox oy x' (a.eval oy); binOp (if neg then .neq else .eql) ty x' (a.eval oy) : Sem Value).run P w = .ok (.bool (b != neg)) w := by
  have hg : ∀ {y : Value}, (∀ c, x' ≠ .agg c) → x' ≠ .nilIface → (eqGuard (if neg then .neq else .eql) ty ox oy x' y).run P w = .ok () w := by
    intro y h1 h2
    cases neg <;> cases x' <;> first | rfl | exact absurd rfl (h1 _) | exact absurd rfl h2
  unfold nilKind at hu
  split at hu
  · split at hu
    · rename_i hty
      cases hu
      unfold anil at h
      split at h <;> (try (exfalso; omega)) <;> cases h
      simp only [Sem.run_bind, Act.eval]
      cases hx <;> (rw [hg (by simp) (by simp)]; refine run_cmp_of neg (fun d => ?_) rfl rfl; simp [Op.equalIn, run_underlying hty])
    · cases hu
  · split at hu
    · rename_i hty
      cases hu
      unfold anil at h
      split at h <;> (try (exfalso; omega)) <;> cases h
      simp only [Sem.run_bind, Act.eval]
      cases hx <;> (rw [hg (by simp) (by simp)]; refine run_cmp_of neg (fun d => ?_) rfl rfl; simp [Op.equalIn, run_underlying hty])
    · cases hu
  · split at hu
    · rename_i hty
      cases hu
      unfold anil at h
      split at h <;> (try (exfalso; omega)) <;> cases h
      simp only [Sem.run_bind, Act.eval]
      cases hx <;> (rw [hg (by simp) (by simp)]; refine run_cmp_of neg (fun d => ?_) rfl rfl; simp [Op.equalIn, run_underlying hty])
    · cases hu
  · split at hu
    · rename_i hty
      cases hu
      unfold anil at h
      split at h <;> (try (exfalso; omega)) <;> cases h <;> (simp only [Sem.run_bind, Act.eval]) <;>
        (cases hx; (rw [hg (by simp) (by simp)]; refine run_cmp_of neg (fun d => ?_) rfl rfl; simp [Op.equalIn, run_underlying hty]))
    · cases hu
  · cases hu

theorem s_mapM (fs : List Field) (hf : fs.all (fun f => (szOf P f.type).isSome) = true) :
    (fs.mapM fun f => do pure (f.offset, ← sizeOf f.type) : Sem (List (Nat × Nat))).run P w = .ok (fs.map fun f => (f.offset, (szOf P f.type).getD 0)) w := by
  induction fs with
  | nil => simp
  | cons f fs ih =>
    simp only [List.all_cons, Bool.and_eq_true] at hf
    obtain ⟨n, hn⟩ := Option.isSome_iff_exists.1 hf.1
    simp only [List.mapM_cons, Sem.run_bind, run_sizeOf' hn, Result.andThen_ok, Sem.run_pure, ih hf.2, List.map_cons, hn, Option.getD_some]

theorem s_mapM' (fs : Array Field) (hf : fs.all (fun f => (szOf P f.type).isSome) = true) :
    (fs.mapM fun f => do pure (f.offset, ← sizeOf f.type) : Sem (Array (Nat × Nat))).run P w = .ok (fs.map fun f => (f.offset, (szOf P f.type).getD 0)) w := by
  rw [Array.mapM_eq_mapM_toList]
  simp only [Sem.run_map]
  rw [s_mapM fs.toList (by simpa using hf)]
  simp only [Result.andThen_ok]
  congr 1
  apply Array.toList_inj.1
  simp

theorem compParts_get {fs : Array Field} : ∀ {l : List (Nat × Operand)} {r : List (Nat × Nat × Operand)}, compParts P fs l = some r →
    r.length = l.length ∧ ∀ (i : Nat) (p : Nat × Nat × Operand) (q : Nat × Operand), r[i]? = some p → l[i]? = some q → p.2.2 = q.2 ∧ ∃ f, fs[q.1]? = some f ∧ f.offset = p.1 ∧ szOf P f.type = some p.2.1
  | [], r, h => by cases h; exact ⟨rfl, fun i p q h => by simp at h⟩
  | (k, x) :: l, r, h => by
    simp only [compParts] at h
    cases hf : fs[k]? with
    | none => simp [hf] at h
    | some f =>
      simp only [hf] at h
      cases hn : szOf P f.type with
      | none => simp [hn] at h
      | some n =>
        simp only [hn] at h
        cases hr : compParts P fs l with
        | none => simp [hr] at h
        | some r' =>
          simp only [hr, Option.some.injEq] at h
          subst h
          obtain ⟨h1, h2⟩ := compParts_get hr
          refine ⟨by simp [h1], fun i p q hp hq => ?_⟩
          cases i with
          | zero => simp at hp hq; subst hp; subst hq; exact ⟨rfl, f, hf, rfl, hn⟩
          | succ i => exact h2 i p q (by simpa using hp) (by simpa using hq)

end
end Go.Ab
