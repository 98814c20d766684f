/- From the model's operations to the small machine's ('comp'); the operations that only compute are sound. -/
import Derived.Test.YtdhiacdfblakcaaAbC
namespace Go.Ab
open Go

def isAggO (P : Program) (t : TypeId) : Option Bool :=
  match P.underlying t with
  | some (.struct _) | some (.array _ _) => some true
  | some _ => some false
  | none => none

def szOf (P : Program) (t : TypeId) : Option Nat := (P.info? t).map (·.size)
def bytesOf (P : Program) (t : TypeId) : Option Nat := (P.info? t).map (·.bytes)

def zeroOf (P : Program) (t : TypeId) : Option (List Value) :=
  match (P.info? t).bind (·.zero) with
  | some z => if z.cells.toList.all plain1 then some z.cells.toList else none
  | none => none

/-- Which kind of nil stands here: of a slice, a pointer, a map, a function. -/
def nilKind (P : Program) (ty : TypeId) : Operand → Option Nat
  | .const (.slice none 0 0) => match P.underlying ty with | some (.slice _) => some 0 | _ => none
  | .const (.pointer none) => match P.underlying ty with | some (.pointer _) => some 1 | _ => none
  | .const (.map none) => match P.underlying ty with | some (.map _ _) => some 2 | _ => none
  | .const .nilFunc => match P.underlying ty with | some (.func ..) => some 3 | _ => none
  | _ => none

def compParts (P : Program) (fs : Array Field) : List (Nat × Operand) → Option (List (Nat × Nat × Operand))
  | [] => some []
  | (i, x) :: r => match fs[i]? with
    | some f => match szOf P f.type, compParts P fs r with
      | some n, some l => some ((f.offset, n, x) :: l)
      | _, _ => none
    | none => none

def okL (nt : Nat) (l : List Operand) : Bool := l.all (okS nt)
def okO (nt : Nat) : Option Operand → Bool
  | none => true
  | some x => okS nt x

def comp (P : Program) (nt : Nat) : Op → Option AOp
  | .move x => if okS nt x then some (.mov x) else none
  | .assign x => if okS nt x then some (.mov x) else none
  | .pick c a b => if okL nt [c, a, b] then some (.pick c a b) else none
  | .binOp op ty x y _ =>
    if okL nt [x, y] then
      match op, nilKind P ty x, nilKind P ty y with
      | .eql, none, some k => some (.isnil k false x)
      | .neq, none, some k => some (.isnil k true x)
      | _, none, none => some (.bin op x y)
      | _, _, _ => none
    else none
  | .unOp op _ x => if okS nt x then some (.un op x) else none
  | .convert src dst x =>
    if okS nt x then
      match P.underlying src, P.underlying dst with
      | some (.int _), some (.int k) => some (.conv k x)
      | _, _ => none
    else none
  | .nilCheck x => if okS nt x then some (.chk x) else none
  | .makeFunc (.func f) first captured => if okL nt (first.toList ++ captured.toList) then some (.fn f first.toList captured.toList) else none
  | .extract x i => if okS nt x then some (.ext x i) else none
  | .fieldAddr s x f =>
    if okS nt x then
      match P.underlying s with
      | some (.struct fs) => match fs[f]? with
        | some fd => match szOf P fd.type with
          | some (_ + 1) => some (.faddr x fd.offset)
          | _ => none
        | none => none
      | _ => none
    else none
  | .field s x f =>
    if okS nt x then
      match P.underlying s with
      | some (.struct fs) => match fs[f]? with
        | some fd => match szOf P fd.type, isAggO P fd.type with
          | some n, some g => some (.field x fd.offset n g)
          | _, _ => none
        | none => none
      | _ => none
    else none
  | .indexAddr t x i =>
    if okL nt [x, i] then
      match P.underlying t with
      | some (.slice e) => match szOf P e with | some n => some (.iaddr x i n) | none => none
      | some (.array n e) => match szOf P e with | some z => some (.iaddrA x i n z) | none => none
      | _ => none
    else none
  | .index t x i =>
    if okL nt [x, i] then
      match P.underlying t with
      | some .string => some (.idxS x i)
      | some (.array n e) => match szOf P e, isAggO P e with | some z, some g => some (.idxA x i n z g) | _, _ => none
      | _ => none
    else none
  | .slice t x lo hi mx =>
    if okS nt x && okO nt lo && okO nt hi && okO nt mx then
      match P.underlying t with
      | some (.slice e) => match szOf P e with | some (n + 1) => some (.slc x lo hi mx (n + 1)) | _ => none
      | some .string => match mx with | none => some (.slcS x lo hi) | some _ => none
      | _ => none
    else none
  | .build t parts =>
    if okL nt (parts.toList.map (·.2)) then
      match P.underlying t with
      | some (.struct fs) => match zeroOf P t, compParts P fs parts.toList with
        | some z, some l => if fs.all (fun f => (szOf P f.type).isSome) then some (.build z l) else none
        | _, _ => none
      | some (.array _ e) => match zeroOf P t, szOf P e with
        | some z, some n => some (.build z (parts.toList.map fun p => (p.1 * n, n, p.2)))
        | _, _ => none
      | _ => none
    else none
  | .load t x =>
    if okS nt x then
      match szOf P t, isAggO P t with
      | some n, some g => some (.load x n g)
      | _, _ => none
    else none
  | .store t x v =>
    if okL nt [x, v] then
      match szOf P t with
      | some n => some (.store x v n)
      | none => none
    else none
  | .alloc t => match zeroOf P t with | some z => some (.alloc z) | none => none
  | .box _ x => if okS nt x then some (.box x) else none
  | .makeSlice t n c =>
    if okL nt [n, c] then
      match P.underlying t with
      | some (.slice e) => match szOf P e, bytesOf P e, zeroOf P e with
        | some (z + 1), some b, some l => if l.length = z + 1 then some (.mkslice n c (z + 1) b l) else none
        | _, _, _ => none
      | _ => none
    else none
  | .buildSlice t n parts =>
    if okL nt (parts.toList.map (·.2)) then
      match P.underlying t with
      | some (.slice e) => match szOf P e, zeroOf P e with
        | some (z + 1), some l => if l.length = z + 1 ∧ n * (z + 1) ≤ 2 ^ 24 then some (.bslice n (z + 1) l (parts.toList.map fun p => (p.1 * (z + 1), z + 1, p.2))) else none
        | _, _ => none
      | _ => none
    else none
  | .call c =>
    match c.callee, c.args.toList, c.argTypes.toList with
    | .value f, args, _ => if okL nt (f :: args) then some (.call f args) else none
    | .builtin .len, [x], [t] =>
      if okS nt x then
        match P.underlying t with
        | some (.slice _) => some (.len x)
        | some .string => some (.lenS x)
        | some (.array n _) => some (.mov (.const (.int .i64 n)))
        | _ => none
      else none
    | .builtin .max, [x, y], _ => if okL nt [x, y] then some (.mm true x y) else none
    | .builtin .min, [x, y], _ => if okL nt [x, y] then some (.mm false x y) else none
    | .builtin .append, [x, y], [t, u] =>
      if okL nt [x, y] then
        match P.underlying t with
        | some (.slice e) => match szOf P e, bytesOf P e, zeroOf P e with
          | some (z + 1), some b, some l => if l.length = z + 1 ∧ t = u then some (.app x y (z + 1) b) else none
          | _, _, _ => none
        | _ => none
      else none
    | .builtin .copy, [x, y], [t, u] =>
      if okL nt [x, y] then
        match P.underlying t, P.underlying u with
        | some (.slice e), some (.slice _) => match szOf P e with
          | some (z + 1) => some (.copy x y (z + 1))
          | _ => none
        | _, _ => none
      else none
    | _, _, _ => none
  | _ => none

section
variable {P : Program} {w : World} {μ : Mu}

theorem run_typeInfo' {t : TypeId} {i : TypeInfo} (h : P.info? t = some i) : (typeInfo t).run P w = .ok i w := by simp [typeInfo, h]

theorem run_sizeOf' {t : TypeId} {n : Nat} (h : szOf P t = some n) : (sizeOf t).run P w = .ok n w := by
  unfold szOf at h
  cases hi : P.info? t with
  | none => rw [hi] at h; cases h
  | some i => rw [hi] at h; cases h; simp [sizeOf, run_typeInfo' hi]

theorem run_isAgg' {t : TypeId} {g : Bool} (h : isAggO P t = some g) : (isAgg t).run P w = .ok g w := by
  unfold isAggO at h
  cases hu : P.underlying t with
  | none => rw [hu] at h; cases h
  | some d =>
    rw [hu] at h
    cases d <;> cases h <;> simp [isAgg, run_underlying hu]

theorem run_zeroValue' {t : TypeId} {z : List Value} (h : zeroOf P t = some z) : ∃ v, (zeroValue t).run P w = .ok v w ∧ v.cells.toList = z ∧ z.all plain1 = true := by
  unfold zeroOf at h
  cases hi : P.info? t with
  | none => rw [hi] at h; cases h
  | some i =>
    rw [hi] at h
    cases hz : i.zero with
    | none => simp [hz] at h
    | some v =>
      simp only [Option.bind_some, hz] at h
      split at h
      · cases h
        exact ⟨v, by simp [zeroValue, run_typeInfo' hi, hz], rfl, by assumption⟩
      · cases h

theorem s_part {t : TypeId} {l l' : List Value} {off n : Nat} {g : Bool} {v : Value} (hn : szOf P t = some n) (hg : isAggO P t = some g) (h : apart l off n g = some v) (hl : VRs μ l l') :
    ∃ v', (part t l'.toArray off).run P w = .ok v' w ∧ VR μ v v' := by
  unfold apart at h
  cases g with
  | true =>
    simp only [if_true] at h
    split at h
    · cases h
      refine ⟨.agg (l'.toArray.extract off (off + n)), by simp [part, run_isAgg' hg, run_sizeOf' hn], .agg ?_⟩
      have := (hl.drop off).take n
      simpa [List.extract_eq_take_drop] using this
    · cases h
  | false =>
    simp only [Bool.false_eq_true, if_false] at h
    obtain ⟨v', h1, h2⟩ := hl.get h
    exact ⟨v', by simp [part, run_isAgg' hg, h1], h2⟩

theorem s_bound {d top : Nat} {x x' : Option Value} {n : Nat} (h : abound d top x = some n) (hx : ∀ v, x = some v → ∃ v', x' = some v' ∧ VR μ v v') (hn : x = none → x' = none) :
    (x = none ∧ x' = none ∧ n = d) ∨ ∃ k i, x = some (.int k i) ∧ x' = some (.int k i) ∧ 0 ≤ i ∧ i ≤ (top : Int) ∧ n = i.toNat := by
  unfold abound at h
  split at h
  · cases h; exact .inl ⟨rfl, hn rfl, rfl⟩
  · split at h
    · rename_i k i hr
      cases h
      obtain ⟨v', rfl, hv⟩ := hx _ rfl
      cases hv
      exact .inr ⟨_, _, rfl, rfl, hr.1, hr.2, rfl⟩
    · cases h
  · cases h

theorem run_sliceBound {k : IntKind} {i : Int} {y : Nat} {c : BoundsCode} (h0 : 0 ≤ i) (h1 : i ≤ (y : Int)) : (Instr.sliceBound (.int k i) y c).run P w = .ok i.toNat w := by
  simp [Instr.sliceBound, asIntOf, h0, h1]

end

/-- Two lists of bounds alike. -/
structure OptR (μ : Mu) (x x' : Option Value) : Prop where
  some_ : ∀ v, x = some v → ∃ v', x' = some v' ∧ VR μ v v'
  none_ : x = none → x' = none

theorem EnvR.opt {μ : Mu} {nt : Nat} {t : Env} {a : Act} (h : EnvR μ nt t a) {x : Option Operand} (hx : okO nt x = true) : OptR μ (x.map (Ab.ev t)) (x.map a.eval) := by
  cases x with
  | none => exact ⟨(fun v e => by cases e), fun _ => rfl⟩
  | some x => exact ⟨fun v e => by cases e; exact ⟨_, rfl, h.ev hx⟩, fun e => by cases e⟩

section
variable {P : Program} {w : World} {μ : Mu}

/-- The bounds of a slice expression: the true capacity may be greater. -/
theorem s_bounds {isS : Bool} {len cap cap' l h m : Nat} {lo hi mx lo' hi' mx' : Option Value} (hc : cap ≤ cap') (hb : abounds len cap lo hi mx = some (l, h, m))
    (h1 : OptR μ lo lo') (h2 : OptR μ hi hi') (h3 : OptR μ mx mx') :
    ∃ m', (Instr.sliceBounds isS len cap' lo' hi' mx').run P w = .ok (l, h, m') w ∧ l ≤ h ∧ (h ≤ m ∨ (hi = none ∧ h = len)) ∧ m ≤ cap ∧ ((mx = none ∧ m = cap ∧ m' = cap') ∨ (mx ≠ none ∧ m' = m)) := by
  unfold abounds at hb
  cases em : abound cap cap mx with
  | none => simp [em] at hb
  | some m0 =>
    simp only [em] at hb
    have im := s_bound em h3.some_ h3.none_
    rcases im with ⟨rfl, rfl, rfl⟩ | ⟨k, i, rfl, rfl, i0, i1, rfl⟩
    · -- no max
      simp only [Option.isSome_none, Bool.and_false, Bool.false_eq_true, if_false] at hb
      cases eh : abound len m0 hi with
      | none => simp [eh] at hb
      | some h0 =>
        simp only [eh] at hb
        cases el : abound 0 h0 lo with
        | none => simp [el] at hb
        | some l0 =>
          simp only [el, Option.some.injEq, Prod.mk.injEq] at hb
          obtain ⟨rfl, rfl, rfl⟩ := hb
          have ih := s_bound eh h2.some_ h2.none_
          have il := s_bound el h1.some_ h1.none_
          refine ⟨cap', ?_, ?_, ?_, Nat.le_refl _, .inl ⟨rfl, rfl, rfl⟩⟩
          · rcases ih with ⟨rfl, rfl, rfl⟩ | ⟨k, i, rfl, rfl, i0, i1, rfl⟩ <;> rcases il with ⟨rfl, rfl, rfl⟩ | ⟨k', j, rfl, rfl, j0, j1, rfl⟩
            · simp [Instr.sliceBounds]
            · simp [Instr.sliceBounds, run_sliceBound j0 j1]
            · simp [Instr.sliceBounds, run_sliceBound i0 (show i ≤ (cap' : Int) by omega)]
            · simp [Instr.sliceBounds, run_sliceBound i0 (show i ≤ (cap' : Int) by omega), run_sliceBound j0 j1]
          · rcases il with ⟨_, _, rfl⟩ | ⟨_, j, _, _, j0, j1, rfl⟩ <;> omega
          · rcases ih with ⟨rfl, _, rfl⟩ | ⟨_, i, _, _, i0, i1, rfl⟩
            · exact .inr ⟨rfl, rfl⟩
            · exact .inl (by omega)
    · cases hi with
      | none => simp at hb
      | some hv =>
        simp only [Option.isNone_some, Bool.false_and, Bool.false_eq_true, if_false] at hb
        cases eh : abound len i.toNat (some hv) with
        | none => simp [eh] at hb
        | some h0 =>
          simp only [eh] at hb
          cases el : abound 0 h0 lo with
          | none => simp [el] at hb
          | some l0 =>
            simp only [el, Option.some.injEq, Prod.mk.injEq] at hb
            obtain ⟨rfl, rfl, rfl⟩ := hb
            have ih := s_bound eh h2.some_ h2.none_
            have il := s_bound el h1.some_ h1.none_
            rcases ih with ⟨e, _⟩ | ⟨k2, i2, e, rfl, i20, i21, rfl⟩
            · cases e
            · cases e
              refine ⟨i.toNat, ?_, ?_, .inl (by omega), by omega, .inr ⟨by simp, rfl⟩⟩
              · rcases il with ⟨rfl, rfl, rfl⟩ | ⟨k', j, rfl, rfl, j0, j1, rfl⟩
                · simp [Instr.sliceBounds, run_sliceBound i0 (show i ≤ (cap' : Int) by omega), run_sliceBound i20 i21]
                · simp [Instr.sliceBounds, run_sliceBound i0 (show i ≤ (cap' : Int) by omega), run_sliceBound i20 i21, run_sliceBound j0 j1]
              · rcases il with ⟨_, _, rfl⟩ | ⟨_, j, _, _, j0, j1, rfl⟩ <;> omega

end
end Go.Ab
