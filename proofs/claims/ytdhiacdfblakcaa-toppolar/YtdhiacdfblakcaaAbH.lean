/- Stores, append, copy. -/
import Derived.Test.YtdhiacdfblakcaaAbG
import Derived.Laws.Append
namespace Go.Ab
open Go

/-- The cells that a slice shows. -/
def seen (s : St) (esz : Nat) : Value → Option (Nat × List Value)
  | .slice none _ _ => some (0, [])
  | .slice (some ⟨b, o, none⟩) n _ => if n = 0 then some (0, []) else match (s.H b).bind readable with
    | some c => if o + n * esz ≤ c.length then some (n, (c.drop o).take (n * esz)) else none
    | none => none
  | _ => none

def isSlice : Value → Bool
  | .slice .. => true
  | _ => false

/-- 'append(x, y...)': to what; the old block is given up where it may be written. -/
def aapp (s : St) (esz bytes : Nat) (x y : Value) (K : Value → St → Prop) : Prop :=
  match seen s esz y with
  | none => False
  | some (n, src) =>
    if n = 0 then isSlice x = true ∧ K x s
    else match x with
    | .slice none _ _ => n * bytes ≤ 140737488355328 ∧ n ≤ 9223372036854775807 ∧ K (.slice (some ⟨s.n, 0, none⟩) n n) (s.new (.cells src esz false))
    | .slice (some ⟨b, o, none⟩) len cap => match s.H b with
      | some (.cells c e ex) =>
        e = esz ∧ o + cap * esz ≤ c.length ∧ len ≤ cap ∧ src.all (·.oneCell') = true ∧
        if len + n ≤ cap then K (.slice (some ⟨b, o, none⟩) (len + n) cap) (s.put b (.cells (setR c (o + len * esz) src) e ex))
        else (len + n) * bytes ≤ 140737488355328 ∧ len + n ≤ 9223372036854775807 ∧
          (if ex = true ∨ o + cap * esz < c.length then K (.slice (some ⟨s.n, 0, none⟩) (len + n) (len + n)) (s.new (.cells ((c.drop o).take (len * esz) ++ src) esz false))
           else K (.slice (some ⟨s.n, 0, none⟩) (len + n) (len + n)) ((s.kill b).new (.cells ((c.drop o).take (len * esz) ++ src) esz false)))
      | some (.ro c e) => e = esz ∧ o + cap * esz ≤ c.length ∧ len ≤ cap ∧ cap < len + n ∧ (len + n) * bytes ≤ 140737488355328 ∧ len + n ≤ 9223372036854775807 ∧
          K (.slice (some ⟨s.n, 0, none⟩) (len + n) (len + n)) (s.new (.cells ((c.drop o).take (len * esz) ++ src) esz false))
      | _ => False
    | _ => False

def acopy (s : St) (esz : Nat) (x y : Value) (K : Value → St → Prop) : Prop :=
  match seen s esz y, x with
  | some (_, _), .slice none _ _ => K (.int .i64 0) s
  | some (n, src), .slice (some ⟨b, o, none⟩) len _ => match s.H b with
    | some (.cells c e ex) => o + len * esz ≤ c.length ∧ src.all (·.oneCell') = true ∧
        K (.int .i64 (min n len : Nat)) (s.put b (.cells (setR c o (src.take (min n len * esz))) e ex))
    | _ => False
  | _, _ => False

def astore (s : St) (size : Nat) (x v : Value) (K : Value → St → Prop) : Prop :=
  match x with
  | .pointer (some ⟨b, o, none⟩) => match s.H b with
    | some (.cells c e ex) => v.cells.toList.length = size ∧ v.cells.toList.all (·.oneCell') = true ∧ o + size ≤ c.length ∧ K undefV (s.put b (.cells (setR c o v.cells.toList) e ex))
    | _ => False
  | _ => False

/-- How a walk goes on behind an operation. -/
def Goes (μ : Mu) (s : St) (w : World) (a : Act) (dst : Option Tmp) (K : Value → St → Prop) (next : Act → World → Prop) : Prop :=
  ∀ μ' s' w' v v', Step μ s w μ' s' w' → Rel μ' s' w' → VR μ' v v' → K v s' → next (a.put dst v') w'

theorem St.kill_self (s : St) (b : Nat) : (s.kill b).H b = none := by simp [St.kill]
theorem St.kill_ne (s : St) {b i : Nat} (h : i ≠ b) : (s.kill b).H i = s.H i := by simp [St.kill, h]

theorem St.new_self (s : St) (o : AObj) : (s.new o).H s.n = some o := by simp [St.new]
theorem St.new_ne (s : St) {i : Nat} (o : AObj) (h : i ≠ s.n) : (s.new o).H i = s.H i := by simp [St.new, h]
theorem St.new_n (s : St) (o : AObj) : (s.new o).n = s.n + 1 := rfl
theorem St.kill_n (s : St) (b : Nat) : (s.kill b).n = s.n := rfl

theorem setR_take_drop : ∀ (vs : List Value) (l : List Value) (off m : Nat), off + m + vs.length ≤ l.length →
    ((setR l (off + m) vs).drop off).take (m + vs.length) = (l.drop off).take m ++ vs
  | [], l, off, m, _ => by simp [setR]
  | v :: vs, l, off, m, h => by
    simp only [List.length_cons] at h
    have ih := setR_take_drop vs (l.set (off + m) v) off (m + 1) (by simp; omega)
    simp only [setR, List.length_cons]
    have e1 : off + (m + 1) = off + m + 1 := by omega
    have e2 : m + 1 + vs.length = m + (vs.length + 1) := by omega
    rw [e1, e2] at ih
    rw [ih]
    have : ((l.set (off + m) v).drop off).take (m + 1) = (l.drop off).take m ++ [v] := by
      rw [cells_set (by omega), List.take_add_one]
      rw [List.set_append_right _ _ (by simp; omega)]
      have e3 : ((l.drop off).take m).length = m := by simp; omega
      rw [e3]
      have e4 : (l.drop off)[m]? = some l[off + m] := by rw [List.getElem?_drop, List.getElem?_eq_getElem]
      rw [e4]
      simp
    rw [this]
    simp

section
variable {P : Program} {w : World} {μ : Mu} {nt : Nat} {t : Env} {a : Act} {s : St}

theorem Rel.kill (h : Rel μ s w) (b : Nat) : Rel μ (s.kill b) w ∧ Step μ s w μ (s.kill b) w := by
  have key : ∀ i o, (s.kill b).H i = some o → s.H i = some o := by
    intro i o hi
    by_cases e : i = b
    · subst e; rw [St.kill_self] at hi; cases hi
    · rwa [St.kill_ne _ e] at hi
  refine ⟨⟨h.lt, fun i o hi => h.obj i o (key i o hi), fun b₁ b₂ o₁ o₂ L₁ L₂ hne h₁ h₂ => h.disj b₁ b₂ o₁ o₂ L₁ L₂ hne (key _ _ h₁) (key _ _ h₂)⟩,
    ⟨Mu.le_refl μ, Nat.le_refl _, rfl, rfl, rfl, Nat.le_refl _, fun _ _ _ => rfl, ?_, ?_, fun i c e hi => key _ _ hi, fun _ _ h => .inl h⟩⟩
  · rintro k _ ⟨i, o, L, hi, ho, hm, e⟩
    exact ⟨i, o, L, key _ _ hi, ho, hm, e⟩
  · intro i _ hi
    by_cases e : i = b
    · subst e; exact St.kill_self _ _
    · rw [St.kill_ne _ e]; exact hi

/-- A block of the call's own gets another number: its region begins elsewhere, and its contents are others. -/
theorem Rel.renumber {b : Nat} {o : AObj} {L L' : Loc} {w' : World} {o' : AObj} (h : Rel μ s w) (hb : s.H b = some o) (hown : o.own = true) (hL : μ b = some L) (hL' : L'.block = L.block)
    (hown' : o'.own = true) (hsz : w'.heap.size = w.heap.size) (hw : ∀ k, k ≠ L.block → w'.heap[k]? = w.heap[k]?) (h1 : w'.os = w.os) (h2 : w'.tape = w.tape) (h3 : w'.output = w.output)
    (ho : ObjR (μ.put s.n L') w' s.n o') :
    Rel (μ.put s.n L') ((s.kill b).new o') w' ∧ Step μ s w (μ.put s.n L') ((s.kill b).new o') w' := by
  have hfr := h.fresh (Nat.le_refl s.n)
  have hle : μ.le (μ.put s.n L') := Mu.le_put hfr
  have hbn : b ≠ s.n := by have := h.lt b L hL; omega
  have key : ∀ i oi, ((s.kill b).new o').H i = some oi → (i = s.n ∧ oi = o') ∨ (i ≠ s.n ∧ i ≠ b ∧ s.H i = some oi) := by
    intro i oi hi
    by_cases e : i = s.n
    · have h0 := St.new_self (s.kill b) o'
      rw [St.kill_n, ← e, hi] at h0
      cases h0; exact .inl ⟨e, rfl⟩
    · rw [St.new_ne (s.kill b) o' e] at hi
      by_cases eb : i = b
      · subst eb; rw [St.kill_self] at hi; cases hi
      · rw [St.kill_ne _ eb] at hi; exact .inr ⟨e, eb, hi⟩
  have hmu : ∀ i, i ≠ s.n → (μ.put s.n L') i = μ i := fun i e => by simp [Mu.put, e]
  have hms : (μ.put s.n L') s.n = some L' := by simp [Mu.put]
  refine ⟨⟨?_, ?_, ?_⟩, ⟨hle, by simp [St.new, St.kill], h1, h2, h3, by omega, ?_, ?_, ?_, ?_, ?_⟩⟩
  · intro i L2 hi
    by_cases e : i = s.n
    · simp [St.new, St.kill]; omega
    · rw [hmu i e] at hi; have := h.lt i L2 hi; simp [St.new, St.kill]; omega
  · intro i oi hi
    rcases key i oi hi with ⟨rfl, rfl⟩ | ⟨e, eb, hi'⟩
    · exact ho
    · refine (h.obj i oi hi').mono hle fun L2 hL2 => hw _ ?_
      exact (h.disj b i o oi L L2 (fun e => eb e.symm) hb hi' hown hL hL2).symm
  · intro b₁ b₂ o₁ o₂ L₁ L₂ hne h₁ h₂ hown' m₁ m₂
    rcases key _ _ h₁ with ⟨rfl, rfl⟩ | ⟨e₁, eb₁, h₁'⟩
    · rcases key _ _ h₂ with ⟨rfl, rfl⟩ | ⟨e₂, eb₂, h₂'⟩
      · exact absurd rfl hne
      · rw [hms] at m₁; cases m₁
        rw [hmu _ e₂] at m₂
        rw [hL']
        exact h.disj b b₂ o o₂ L L₂ (fun e => eb₂ e.symm) hb h₂' hown hL m₂
    · rw [hmu _ e₁] at m₁
      rcases key _ _ h₂ with ⟨rfl, rfl⟩ | ⟨e₂, eb₂, h₂'⟩
      · rw [hms] at m₂; cases m₂
        rw [hL']
        exact (h.disj b b₁ o o₁ L L₁ (fun e => eb₁ e.symm) hb h₁' hown hL m₁).symm
      · rw [hmu _ e₂] at m₂
        exact h.disj b₁ b₂ o₁ o₂ L₁ L₂ hne h₁' h₂' hown' m₁ m₂
  · intro k hk hno
    exact hw k fun e => hno ⟨b, o, L, hb, hown, hL, e.symm⟩
  · rintro k hk ⟨i, oi, L2, hi, hoi, hm, e⟩
    rcases key _ _ hi with ⟨rfl, rfl⟩ | ⟨e₁, eb₁, h₁'⟩
    · rw [hms] at hm; cases hm
      exact ⟨b, o, L, hb, hown, hL, hL'.symm.trans e⟩
    · rw [hmu _ e₁] at hm; exact ⟨i, oi, L2, h₁', hoi, hm, e⟩
  · intro i hi hd
    rw [St.new_ne (s.kill b) o' (by rw [St.kill_n]; omega)]
    by_cases e : i = b
    · subst e; exact St.kill_self _ _
    · rw [St.kill_ne _ e]; exact hd
  · intro i c e hi
    rcases key _ _ hi with ⟨rfl, rfl⟩ | ⟨_, _, h₁'⟩
    · cases hown'
    · exact h₁'
  · intro i L2 hi
    by_cases e : i = s.n
    · right; omega
    · rw [hmu _ e] at hi; exact .inl hi

/-- Several cells of a block are written, one by one. -/
theorem run_storeCells_raw {k A : Nat} : ∀ (vs : List Value) (i : Nat) (w : World) (cs : Array Value) (e : TypeId), w.heap[k]? = some (.cells cs e (0, 0)) → A + i + vs.length ≤ cs.size →
    vs.all (·.oneCell') = true →
    ∃ w' cs', (storeCells ⟨k, A, none⟩ vs i).run P w = .ok () w' ∧ w'.heap[k]? = some (.cells cs' e (0, 0)) ∧ cs'.toList = setR cs.toList (A + i) vs ∧ w'.heap.size = w.heap.size ∧
      (∀ j, j ≠ k → w'.heap[j]? = w.heap[j]?) ∧ w'.os = w.os ∧ w'.tape = w.tape ∧ w'.output = w.output
  | [], i, w, cs, e, h, _, _ => ⟨w, cs, by simp [storeCells], h, rfl, rfl, fun _ _ => rfl, rfl, rfl, rfl⟩
  | v :: vs, i, w, cs, e, h, hl, h1 => by
    simp only [List.length_cons] at hl
    simp only [List.all_cons, Bool.and_eq_true] at h1
    have hs := heap_setCell_same (v := v) (a := ⟨k, A + i, none⟩) h rfl
    obtain ⟨w', cs', r1, r2, r3, r4, r5, r6, r7, r8⟩ := run_storeCells_raw (k := k) (A := A) vs (i + 1) (w.setCell ⟨k, A + i, none⟩ v) _ e hs (by simp; omega) h1.2
    refine ⟨w', cs', ?_, r2, ?_, ?_, ?_, r6, r7, r8⟩
    · simp only [storeCells, Sem.run_bind]
      rw [Addr.add_lit, run_store_at h (by omega) h1.1]
      exact r1
    · rw [r3]; simp [setR, Nat.add_assoc]
    · rw [r4]; simp [World.setCell]
    · intro j hj; rw [r5 j hj, heap_setCell_ne hj]

/-- What a slice shows stands in memory. -/
theorem Rel.seen {esz n : Nat} {y y' : Value} {src : List Value} (h : Rel μ s w) (hs : Ab.seen s esz y = some (n, src)) (hy : VR μ y y') (hn : n ≠ 0) :
    ∃ A c' src', y' = .slice (some A) n c' ∧ VRs μ src src' ∧ src.length = n * esz ∧ (∀ j u, src'[j]? = some u → w.cell? (A.add j) = some u) ∧
      ∃ b o L, y = .slice (some ⟨b, o, none⟩) n (match y with | .slice _ _ c => c | _ => 0) ∧ μ b = some L := by
  unfold Ab.seen at hs
  split at hs
  · cases hs; exact absurd rfl hn
  · rename_i b o n' cap
    split at hs
    · cases hs; exact absurd rfl hn
    split at hs
    · rename_i c hc
      split at hs <;> cases hs
      rename_i hle
      obtain ⟨b', o', L, A, cap', e1, hb, e2, hz, hsz, hl, hcc, hcc', hA⟩ := hy.slice_inv
      cases e1
      have hA' := hA.resolve_left (by omega)
      subst hA'
      cases hob : s.H b with
      | none => simp [hob] at hc
      | some ob =>
        simp only [hob, Option.bind_some] at hc
        obtain ⟨L', hL', hls, cs, e, fr, hw, hle2, hvs⟩ := h.reads hob hc
        rw [hb] at hL'; cases hL'
        refine ⟨_, _, ((cs.toList.drop (L.off + o)).take (n * esz)), e2, ?_, ?_, ?_, b, o, L, rfl, hb⟩
        · have := (hvs.drop o).take (n * esz)
          rwa [take_drop_sub (by omega)] at this
        · simp; omega
        · intro j u hj
          rw [Addr.add_lit, cell_at hw]
          have hjl : j < n * esz := by
            have := (List.getElem?_eq_some_iff.1 hj).1
            simp at this; omega
          rw [List.getElem?_take, if_pos hjl, List.getElem?_drop] at hj
          simpa using hj
    · cases hs
  · cases hs

theorem VRs.oneCells : ∀ {l l' : List Value}, VRs μ l l' → l.all (·.oneCell') = true → l'.all (·.oneCell') = true
  | [], _, h, _ => by cases h; rfl
  | v :: l, _, h, h1 => by
    cases h with
    | cons hv ht =>
      simp only [List.all_cons, Bool.and_eq_true] at h1 ⊢
      exact ⟨by rw [VR.oneCell hv]; exact h1.1, VRs.oneCells ht h1.2⟩

end
end Go.Ab
