/- Reads, writes, new rows: what they come to in the world, and in the abstract heap. -/
import Derived.Test.YtdhiacdfblakcaaAbA
import Derived.Laws.Entries
namespace Go.Ab
open Go

def setR : List Value → Nat → List Value → List Value
  | c, _, [] => c
  | c, o, v :: vs => setR (c.set o v) (o + 1) vs

theorem setR_length : ∀ (vs : List Value) (c : List Value) (o : Nat), (setR c o vs).length = c.length
  | [], _, _ => rfl
  | v :: vs, c, o => by simp [setR, setR_length vs]

theorem St.put_same {s : St} {b : Nat} {o : AObj} (h : s.H b = some o) : s.put b o = s := by
  cases s with
  | mk H n =>
    simp only [St.put, St.mk.injEq, and_true]
    funext i
    by_cases e : i = b
    · subst e; simp; exact h.symm
    · simp [e]

theorem St.put_put (s : St) (b : Nat) (o o' : AObj) : (s.put b o).put b o' = s.put b o' := by
  simp only [St.put, St.mk.injEq, and_true]
  funext i
  by_cases e : i = b <;> simp [e]

theorem St.put_self (s : St) (b : Nat) (o : AObj) : (s.put b o).H b = some o := by simp [St.put]
theorem St.put_ne (s : St) {b i : Nat} (o : AObj) (h : i ≠ b) : (s.put b o).H i = s.H i := by simp [St.put, h]
theorem St.put_n (s : St) (b : Nat) (o : AObj) : (s.put b o).n = s.n := rfl

theorem heap_setCell_same {w : World} {a : Addr} {v : Value} {cs : Array Value} {e : TypeId} {fr : Nat × Nat} (h : w.heap[a.block]? = some (.cells cs e fr)) (hs : a.spot = none) :
    (w.setCell a v).heap[a.block]? = some (.cells (cs.setIfInBounds a.off v) e fr) := by
  simp only [World.setCell, Array.getElem?_modify, if_true, h, Option.map_some, hs]; rfl

theorem heap_setCell_ne {w : World} {a : Addr} {v : Value} {k : Nat} (h : k ≠ a.block) : (w.setCell a v).heap[k]? = w.heap[k]? := by
  simp only [World.setCell, Array.getElem?_modify]
  rw [if_neg (by omega)]

theorem cells_set {l : List Value} {off n i : Nat} {v : Value} (h : i < n) : ((l.set (off + i) v).drop off).take n = ((l.drop off).take n).set i v := by
  apply List.ext_getElem?
  intro j
  simp only [List.getElem?_take, List.getElem?_drop, List.getElem?_set]
  by_cases hj : j < n
  · simp only [hj, if_true, List.length_take, List.length_drop]
    by_cases e : i = j
    · subst e
      simp only [if_true]
      by_cases hl : off + i < l.length
      · rw [if_pos hl, if_pos (by omega)]
      · rw [if_neg hl, if_neg (by omega)]
    · rw [if_neg (by omega), if_neg e]
  · simp only [hj, if_false]
    by_cases e : i = j
    · omega
    · rw [if_neg e]

section
variable {μ : Mu} {s : St} {w : World} {P : Program}

theorem Rel.cells {b : Nat} {c : List Value} {esz : Nat} {ex : Bool} (h : Rel μ s w) (hb : s.H b = some (.cells c esz ex)) :
    ∃ L, μ b = some L ∧ L.size = c.length ∧ L.esz = esz ∧ (ex = true → L.spare = 0) ∧
      ∃ cs e, w.heap[L.block]? = some (.cells cs e (0, 0)) ∧ L.off + L.size + L.spare * L.esz ≤ cs.size ∧ VRs μ c ((cs.toList.drop L.off).take c.length) := h.obj b _ hb

/-- One cell of an own block is written. -/
theorem Rel.store1 {b : Nat} {c : List Value} {esz : Nat} {ex : Bool} {o : Nat} {v v' : Value} {L : Loc} (h : Rel μ s w) (hb : s.H b = some (.cells c esz ex)) (hL : μ b = some L)
    (ho : o < c.length) (hv : VR μ v v') :
    Rel μ (s.put b (.cells (c.set o v) esz ex)) (w.setCell ⟨L.block, L.off + o, none⟩ v') ∧
      Step μ s w μ (s.put b (.cells (c.set o v) esz ex)) (w.setCell ⟨L.block, L.off + o, none⟩ v') := by
  obtain ⟨L', hL', h2, h3, h4, cs, e, h5, h6, h7⟩ := h.cells hb
  rw [hL] at hL'; cases hL'
  have hsame := heap_setCell_same (v := v') (a := ⟨L.block, L.off + o, none⟩) h5 rfl
  refine ⟨⟨h.lt, ?_, ?_⟩, ⟨Mu.le_refl μ, Nat.le_refl _, rfl, rfl, rfl, by simp [World.setCell], ?_, ?_, ?_, ?_, fun _ _ h => .inl h⟩⟩
  · intro b' o' hb'
    by_cases eb : b' = b
    · subst eb
      rw [St.put_self] at hb'; cases hb'
      refine ⟨L, hL, by simpa using h2, h3, h4, _, _, hsame, by simpa using h6, ?_⟩
      simp only [Array.toList_setIfInBounds, List.length_set]
      rw [cells_set ho]
      exact h7.set o hv
    · rw [St.put_ne _ _ eb] at hb'
      refine (h.obj b' o' hb').mono (Mu.le_refl _) fun L' hL' => heap_setCell_ne ?_
      exact (h.disj b b' _ _ L L' (fun e => eb e.symm) hb hb' rfl hL hL').symm
  · intro b₁ b₂ o₁ o₂ L₁ L₂ hne h₁ h₂ hown m₁ m₂
    have key : ∀ b' o', (s.put b (.cells (c.set o v) esz ex)).H b' = some o' → ∃ o'', s.H b' = some o'' ∧ o''.own = o'.own := by
      intro b' o' hb'
      by_cases eb : b' = b
      · subst eb; rw [St.put_self] at hb'; cases hb'; exact ⟨_, hb, rfl⟩
      · rw [St.put_ne _ _ eb] at hb'; exact ⟨o', hb', rfl⟩
    obtain ⟨o₁', k₁, j₁⟩ := key _ _ h₁
    obtain ⟨o₂', k₂, _⟩ := key _ _ h₂
    exact h.disj b₁ b₂ o₁' o₂' L₁ L₂ hne k₁ k₂ (j₁.trans hown) m₁ m₂
  · intro k hk hno
    exact heap_setCell_ne fun e => hno ⟨b, _, L, hb, rfl, hL, e.symm⟩
  · rintro k hk ⟨b', o', L', hb', hown, hm, e⟩
    by_cases eb : b' = b
    · subst eb; exact ⟨b', _, L', hb, rfl, hm, e⟩
    · rw [St.put_ne _ _ eb] at hb'; exact ⟨b', o', L', hb', hown, hm, e⟩
  · intro b' _ e
    have hne : b' ≠ b := fun eb => by subst eb; rw [hb] at e; cases e
    rw [St.put_ne _ _ hne]; exact e
  · intro b' c' e' hb'
    by_cases eb : b' = b
    · subst eb; rw [St.put_self] at hb'; cases hb'
    · rwa [St.put_ne _ _ eb] at hb'

theorem cell_at {w : World} {k off : Nat} {cs : Array Value} {e : TypeId} {fr : Nat × Nat} (h : w.heap[k]? = some (.cells cs e fr)) : w.cell? ⟨k, off, none⟩ = cs[off]? := by
  simp [World.cell?, h]

theorem frozen_at {w : World} {k off : Nat} {cs : Array Value} {e : TypeId} (h : w.heap[k]? = some (.cells cs e (0, 0))) : w.frozen? ⟨k, off, none⟩ = false := by
  simp [World.frozen?, h]

theorem run_store_at {k off : Nat} {cs : Array Value} {e : TypeId} {v : Value} (h : w.heap[k]? = some (.cells cs e (0, 0))) (ho : off < cs.size) (hv : v.oneCell' = true) :
    (store ⟨k, off, none⟩ v).run P w = .ok () (w.setCell ⟨k, off, none⟩ v) := by
  rw [run_store P w _ v .plain hv, cell_at h, Array.getElem?_eq_getElem ho]
  simp [frozen_at h]

theorem VR.oneCell {v v' : Value} (h : VR μ v v') : v'.oneCell' = v.oneCell' := by cases h <;> rfl

theorem run_storeCells_rel {b : Nat} {L : Loc} (hL : μ b = some L) (A : Nat) : ∀ (vs vs' : List Value) (i o : Nat) (s : St) (w : World) (c : List Value) (esz : Nat) (ex : Bool),
    Rel μ s w → s.H b = some (.cells c esz ex) → VRs μ vs vs' → vs.all (·.oneCell') = true → o + vs.length ≤ c.length → A + i = L.off + o →
    ∃ w', (storeCells ⟨L.block, A, none⟩ vs' i).run P w = .ok () w' ∧ Rel μ (s.put b (.cells (setR c o vs) esz ex)) w' ∧ Step μ s w μ (s.put b (.cells (setR c o vs) esz ex)) w'
  | [], vs', i, o, s, w, c, esz, ex, h, hb, hv, h1, hl, hA => by
    cases hv
    refine ⟨w, by simp [storeCells], ?_⟩
    simp only [setR]
    rw [St.put_same hb]
    exact ⟨h, Step.refl _ _ _⟩
  | v :: vs, _, i, o, s, w, c, esz, ex, h, hb, hv, h1, hl, hA => by
    cases hv with
    | cons hv ht =>
      rename_i v' l'
      simp only [List.all_cons, Bool.and_eq_true] at h1
      simp only [List.length_cons] at hl
      obtain ⟨L', hL', h2, h3, h4, cs, e, h5, h6, h7⟩ := h.cells hb
      rw [hL] at hL'; cases hL'
      obtain ⟨r1, st1⟩ := Rel.store1 (o := o) (v := v) (v' := v') h hb hL (by omega) hv
      have hb' := St.put_self s b (.cells (c.set o v) esz ex)
      obtain ⟨w', hrun, r2, st2⟩ := run_storeCells_rel hL A vs l' (i + 1) (o + 1) _ _ _ esz ex r1 hb' ht h1.2 (by simp; omega) (by omega)
      rw [St.put_put] at r2 st2
      refine ⟨w', ?_, r2, st1.trans st2⟩
      have hadd : (⟨L.block, A, none⟩ : Addr).add i = ⟨L.block, L.off + o, none⟩ := by rw [Addr.add_lit, hA]
      have hone : v'.oneCell' = true := by rw [VR.oneCell hv]; exact h1.1
      simp only [storeCells, Sem.run_bind]
      rw [hadd, run_store_at h5 (by omega) hone]
      exact hrun

theorem run_load_at {k off : Nat} {cs : Array Value} {e : TypeId} {fr : Nat × Nat} {v : Value} (h : w.heap[k]? = some (.cells cs e fr)) (ho : cs[off]? = some v) :
    (load ⟨k, off, none⟩).run P w = .ok v w := by
  rw [run_load, cell_at h, ho]

theorem run_loadCellsFrom_at {k off : Nat} {cs : Array Value} {e : TypeId} {fr : Nat × Nat} (h : w.heap[k]? = some (.cells cs e fr)) : ∀ (n i : Nat) (acc : Array Value), off + i + n ≤ cs.size →
    (loadCellsFrom ⟨k, off, none⟩ i n acc).run P w = .ok (acc ++ cs.extract (off + i) (off + i + n)) w
  | 0, i, acc, _ => by simp [loadCellsFrom, Array.extract_empty_of_stop_le_start]
  | n + 1, i, acc, hn => by
    have hlt : off + i < cs.size := by omega
    simp only [loadCellsFrom, Sem.run_bind]
    rw [Addr.add_lit, run_load_at h (Array.getElem?_eq_getElem hlt)]
    simp only [Result.andThen_ok]
    rw [run_loadCellsFrom_at h n (i + 1) _ (by omega)]
    congr 1
    apply Array.toList_inj.1
    simp only [Array.toList_append, Array.toList_push, Array.toList_extract, List.append_assoc]
    congr 1
    rw [List.extract_eq_take_drop, List.extract_eq_take_drop]
    have e1 : off + i + (n + 1) - (off + i) = n + 1 := by omega
    have e2 : off + (i + 1) + n - (off + (i + 1)) = n := by omega
    rw [e1, e2, List.drop_eq_getElem_cons (l := cs.toList) (i := off + i) (by simpa using hlt)]
    simp [Nat.add_assoc]

theorem run_loadCells_at {k off n : Nat} {cs : Array Value} {e : TypeId} {fr : Nat × Nat} (h : w.heap[k]? = some (.cells cs e fr)) (hn : off + n ≤ cs.size) :
    (loadCells ⟨k, off, none⟩ n).run P w = .ok (cs.extract off (off + n)) w := by
  have := run_loadCellsFrom_at (P := P) h n 0 #[] (by omega)
  simpa [loadCells] using this

/-- What an abstract block reads. -/
def readable : AObj → Option (List Value)
  | .cells c _ _ => some c
  | .ro c _ => some c
  | _ => none

theorem Rel.reads {b : Nat} {ob : AObj} {c : List Value} (h : Rel μ s w) (hb : s.H b = some ob) (hr : readable ob = some c) :
    ∃ L, μ b = some L ∧ L.size = c.length ∧ ∃ cs e fr, w.heap[L.block]? = some (.cells cs e fr) ∧ L.off + L.size ≤ cs.size ∧ VRs μ c ((cs.toList.drop L.off).take c.length) := by
  cases ob <;> simp [readable] at hr <;> subst hr
  · obtain ⟨L, h1, h2, h3, h4, cs, e, h5, h6, h7⟩ := h.obj b _ hb
    exact ⟨L, h1, h2, cs, e, _, h5, by omega, h7⟩
  · obtain ⟨L, h1, h2, h3, h4, cs, e, fr, h5, h6, h7⟩ := h.obj b _ hb
    exact ⟨L, h1, h2, cs, e, fr, h5, h6, h7⟩

theorem take_drop_sub {l : List Value} {off n o m : Nat} (h : o + m ≤ n) : (((l.drop off).take n).drop o).take m = (l.drop (off + o)).take m := by
  rw [List.drop_take, List.drop_drop, List.take_take, Nat.min_eq_left (by omega)]

/-- Several cells are read. -/
theorem Rel.loads {b o n : Nat} {ob : AObj} {c : List Value} (h : Rel μ s w) (hb : s.H b = some ob) (hr : readable ob = some c) (hn : o + n ≤ c.length) :
    ∃ L, μ b = some L ∧ ∃ vs, (loadCells ⟨L.block, L.off + o, none⟩ n).run P w = .ok vs w ∧ VRs μ ((c.drop o).take n) vs.toList := by
  obtain ⟨L, h1, h2, cs, e, fr, h3, h4, h5⟩ := h.reads hb hr
  refine ⟨L, h1, _, run_loadCells_at h3 (by omega), ?_⟩
  have := (h5.drop o).take n
  rw [take_drop_sub (by omega)] at this
  have e : L.off + o + n - (L.off + o) = n := by omega
  simpa [Array.toList_extract, List.extract_eq_take_drop, e] using this

/-- One cell is read. -/
theorem Rel.load1 {b o : Nat} {ob : AObj} {c : List Value} {v : Value} (h : Rel μ s w) (hb : s.H b = some ob) (hr : readable ob = some c) (hv : c[o]? = some v) :
    ∃ L, μ b = some L ∧ ∃ v', (load ⟨L.block, L.off + o, none⟩).run P w = .ok v' w ∧ VR μ v v' := by
  obtain ⟨L, h1, h2, cs, e, fr, h3, h4, h5⟩ := h.reads hb hr
  obtain ⟨v', hv', hvr⟩ := h5.get hv
  have ho := (List.getElem?_eq_some_iff.1 hv).1
  rw [List.getElem?_take, if_pos ho, List.getElem?_drop] at hv'
  exact ⟨L, h1, v', run_load_at h3 (by simpa using hv'), hvr⟩

end
end Go.Ab
