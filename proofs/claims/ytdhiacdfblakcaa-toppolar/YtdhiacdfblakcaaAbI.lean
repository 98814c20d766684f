/- Stores, append, copy: sound. -/
import Derived.Test.YtdhiacdfblakcaaAbH
namespace Go.Ab
open Go

section
variable {P : Program} {w : World} {μ : Mu} {nt : Nat} {t : Env} {a : Act} {s : St}

theorem store_sound {ty : TypeId} {size : Nat} {x v x' v' : Value} {K : Value → St → Prop} {dst : Option Tmp} {next : Act → World → Prop} (hn : szOf P ty = some size)
    (h : astore s size x v K) (hr : Rel μ s w) (hx : VR μ x x') (hv : VR μ v v') (hg : Goes μ s w a dst K next) :
    ∃ w', (Instr.storeAt ty x' v').run P w = .ok () w' ∧ next (a.put dst undef) w' := by
  unfold astore at h
  split at h
  · rename_i b o
    split at h
    · rename_i c e ex hb
      obtain ⟨h1, h2, h3, hK⟩ := h
      obtain ⟨b', o', L, e1, hL, e2⟩ := hx.ptr_inv
      cases e1
      have hvc := VRs.cells hv
      have hlen := hvc.length
      obtain ⟨w', hrun, r, st⟩ := run_storeCells_rel (P := P) hL (L.off + o) v.cells.toList v'.cells.toList 0 o s w c e ex hr hb hvc h2 (by omega) (by omega)
      refine ⟨w', ?_, hg μ _ w' undefV undef st r (VR.undefR μ) hK⟩
      have hsz : v'.cells.size = size := by simp at hlen h1; omega
      simp only [Instr.storeAt, Instr.sureAddr, e2, Sem.run_bind, Sem.run_pure, Result.andThen_ok, storeVar, run_sizeOf' hn]
      rw [if_neg (by simp [hsz])]
      exact hrun
    · exact h.elim
  · exact h.elim

theorem info_of {e : TypeId} {n b : Nat} {z : List Value} (h1 : szOf P e = some n) (h2 : bytesOf P e = some b) (h3 : zeroOf P e = some z) (h4 : z.length = n) :
    ∃ i v, P.info? e = some i ∧ i.zero = some v ∧ i.size = n ∧ i.bytes = b ∧ v.cells.size = n := by
  unfold szOf at h1; unfold bytesOf at h2; unfold zeroOf at h3
  cases hi : P.info? e with
  | none => rw [hi] at h1; cases h1
  | some i =>
    rw [hi] at h1 h2 h3
    simp only [Option.map_some, Option.some.injEq] at h1 h2
    cases hz : i.zero with
    | none => simp [hz] at h3
    | some v =>
      simp only [Option.bind_some, hz] at h3
      split at h3
      · cases h3; exact ⟨i, v, rfl, hz, h1, h2, by simpa using h4⟩
      · cases h3

theorem grown_ge (w : World) (need old : Nat) (e : TypeId) : need ≤ grownCap w need old e := by
  unfold grownCap Question.cut
  exact Nat.le_add_right _ _

/-- The new row of an append that grows. -/
theorem grow_rel {esz need cap' : Nat} {c : List Value} {news : List Value} {rest : Array Value} {e : TypeId} (hr : Rel μ s w) (hz : 0 < esz) (hc : VRs μ c news) (hl : c.length = need * esz)
    (hcap : need ≤ cap') (hrest : rest.size = (cap' - need) * esz) :
    ∃ μ', Rel μ' (s.new (.cells c esz false)) (w.drew.alloc (.cells (news.toArray ++ rest) e)) ∧ Step μ s w μ' (s.new (.cells c esz false)) (w.drew.alloc (.cells (news.toArray ++ rest) e)) ∧
      VR μ' (.slice (some ⟨s.n, 0, none⟩) need need) (.slice (some ⟨w.heap.size, 0, none⟩) need cap') := by
  have hnl := hc.length
  refine ⟨μ.put s.n ⟨w.heap.size, 0, need * esz, cap' - need, esz⟩, ?_, ?_, ?_⟩
  · refine hr.new _ (.cells (news.toArray ++ rest) e) _ rfl rfl ?_
    intro ν hν hs
    refine ⟨_, hs, hl.symm, rfl, (fun h => by cases h), news.toArray ++ rest, e, ?_, ?_, ?_⟩
    · show (w.heap.push _)[w.heap.size]? = _; simp
    · simp [hrest, hnl, hl]
    · simp only [List.drop_zero, Array.toList_append]
      rw [List.take_left' (by omega)]
      exact hc.mono hν
  · exact Step.of_new hr _ (.cells (news.toArray ++ rest) e) _ rfl rfl rfl rfl rfl rfl
  · have hms : (μ.put s.n ⟨w.heap.size, 0, need * esz, cap' - need, esz⟩) s.n = some ⟨w.heap.size, 0, need * esz, cap' - need, esz⟩ := by simp [Mu.put]
    refine VR.slice (A := ⟨w.heap.size, 0, none⟩) hms hz (by simp) (Nat.le_refl _) hcap ?_ (.inr (by simp))
    simp; omega

theorem app_sound {ty tu : TypeId} {e : TypeId} {sz bytes : Nat} {z : List Value} {x y x' y' : Value} {K : Value → St → Prop} {dst : Option Tmp} {next : Act → World → Prop} (ht : P.underlying ty = some (.slice e))
    (h1 : szOf P e = some (sz + 1)) (h2 : bytesOf P e = some bytes) (h3 : zeroOf P e = some z) (h4 : z.length = sz + 1)
    (h : aapp s (sz + 1) bytes x y K) (hr : Rel μ s w) (hx : VR μ x x') (hy : VR μ y y') (hg : Goes μ s w a dst K next) :
    ∃ v' w', (Builtin.append_ #[ty, ty] tu #[x', y']).run P w = .ok v' w' ∧ next (a.put dst v') w' := by
  obtain ⟨i, zv, hi, hzv, hsz, hby, hzs⟩ := info_of h1 h2 h3 h4
  unfold aapp at h
  cases hseen : seen s (sz + 1) y with
  | none => simp [hseen] at h
  | some p =>
    obtain ⟨n, src⟩ := p
    simp only [hseen] at h
    by_cases hn : n = 0
    · rw [if_pos hn] at h
      subst hn
      -- nothing is appended
      refine ⟨x', w, ?_, hg μ s w x x' (Step.refl _ _ _) hr hx h.2⟩
      have hy0 : (∃ c, y' = .slice none 0 c) ∨ ∃ A c, y' = .slice (some A) 0 c := by
        unfold seen at hseen
        split at hseen
        · obtain ⟨rfl, rfl, rfl⟩ := hy.nilSlice_inv; exact .inl ⟨_, rfl⟩
        · split at hseen
          · rename_i hz0
            subst hz0
            obtain ⟨b', o', L, A, cap', e1, hb, e2, _⟩ := hy.slice_inv
            exact .inr ⟨_, _, e2⟩
          · rename_i hz0
            split at hseen
            · split at hseen <;> cases hseen
              exact absurd rfl hz0
            · cases hseen
        · cases hseen
      have hx0 : x' = .slice none 0 0 ∨ ∃ A len cap, x' = .slice (some A) len cap ∧ len ≤ cap := by
        have h0 := h.1
        unfold isSlice at h0
        split at h0
        · rename_i ad len cap
          cases ad with
          | none => obtain ⟨rfl, rfl, rfl⟩ := hx.nilSlice_inv; exact .inl rfl
          | some ad =>
            obtain ⟨b', o', L, A, cap', e1, hb, e2, _, _, hl, hc, _⟩ := hx.slice_inv
            exact .inr ⟨_, _, _, e2, by omega⟩
        · cases h0
      rcases hy0 with ⟨c, rfl⟩ | ⟨A, c, rfl⟩ <;> rcases hx0 with rfl | ⟨B, len, cap, rfl, hl⟩ <;>
        simp [Builtin.append_, run_underlying ht, sizeOf, typeInfo, Builtin.lenOf, Builtin.firstCells, loadCells, loadCellsFrom, storeCells, *]
    · rw [if_neg hn] at h
      obtain ⟨A, c', src', rfl, hsrc, hsl, hcells, b0, o0, L0, hy1, hL0⟩ := hr.seen hseen hy hn
      have hsl' : src'.length = n * i.size := by rw [hsrc.length, hsl, hsz]
      split at h
      · -- onto nil
        obtain ⟨rfl, rfl, rfl⟩ := hx.nilSlice_inv
        obtain ⟨hb1, hb2, hK⟩ := h
        have hrun := run_append_nil (P := P) w ty tu e i zv ht hi hzv A n c' src' hsl' hcells (by omega) (by omega) (by rw [hby]; omega)
        obtain ⟨μ', r, st, hv⟩ := grow_rel (news := src') (e := e) (cap' := grownCap w n 0 e) (rest := Builtin.zeroCells zv.cells (grownCap w n 0 e - n)) hr (Nat.succ_pos sz) hsrc hsl (grown_ge w n 0 e)
          (by simp [Builtin.zeroCells, hzs])
        exact ⟨_, _, hrun, hg _ _ _ _ _ st r hv hK⟩
      · rename_i b o len cap
        obtain ⟨b', o', L, B, cap', e1, hL, rfl, hz0, hs0, hl0, hcc, hcc', hA⟩ := hx.slice_inv
        cases e1
        -- the cells that stand there
        have olds : ∀ (ob : AObj) (c : List Value), s.H b = some ob → readable ob = some c → o + cap * (sz + 1) ≤ c.length →
            ∃ olds', VRs μ ((c.drop o).take (len * (sz + 1))) olds' ∧ olds'.length = len * (sz + 1) ∧ ((c.drop o).take (len * (sz + 1))).length = len * (sz + 1) ∧
              ∀ j v, olds'[j]? = some v → w.cell? (B.add j) = some v := by
          intro ob c hob hrd hle
          have hm := mul_le_of (e := sz + 1) hl0
          obtain ⟨L', hL', hls, cs, e, fr, hw, hle2, hvs⟩ := hr.reads hob hrd
          rw [hL] at hL'; cases hL'
          refine ⟨(cs.toList.drop (L.off + o)).take (len * (sz + 1)), ?_, ?_, ?_, ?_⟩
          · have := (hvs.drop o).take (len * (sz + 1))
            rwa [take_drop_sub (by omega)] at this
          · simp; omega
          · simp; omega
          · intro j v hj
            have hjl : j < len * (sz + 1) := by
              have := (List.getElem?_eq_some_iff.1 hj).1
              simp at this; omega
            have hlen : 0 < len := by
              rcases Nat.eq_zero_or_pos len with h0 | h0
              · rw [h0] at hjl; omega
              · exact h0
            have hB := hA.resolve_left (by omega)
            rw [hB, Addr.add_lit, cell_at hw]
            rw [List.getElem?_take, if_pos hjl, List.getElem?_drop] at hj
            simpa using hj
        split at h
        · rename_i c e' ex hob
          obtain ⟨rfl, hle, hlc, hone, h⟩ := h
          have hone' := hsrc.oneCells hone
          obtain ⟨L', hL', q2, q3, q4, cs, te, q5, q6, q7⟩ := hr.cells hob
          rw [hL] at hL'; cases hL'
          rw [q3] at hcc'
          obtain ⟨olds', ho1, ho2, ho3, ho4⟩ := olds _ _ hob rfl hle
          have holds : olds'.length = len * i.size := by rw [ho2, hsz]
          have hall : ((c.drop o).take (len * (sz + 1)) ++ src).length = (len + n) * (sz + 1) := by rw [List.length_append, ho3, hsl, Nat.add_mul]
          split at h
          · -- in place, as is known
            rename_i hroom
            have hB := hA.resolve_left (by omega)
            have hm := mul_le_of (e := sz + 1) hroom
            rw [Nat.add_mul] at hm
            obtain ⟨w', hst, r, st⟩ := run_storeCells_rel (P := P) hL (L.off + (o + len * (sz + 1))) src src' 0 (o + len * (sz + 1)) s w c (sz + 1) ex hr hob hsrc hone (by omega) (by omega)
            have hfc := run_firstCells_some (P := P) w i.size n A n c' src' hsl' hcells
            refine ⟨.slice (some B) (len + n) cap', w', ?_, hg _ _ _ _ _ st r ?_ h⟩
            · subst hB
              have hroom' : len + n ≤ cap' := by omega
              have hadd : L.off + o + len * i.size = L.off + (o + len * (sz + 1)) := by rw [hsz]; omega
              simp [Builtin.append_, run_underlying ht, sizeOf, typeInfo, hi, Builtin.lenOf, hroom', hfc, Addr.add_lit, hadd, hst]
            · exact .slice hL hz0 hs0 hroom hcc (by rw [q3]; exact hcc') (.inr hB)
          · rename_i hroom
            obtain ⟨hb1, hb2, h⟩ := h
            have hfit := growslice_fits (need := len + n) (old := cap') (bytes := i.bytes)
            by_cases hex : ex = true ∨ o + cap * (sz + 1) < c.length
            · -- a new row; the old one stays
              rw [if_pos hex] at h
              have hcap : cap' = cap := by
                rcases hex with he | he
                · rw [q4 he] at hcc'; split at hcc' <;> omega
                · rw [if_neg (by omega)] at hcc'; omega
              have hgt : cap' < len + n := by omega
              have hrun := run_append_grow (P := P) w ty tu e i zv ht hi hzv B len cap' olds' holds ho4 A n c' src' hsl' hcells hgt (by omega) (hfit hgt (by rw [hby]; exact hb1))
              have hap := ho1.append hsrc
              obtain ⟨μ', r, st, hv⟩ := grow_rel (news := olds' ++ src') (e := e) (cap' := grownCap w (len + n) cap' e)
                (rest := Builtin.zeroCells zv.cells (grownCap w (len + n) cap' e - (len + n))) hr (Nat.succ_pos sz) hap hall (grown_ge w (len + n) cap' e) (by simp [Builtin.zeroCells, hzs])
              rw [← List.append_toArray] at r st
              exact ⟨_, _, hrun, hg _ _ _ _ _ st r hv h⟩
            · rw [if_neg hex] at h
              by_cases hgt : cap' < len + n
              · have hrun := run_append_grow (P := P) w ty tu e i zv ht hi hzv B len cap' olds' holds ho4 A n c' src' hsl' hcells hgt (by omega) (hfit hgt (by rw [hby]; exact hb1))
                have hap := ho1.append hsrc
                obtain ⟨rk, sk⟩ := hr.kill b
                obtain ⟨μ', r, st, hv⟩ := grow_rel (news := olds' ++ src') (e := e) (cap' := grownCap w (len + n) cap' e)
                  (rest := Builtin.zeroCells zv.cells (grownCap w (len + n) cap' e - (len + n))) rk (Nat.succ_pos sz) hap hall (grown_ge w (len + n) cap' e) (by simp [Builtin.zeroCells, hzs])
                rw [← List.append_toArray] at r st
                exact ⟨_, _, hrun, hg _ _ _ _ _ (sk.trans st) r hv h⟩
              · -- in place, in what was to spare
                have hroom' : len + n ≤ cap' := by omega
                have hB := hA.resolve_left (by omega)
                have hopen : o + cap * (sz + 1) = L.size := by omega
                rw [if_pos hopen] at hcc'
                have hm : cap' * (sz + 1) ≤ cap * (sz + 1) + L.spare * (sz + 1) := by rw [← Nat.add_mul]; exact mul_le_of hcc'
                have hm2 : (len + n) * (sz + 1) ≤ cap' * (sz + 1) := mul_le_of hroom'
                have hm3 : (len + n) * (sz + 1) = len * (sz + 1) + n * (sz + 1) := Nat.add_mul _ _ _
                have hm4 : (cap' - (len + n)) * (sz + 1) + (len + n) * (sz + 1) = cap' * (sz + 1) := by rw [← Nat.add_mul]; congr 1; omega
                rw [q3] at q6
                have hsl2 : src'.length = n * (sz + 1) := by rw [hsl', hsz]
                obtain ⟨w', cs', r1, r2, r3, r4, r5, r6, r7, r8⟩ := run_storeCells_raw (P := P) (k := L.block) (A := L.off + o + len * (sz + 1)) src' 0 w cs te q5 (by omega) hone'
                have hfc := run_firstCells_some (P := P) w i.size n A n c' src' hsl' hcells
                have hcs' : cs'.size = cs.size := by rw [← Array.length_toList, r3, setR_length, Array.length_toList]
                have hms : (μ.put s.n ⟨L.block, L.off + o, (len + n) * (sz + 1), cap' - (len + n), sz + 1⟩) s.n = some ⟨L.block, L.off + o, (len + n) * (sz + 1), cap' - (len + n), sz + 1⟩ := by simp [Mu.put]
                obtain ⟨r, st⟩ := hr.renumber (L' := ⟨L.block, L.off + o, (len + n) * (sz + 1), cap' - (len + n), sz + 1⟩) (w' := w')
                  (o' := .cells ((c.drop o).take (len * (sz + 1)) ++ src) (sz + 1) false) hob rfl hL rfl rfl r4 r5 r6 r7 r8 (by
                    refine ⟨_, hms, hall.symm, rfl, (fun h => by cases h), cs', te, r2, ?_, ?_⟩
                    · simp only; omega
                    · simp only
                      rw [Nat.add_zero] at r3
                      rw [r3, hall, hm3, ← hsl2, setR_take_drop src' cs.toList (L.off + o) (len * (sz + 1)) (by simp; omega)]
                      have hle' := mul_le_of (e := sz + 1) hl0
                      have := (q7.drop o).take (len * (sz + 1))
                      rw [take_drop_sub (by omega)] at this
                      exact (this.append hsrc).mono (Mu.le_put (hr.fresh (Nat.le_refl _))))
                refine ⟨.slice (some B) (len + n) cap', w', ?_, hg _ _ _ _ _ st r ?_ h⟩
                · subst hB
                  have hadd : L.off + o + len * i.size = L.off + o + len * (sz + 1) := by rw [hsz]
                  simp [Builtin.append_, run_underlying ht, sizeOf, typeInfo, hi, Builtin.lenOf, hroom', hfc, Addr.add_lit, hadd, r1]
                · refine VR.slice (A := B) hms (Nat.succ_pos _) (by simp) (Nat.le_refl _) hroom' ?_ (.inr (by simp [hB]))
                  simp; omega
        · rename_i c e' hob
          obtain ⟨rfl, hle, hlc, hgt0, hb1, hb2, h⟩ := h
          obtain ⟨L', hL', q2, q3, q4, cs, te, fr, q5, q6, q7⟩ := hr.obj b _ hob
          rw [hL] at hL'; cases hL'
          rw [q3, q4] at hcc'
          have hcap : cap' = cap := by split at hcc' <;> omega
          have hgt : cap' < len + n := by omega
          obtain ⟨olds', ho1, ho2, ho3, ho4⟩ := olds _ _ hob rfl hle
          have holds : olds'.length = len * i.size := by rw [ho2, hsz]
          have hall : ((c.drop o).take (len * (sz + 1)) ++ src).length = (len + n) * (sz + 1) := by rw [List.length_append, ho3, hsl, Nat.add_mul]
          have hrun := run_append_grow (P := P) w ty tu e i zv ht hi hzv B len cap' olds' holds ho4 A n c' src' hsl' hcells hgt (by omega) (growslice_fits hgt (by rw [hby]; exact hb1))
          have hap := ho1.append hsrc
          obtain ⟨μ', r, st, hv⟩ := grow_rel (news := olds' ++ src') (e := e) (cap' := grownCap w (len + n) cap' e)
            (rest := Builtin.zeroCells zv.cells (grownCap w (len + n) cap' e - (len + n))) hr (Nat.succ_pos sz) hap hall (grown_ge w (len + n) cap' e) (by simp [Builtin.zeroCells, hzs])
          rw [← List.append_toArray] at r st
          exact ⟨_, _, hrun, hg _ _ _ _ _ st r hv h⟩
        · exact h.elim
      · exact h.elim

theorem copy_sound {ty tx tu : TypeId} {e : TypeId} {sz : Nat} {x y x' y' : Value} {K : Value → St → Prop} {dst : Option Tmp} {next : Act → World → Prop} (ht : P.underlying ty = some (.slice e))
    (h1 : szOf P e = some (sz + 1)) (h : acopy s (sz + 1) x y K) (hr : Rel μ s w) (hx : VR μ x x') (hy : VR μ y y') (hg : Goes μ s w a dst K next) :
    ∃ v' w', (Builtin.copy_ #[ty, tx] tu #[x', y']).run P w = .ok v' w' ∧ next (a.put dst v') w' := by
  have hn := run_sizeOf' (P := P) (w := w) h1
  -- what the source shows
  have hsrc : ∀ n src, seen s (sz + 1) y = some (n, src) → (Builtin.lenOf y').run P w = .ok n w ∧ src.length = n * (sz + 1) ∧
      ∀ m, m ≤ n → ∃ cells, (Builtin.firstCells (sz + 1) m y').run P w = .ok cells w ∧ VRs μ (src.take (m * (sz + 1))) cells.toList := by
    intro n src hs
    by_cases h0 : n = 0
    · subst h0
      unfold seen at hs
      split at hs
      · cases hs
        obtain ⟨rfl, rfl, rfl⟩ := hy.nilSlice_inv
        exact ⟨by simp [Builtin.lenOf], by simp, fun m hm => ⟨#[], by simp [Builtin.firstCells], by simp; exact .nil⟩⟩
      · split at hs
        · rename_i hz0
          cases hs
          subst hz0
          obtain ⟨b', o', L, A, cap', e1, hb, rfl, _⟩ := hy.slice_inv
          refine ⟨by simp [Builtin.lenOf], by simp, fun m hm => ⟨#[], ?_, by simp; exact .nil⟩⟩
          have : m = 0 := by omega
          subst this
          simp [Builtin.firstCells, loadCells, loadCellsFrom]
        · rename_i hz0
          split at hs
          · split at hs <;> cases hs
            exact absurd rfl hz0
          · cases hs
      · cases hs
    · obtain ⟨A, c', src', rfl, hv, hsl, hcells, _⟩ := hr.seen hs hy h0
      refine ⟨by simp [Builtin.lenOf], hsl, fun m hm => ⟨_, run_firstCells_some (P := P) w (sz + 1) m A n c' (src'.take (m * (sz + 1))) ?_ ?_, by simpa using hv.take _⟩⟩
      · have := mul_le_of (e := sz + 1) hm
        rw [List.length_take, hv.length, hsl]; omega
      · intro j u hj
        rw [List.getElem?_take] at hj
        split at hj
        · exact hcells j u hj
        · cases hj
  unfold acopy at h
  split at h
  · rename_i n src len cap hs
    obtain ⟨rfl, rfl, rfl⟩ := hx.nilSlice_inv
    obtain ⟨hl, hsl, hf⟩ := hsrc _ _ hs
    obtain ⟨cells, hf0, hv0⟩ := hf 0 (Nat.zero_le _)
    refine ⟨.int .i64 0, w, ?_, hg _ _ _ _ _ (Step.refl _ _ _) hr (.int _ _) h⟩
    simp [Builtin.copy_, run_underlying ht, hl, hn, hf0, goInt]
  · rename_i n src b o len cap hs
    obtain ⟨hl, hsl, hf⟩ := hsrc _ _ hs
    split at h
    · rename_i c e' ex hob
      obtain ⟨hle, hone, hK⟩ := h
      obtain ⟨b', o', L, B, cap', e1, hL, rfl, hz0, hs0, hl0, hcc, hcc', hA⟩ := hx.slice_inv
      cases e1
      obtain ⟨cells, hf0, hv0⟩ := hf (min n len) (Nat.min_le_left _ _)
      have hm := mul_le_of (e := sz + 1) (Nat.min_le_right n len)
      have hm1 := mul_le_of (e := sz + 1) (Nat.min_le_left n len)
      have hl2 : (src.take (min n len * (sz + 1))).length = min n len * (sz + 1) := by rw [List.length_take]; omega
      have hone2 : (src.take (min n len * (sz + 1))).all (·.oneCell') = true := by
        rw [List.all_eq_true] at hone ⊢
        intro v hv; exact hone v (List.mem_of_mem_take hv)
      by_cases h0 : min n len = 0
      · rw [h0] at hf0 hv0 hK
        have ec : cells.toList = [] := by
          have := hv0.length
          simpa using this
        simp only [Nat.zero_mul, List.take_zero, setR] at hK
        rw [St.put_same hob] at hK
        refine ⟨.int .i64 0, w, ?_, hg _ _ _ _ _ (Step.refl _ _ _) hr (.int _ _) (by simpa using hK)⟩
        have e0 : n.min len = 0 := h0
        simp [Builtin.copy_, run_underlying ht, hl, hn, e0, hf0, goInt, ec, storeCells]
      · have hB := hA.resolve_left (by omega)
        subst hB
        obtain ⟨w', hst, r, st⟩ := run_storeCells_rel (P := P) hL (L.off + o) (src.take (min n len * (sz + 1))) cells.toList 0 o s w c e' ex hr hob hv0 hone2 (by omega) (by omega)
        refine ⟨.int .i64 (min n len : Nat), w', ?_, hg _ _ _ _ _ st r (.int _ _) hK⟩
        have e0 : n.min len = min n len := rfl
        simp [Builtin.copy_, run_underlying ht, hl, hn, e0, hf0, goInt, hst]
    · exact h.elim
  · exact h.elim

end
end Go.Ab
