/- Reads and new blocks. -/
import Derived.Test.YtdhiacdfblakcaaAbF
namespace Go.Ab
open Go

def objEsz : AObj → Option Nat
  | .cells _ e _ => some e
  | .ro _ e => some e
  | _ => none

/-- What an operation that reads memory comes to. -/
def aread (t : Env) (s : St) : AOp → Option Value
  | .slc x lo hi mx esz => match ev t x with
    | .slice (some ⟨b, o, none⟩) len cap =>
      match abounds len cap (lo.map (ev t)) (hi.map (ev t)) (mx.map (ev t)) with
      | some (l, h, m) => if m = 0 ∨ (s.H b).bind objEsz = some esz then some (.slice (some ⟨b, o + l * esz, none⟩) (h - l) (m - l)) else none
      | none => none
    | .slice none _ _ => (abounds 0 0 (lo.map (ev t)) (hi.map (ev t)) (mx.map (ev t))).map fun _ => .slice none 0 0
    | _ => none
  | .load x n g => match ev t x with
    | .pointer (some ⟨b, o, none⟩) => match (s.H b).bind readable with
      | some c => apart c o n g
      | none => none
    | _ => none
  | _ => none

def repl (n : Nat) (z : List Value) : List Value :=
  match n with
  | 0 => []
  | n + 1 => z ++ repl n z

theorem repl_one (n : Nat) (v : Value) : repl n [v] = List.replicate n v := by
  induction n with
  | zero => rfl
  | succ n ih => simp [repl, ih, List.replicate_succ]

theorem repl_length (n : Nat) (z : List Value) : (repl n z).length = n * z.length := by
  induction n with
  | zero => simp [repl]
  | succ n ih => simp [repl, ih, Nat.succ_mul, Nat.add_comm]

theorem range_repl (n : Nat) (z : Array Value) : ((Array.range (n * z.size)).map (z[· % z.size]!)).toList = repl n z.toList := by
  induction n with
  | zero => simp [repl]
  | succ n ih =>
    simp only [Array.toList_map, Array.toList_range] at ih ⊢
    rw [Nat.succ_mul, Nat.add_comm, List.range_add, List.map_append, repl]
    congr 1
    · apply List.ext_getElem?
      intro i
      simp only [List.getElem?_map]
      by_cases hi : i < z.size
      · rw [List.getElem?_range hi]
        simp [Nat.mod_eq_of_lt hi, hi]
      · rw [List.getElem?_eq_none (by simpa using hi), List.getElem?_eq_none (by simpa using hi)]; rfl
    · rw [← ih, List.map_map]
      apply List.map_congr_left
      intro i _
      simp [Nat.add_mod_left]

theorem plain1_repl : ∀ (n : Nat) (z : List Value), z.all plain1 = true → (repl n z).all plain1 = true
  | 0, _, _ => rfl
  | n + 1, z, h => by simp only [repl, List.all_append, h, plain1_repl n z h, Bool.and_self]

/-- What an operation that lays a new block comes to: the block, and the value that leads to it. -/
def aalloc (t : Env) : AOp → Option (AObj × (Nat → Value))
  | .alloc zero => some (.cells zero zero.length true, fun b => .pointer (some ⟨b, 0, none⟩))
  | .box x => some (.cells (ev t x).cells.toList (ev t x).cells.toList.length true, fun b => .pointer (some ⟨b, 0, none⟩))
  | .mkslice n c esz bytes zero => match ev t n, ev t c with
    | .int _ n, .int _ c =>
      if 0 ≤ n ∧ n ≤ c ∧ (bytes : Int) * c ≤ 2 ^ 48 ∧ c ≤ 9223372036854775807 then some (.cells (repl c.toNat zero) esz true, fun b => .slice (some ⟨b, 0, none⟩) n.toNat c.toNat) else none
    | _, _ => none
  | .bslice len esz zero parts => (afill (repl len zero) (parts.map fun p => (p.1, p.2.1, ev t p.2.2))).map fun c => (.cells c esz true, fun b => .slice (some ⟨b, 0, none⟩) len len)
  | _ => none

section
variable {P : Program} {w : World} {μ : Mu} {nt : Nat} {t : Env} {a : Act} {s : St}

theorem Rel.esz {b e : Nat} {L : Loc} (h : Rel μ s w) (hb : (s.H b).bind objEsz = some e) (hL : μ b = some L) : L.esz = e := by
  cases ho : s.H b with
  | none => simp [ho] at hb
  | some o =>
    simp only [ho, Option.bind_some] at hb
    have h1 := h.obj b o ho
    cases o <;> simp only [objEsz, Option.some.injEq] at hb <;> (try (simp at hb; done))
    · obtain ⟨L', h1, _, h3, _⟩ := h1; rw [hL] at h1; cases h1; rw [h3, hb]
    · obtain ⟨L', h1, _, h3, _⟩ := h1; rw [hL] at h1; cases h1; rw [h3, hb]

theorem add_mul_sub {o l m e : Nat} (h : l ≤ m) : o + l * e + (m - l) * e = o + m * e := by
  have : l * e + (m - l) * e = m * e := by rw [← Nat.add_mul]; congr 1; omega
  omega

theorem mul_le_of {a b e : Nat} (h : a ≤ b) : a * e ≤ b * e := Nat.mul_le_mul_right e h

theorem read_sound {o : Oper} {op : AOp} {v : Value} (hc : comp P nt o.op = some op) (hk : op.kind = .read) (hv : aread t s op = some v) (he : EnvR μ nt t a) (hr : Rel μ s w) :
    ∃ v', (execOp a.eval o).run P w = .ok (.value v') w ∧ VR μ v v' := by
  obtain ⟨dst, oo, ty, pos, after, gd⟩ := o
  simp only at hc
  unfold comp at hc
  split at hc
  case h_14 =>
    rename_i ty' x lo hi mx
    split at hc
    · rename_i hok
      simp only [Bool.and_eq_true] at hok
      obtain ⟨⟨⟨k1, k2⟩, k3⟩, k4⟩ := hok
      have h1 := he.ev k1
      split at hc
      · rename_i e0 hu
        split at hc <;> cases hc
        rename_i n hn
        simp only [aread] at hv
        split at hv
        · rename_i b o len cap hx
          rw [hx] at h1
          obtain ⟨b', o', L, A, cap', e1, hb, e2, hz, hs, hl, hcc, hcc', hA⟩ := h1.slice_inv
          cases e1
          split at hv
          · rename_i l h m hbd
            split at hv <;> cases hv
            rename_i hesz
            obtain ⟨m', hrun, hlh, hhm, hmc, hm'⟩ := s_bounds (P := P) (w := w) (isS := true) hcc hbd (he.opt k2) (he.opt k3) (he.opt k4)
            have hhm' : h ≤ m := by
              rcases hhm with h0 | ⟨h0, h1⟩
              · exact h0
              · rcases hm' with ⟨h2, h3, _⟩ | ⟨h2, _⟩
                · omega
                · exfalso
                  have : (abounds len cap (lo.map (ev t)) (hi.map (ev t)) (mx.map (ev t))) = none := by
                    unfold abounds
                    split
                    · rfl
                    · rw [if_pos]
                      simp only [h0, Option.isNone_none, Bool.true_and]
                      cases hmx : Option.map (ev t) mx with
                      | none => exact absurd hmx h2
                      | some _ => rfl
                  rw [this] at hbd; cases hbd
            by_cases hm0 : m = 0
            · have e0 : l = 0 := by omega
              have e1 : h = 0 := by omega
              subst hm0; subst e0; subst e1
              have hsp : m' ≤ 0 + (if o = L.size then L.spare else 0) := by
                rcases hm' with ⟨_, e2, e3⟩ | ⟨_, e3⟩
                · rw [← e2, Nat.zero_mul, Nat.add_zero] at hcc'; omega
                · omega
              refine ⟨.slice (if m' = 0 then some A else some (A.add (0 * (n + 1)))) (0 - 0) (m' - 0), run_v ?_, ?_⟩
              · simp [Instr.sliceAt, Instr.slice, run_underlying hu, e2, hrun, run_sizeOf' hn]
              · have key : (if m' = 0 then some A else some (A.add (0 * (n + 1)))) = some A := by
                  split
                  · rfl
                  · rw [Nat.zero_mul]; rfl
                rw [key]
                refine .slice hb hz (by omega) (by omega) (by omega) (by simpa using hsp) ?_
                by_cases e4 : m' = 0
                · left; omega
                · right
                  have hA' := hA.resolve_left (by omega)
                  rw [hA', Nat.zero_mul, Nat.add_zero]
            have hLe := hr.esz (hesz.resolve_left hm0) hb
            have hmm' : m ≤ m' ∧ m' ≤ cap' ∧ m' ≤ m + (if o + m * (n + 1) = L.size then L.spare else 0) := by
              rcases hm' with ⟨_, rfl, rfl⟩ | ⟨_, rfl⟩
              · rw [hLe] at hcc'; exact ⟨hcc, Nat.le_refl _, hcc'⟩
              · exact ⟨Nat.le_refl _, by omega, by omega⟩
            refine ⟨.slice (if m' = l then some A else some (A.add (l * (n + 1)))) (h - l) (m' - l), run_v ?_, ?_⟩
            · simp [Instr.sliceAt, Instr.slice, run_underlying hu, e2, hrun, run_sizeOf' hn]
            · have key : (if m' = l then some A else some (A.add (l * (n + 1)))) = some (if m' = l then A else A.add (l * (n + 1))) := by split <;> rfl
              rw [key]
              refine .slice hb hz ?_ (by omega) (by omega) ?_ ?_
              · rw [hLe] at hs ⊢
                rw [add_mul_sub (by omega)]
                have := mul_le_of (e := n + 1) hmc
                omega
              · rw [hLe, add_mul_sub (by omega)]
                have := hmm'.2.2
                omega
              · by_cases e : m' = l
                · left; omega
                · right
                  rw [if_neg e]
                  have hA' := hA.resolve_left (by omega)
                  rw [hA', Addr.add_lit, Nat.add_assoc]
          · cases hv
        · rename_i len cap hx
          rw [hx] at h1
          obtain ⟨rfl, rfl, e2⟩ := h1.nilSlice_inv
          simp only [Option.map_eq_some_iff] at hv
          obtain ⟨⟨l, h, m⟩, hbd, rfl⟩ := hv
          obtain ⟨m', hrun, hlh, hhm, hmc, hm'⟩ := s_bounds (P := P) (w := w) (isS := true) (Nat.le_refl _) hbd (he.opt k2) (he.opt k3) (he.opt k4)
          have e3 : h = 0 := by rcases hhm with h0 | ⟨_, h0⟩ <;> omega
          have e4 : m' = 0 := by rcases hm' with ⟨_, _, h0⟩ | ⟨_, h0⟩ <;> omega
          have e5 : l = 0 := by omega
          subst e3; subst e4; subst e5
          exact ⟨_, run_v (by simp [Instr.sliceAt, Instr.slice, run_underlying hu, e2, hrun, run_sizeOf' hn]), .sliceNil⟩
        · cases hv
      · split at hc <;> cases hc
        cases hk
      · cases hc
    · cases hc
  case h_16 =>
    rename_i ty' x
    split at hc
    · rename_i hok
      have h1 := he.ev hok
      split at hc <;> cases hc
      rename_i n g hn hg
      simp only [aread] at hv
      split at hv
      · rename_i b o hx
        rw [hx] at h1
        obtain ⟨b', o', L, e1, hb, e2⟩ := h1.ptr_inv
        cases e1
        cases hob : s.H b with
        | none => simp [hob] at hv
        | some ob =>
          simp only [hob, Option.bind_some] at hv
          cases hrd : readable ob with
          | none => simp [hrd] at hv
          | some c =>
            simp only [hrd] at hv
            unfold apart at hv
            cases g with
            | true =>
              simp only [if_true] at hv
              split at hv <;> cases hv
              rename_i hlt
              obtain ⟨L', hL', vs, hrun, hvs⟩ := hr.loads (P := P) hob hrd hlt
              rw [hb] at hL'; cases hL'
              exact ⟨.agg vs, run_v (by simp [Instr.loadAt, Instr.sureAddr, e2, loadVar, run_isAgg' hg, run_sizeOf' hn, hrun]), .agg (by simpa using hvs)⟩
            | false =>
              simp only [Bool.false_eq_true, if_false] at hv
              obtain ⟨L', hL', v', hrun, hv'⟩ := hr.load1 (P := P) hob hrd hv
              rw [hb] at hL'; cases hL'
              exact ⟨v', run_v (by simp only [Instr.loadAt, Instr.sureAddr, e2, loadVar, Sem.run_bind, Sem.run_pure, Result.andThen_ok, run_isAgg' hg, Bool.false_eq_true, if_false, hrun]), hv'⟩
      · cases hv
    · cases hc
  all_goals ((repeat' split at hc) <;> cases hc <;> cases hk)

/-- A new block, wherever it is put. -/
theorem alloc_sound {o : Oper} {op : AOp} {ob : AObj} {f : Nat → Value} (hc : comp P nt o.op = some op) (hk : op.kind = .alloc) (hv : aalloc t op = some (ob, f)) (he : EnvR μ nt t a) :
    ob.own = true ∧ ∃ L obj v', L.block = w.heap.size ∧ (execOp a.eval o).run P w = .ok (.value v') { w with heap := w.heap.push obj } ∧
      ∀ (ν : Mu) (w' : World) (b : Nat), μ.le ν → ν b = some L → w'.heap[L.block]? = some obj → ObjR ν w' b ob ∧ VR ν (f b) v' := by
  obtain ⟨dst, oo, ty, pos, after, gd⟩ := o
  simp only at hc
  unfold comp at hc
  split at hc
  case h_18 =>
    rename_i ty'
    split at hc <;> cases hc
    rename_i z hz
    simp only [aalloc, Option.some.injEq, Prod.mk.injEq] at hv
    obtain ⟨rfl, rfl⟩ := hv
    obtain ⟨zv, hzr, hz1, hz2⟩ := run_zeroValue' (P := P) (w := w) hz
    refine ⟨rfl, ⟨w.heap.size, 0, z.length, 0, z.length⟩, .cells zv.cells ty', .pointer (some ⟨w.heap.size, 0, none⟩), rfl, run_v ?_, ?_⟩
    · simp [Instr.alloc, hzr, newVar, newRow]
    · intro ν w' b hm hb hw
      refine ⟨⟨_, hb, rfl, rfl, fun _ => rfl, _, _, hw, ?_, ?_⟩, ?_⟩
      · simp [← hz1]
      · simp [← hz1]
        have := VRs.of_plain1 ν z hz2
        rw [← hz1] at this
        rw [List.take_of_length_le (by simp)]
        exact this
      · have := VR.ptr (o := 0) hb
        simpa using this
  case h_19 =>
    rename_i ty' x
    split at hc <;> cases hc
    rename_i hok
    have h1 := he.ev hok
    simp only [aalloc, Option.some.injEq, Prod.mk.injEq] at hv
    obtain ⟨rfl, rfl⟩ := hv
    have h2 := VRs.cells h1
    have h3 := h2.length
    refine ⟨rfl, ⟨w.heap.size, 0, (ev t x).cells.toList.length, 0, (ev t x).cells.toList.length⟩, .cells (a.eval x).cells ty', .pointer (some ⟨w.heap.size, 0, none⟩), rfl, run_v ?_, ?_⟩
    · simp [Instr.box, newVar, newRow]
    · intro ν w' b hm hb hw
      refine ⟨⟨_, hb, rfl, rfl, fun _ => rfl, _, _, hw, ?_, ?_⟩, ?_⟩
      · simp at h3 ⊢; omega
      · simp at h3 ⊢
        rw [← h3, ← Array.length_toList, List.take_length]
        exact h2.mono hm
      · have := VR.ptr (o := 0) hb
        simpa using this
  case h_20 =>
    rename_i ty' n c
    split at hc
    · rename_i hok
      simp only [okL, List.all_cons, List.all_nil, Bool.and_eq_true, Bool.and_true] at hok
      have h1 := he.ev hok.1
      have h2 := he.ev hok.2
      split at hc
      · rename_i e0 hu
        split at hc
        · rename_i sz by_ z hsz hby hz
          split at hc <;> cases hc
          rename_i hzl
          simp only [aalloc] at hv
          split at hv
          · rename_i k i k' j hn hcc
            split at hv
            · rename_i hcond
              obtain ⟨c0, c1, c2, c3⟩ := hcond
              simp only [Option.some.injEq, Prod.mk.injEq] at hv
              obtain ⟨rfl, rfl⟩ := hv
              rw [hn] at h1; rw [hcc] at h2
              have e1 := h1.int_inv
              have e2 := h2.int_inv
              obtain ⟨zv, hzr, hz1, hz2⟩ := run_zeroValue' (P := P) (w := w) hz
              obtain ⟨inf, hinf⟩ : ∃ i, P.info? e0 = some i := by
                unfold szOf at hsz
                cases hi : P.info? e0 with
                | none => rw [hi] at hsz; cases hsz
                | some i => exact ⟨i, rfl⟩
              have hbi : inf.bytes = by_ := by unfold bytesOf at hby; rw [hinf] at hby; simpa using hby
              have w1 : IntKind.i64.wrap i = i := by
                simp only [IntKind.wrap, IntKind.bits, IntKind.signed]
                simp
                omega
              have w2 : IntKind.i64.wrap j = j := by
                simp only [IntKind.wrap, IntKind.bits, IntKind.signed]
                simp
                omega
              have t1 : ¬ ((by_ : Int) * j > 2 ^ 48) := by omega
              have hzs : zv.cells.size = sz + 1 := by rw [← hzl, ← hz1]; simp
              have hcells : (Array.map (fun x => (if j.toNat * (sz + 1) = 0 then (#[] : Array Value) else zv.cells)[x % (if j.toNat * (sz + 1) = 0 then (#[] : Array Value) else zv.cells).size]!) (Array.range (j.toNat * (sz + 1)))).toList = repl j.toNat z := by
                have := range_repl j.toNat zv.cells
                rw [hzs] at this
                by_cases hj : j.toNat * (sz + 1) = 0
                · have hj0 : j.toNat = 0 := by
                    rcases Nat.mul_eq_zero.1 hj with h | h
                    · exact h
                    · omega
                  simp [hj0, repl]
                · simp only [if_neg hj, hzs]
                  rw [this, hz1]
              refine ⟨rfl, ⟨w.heap.size, 0, j.toNat * (sz + 1), 0, sz + 1⟩, .cells (Array.map (fun x => (if j.toNat * (sz + 1) = 0 then (#[] : Array Value) else zv.cells)[x % (if j.toNat * (sz + 1) = 0 then (#[] : Array Value) else zv.cells).size]!) (Array.range (j.toNat * (sz + 1)))) e0,
                .slice (some ⟨w.heap.size, 0, none⟩) i.toNat j.toNat, rfl, run_v ?_, ?_⟩
              · simp only [Instr.makeSlice, Sem.run_bind, run_underlying hu, Result.andThen_ok, asInt, asIntOf, e1, e2, Sem.run_pure, run_typeInfo' hinf, hbi, w1, w2]
                rw [if_neg (by simp; omega)]
                simp only [Result.andThen_ok, Sem.run_bind, run_askRoom, run_sizeOf' hsz, Sem.run_ite, Sem.run_pure, hzr]
                by_cases hj : j.toNat * (sz + 1) = 0
                · simp [hj, newRow]
                · simp [hj, newRow]
              · intro ν w' b hm hb hw
                refine ⟨⟨_, hb, ?_, rfl, fun _ => rfl, _, _, hw, ?_, ?_⟩, ?_⟩
                · rw [repl_length, hzl]
                · simp
                · rw [hcells]
                  simp only [List.drop_zero, List.take_length]
                  exact VRs.of_plain1 ν _ (plain1_repl _ _ hz2)
                · refine VR.slice (A := ⟨w.heap.size, 0, none⟩) hb (Nat.succ_pos _) (by simp) (by omega) (Nat.le_refl _) (by omega) (.inr (by simp))
            · cases hv
          · cases hv
        · cases hc
      · cases hc
    · cases hc
  case h_21 =>
    rename_i ty' n parts
    split at hc
    · rename_i hok
      split at hc
      · rename_i e0 hu
        split at hc
        · rename_i sz z hsz hz
          split at hc <;> cases hc
          rename_i hcond
          obtain ⟨hzl, hlim⟩ := hcond
          simp only [aalloc, Option.map_eq_some_iff] at hv
          obtain ⟨c, hfill, hv⟩ := hv
          simp only [Prod.mk.injEq] at hv
          obtain ⟨rfl, rfl⟩ := hv
          obtain ⟨zv, hzr, hz1, hz2⟩ := run_zeroValue' (P := P) (w := w) hz
          have hzs : zv.cells.size = sz + 1 := by rw [← hzl, ← hz1]; simp
          have hev := he.evs hok
          have hcells : (Array.map (fun x => (if n * (sz + 1) = 0 then (#[] : Array Value) else zv.cells)[x % (if n * (sz + 1) = 0 then (#[] : Array Value) else zv.cells).size]!) (Array.range (n * (sz + 1)))).toList = repl n z := by
            have := range_repl n zv.cells
            rw [hzs] at this
            by_cases hj : n * (sz + 1) = 0
            · have hj0 : n = 0 := by
                rcases Nat.mul_eq_zero.1 hj with h | h
                · exact h
                · omega
              simp [hj0, repl]
            · simp only [if_neg hj, hzs]
              rw [this, hz1]
          obtain ⟨r', e1, e2⟩ := s_fill (μ := μ) (fun i => some (i * (sz + 1), sz + 1)) _ (parts.toList.map fun p => (p.1, a.eval p.2)) (repl n z) c
            (Array.map (fun x => (if n * (sz + 1) = 0 then (#[] : Array Value) else zv.cells)[x % (if n * (sz + 1) = 0 then (#[] : Array Value) else zv.cells).size]!) (Array.range (n * (sz + 1)))) hfill
            (by rw [hcells]; exact VRs.of_plain1 μ _ (plain1_repl _ _ hz2)) (by simp) (by
              intro i p q hp hq
              simp only [List.getElem?_map, Option.map_eq_some_iff, List.map_map] at hp hq
              obtain ⟨p', hp', rfl⟩ := hp
              obtain ⟨q', hq', rfl⟩ := hq
              rw [hp'] at hq'; cases hq'
              refine ⟨rfl, ?_⟩
              have hq2 : (List.map (Ab.ev t) (parts.toList.map (·.2)))[i]? = some (Ab.ev t p'.2) := by simp [hp']
              obtain ⟨v', hv1, hv2⟩ := hev.get hq2
              simp [hp'] at hv1
              simp only [Function.comp]
              rw [hv1]; exact hv2)
          have hlen : c.length = n * (sz + 1) := by
            have hl : ∀ (ps : List (Nat × Nat × Value)) (c c' : List Value), afill c ps = some c' → c'.length = c.length := by
              intro ps
              induction ps with
              | nil => intro c c' h; cases h; rfl
              | cons p ps ih =>
                intro c c' h
                obtain ⟨p1, p2, p3⟩ := p
                simp only [afill] at h
                split at h
                · rw [ih _ _ h, setR_length]
                · cases h
            rw [hl _ _ _ hfill, repl_length, hzl]
          have hrl := e2.length
          refine ⟨rfl, ⟨w.heap.size, 0, n * (sz + 1), 0, sz + 1⟩, .cells r' e0, .slice (some ⟨w.heap.size, 0, none⟩) n n, rfl, run_v ?_, ?_⟩
          · simp only [Instr.buildSlice, Sem.run_bind, run_underlying hu, Result.andThen_ok, run_sizeOf' hsz]
            rw [if_neg (show ¬ (n * (sz + 1) > 2 ^ 24) from Nat.not_lt.2 hlim)]
            have e3 : (parts.map fun (i, x) => (i, a.eval x)).toList = parts.toList.map fun p => (p.1, a.eval p.2) := by simp
            by_cases hj : n * (sz + 1) = 0
            · simp only [hj, if_true] at e1
              simp only [hj, if_true, Sem.run_bind, Sem.run_pure, Result.andThen_ok, e3]
              rw [e1]
              simp [newRow]
            · simp only [if_neg hj] at e1
              simp only [if_neg hj, Sem.run_bind, Sem.run_pure, Result.andThen_ok, hzr, e3]
              rw [e1]
              simp [newRow]
          · intro ν w' b hm hb hw
            refine ⟨⟨_, hb, hlen.symm, rfl, fun _ => rfl, _, _, hw, ?_, ?_⟩, ?_⟩
            · simp at hrl ⊢; omega
            · simp only [List.drop_zero]
              rw [List.take_of_length_le (by omega)]
              exact e2.mono hm
            · refine VR.slice (A := ⟨w.heap.size, 0, none⟩) hb (Nat.succ_pos _) (by simp) (Nat.le_refl _) (Nat.le_refl _) (by omega) (.inr (by simp))
        · cases hc
      · cases hc
    · cases hc
  all_goals ((repeat' split at hc) <;> cases hc <;> cases hk)

end
end Go.Ab
