/- 'comp' is sound at the operations that only compute. -/
import Derived.Test.YtdhiacdfblakcaaAbE
namespace Go.Ab
open Go

section
variable {P : Program} {w : World} {μ : Mu} {nt : Nat} {t : Env} {a : Act}

theorem run_v {s : Sem Value} {v : Value} {w' : World} (h : s.run P w = .ok v w') : (do pure (Next.value (← s)) : Sem Next).run P w = .ok (.value v) w' := by
  simp [h]

theorem VR.goInt (μ : Mu) (n : Int) : VR μ (.int .i64 n) (goInt n) := .int _ _

theorem VR.int_inv {k : IntKind} {n : Int} {v : Value} (h : VR μ (.int k n) v) : v = .int k n := by cases h; rfl
theorem VR.bool_inv {b : Bool} {v : Value} (h : VR μ (.bool b) v) : v = .bool b := by cases h; rfl
theorem VR.string_inv {b : ByteArray} {v : Value} (h : VR μ (.string b) v) : v = .string b := by cases h; rfl
theorem VR.ptr_inv {ad : Addr} {v : Value} (h : VR μ (.pointer (some ad)) v) : ∃ b o L, ad = ⟨b, o, none⟩ ∧ μ b = some L ∧ v = .pointer (some ⟨L.block, L.off + o, none⟩) := by
  cases h with | ptr h => exact ⟨_, _, _, rfl, h, rfl⟩
theorem VR.slice_inv {ad : Addr} {len cap : Nat} {v : Value} (h : VR μ (.slice (some ad) len cap) v) :
    ∃ b o L A cap', ad = ⟨b, o, none⟩ ∧ μ b = some L ∧ v = .slice (some A) len cap' ∧ 0 < L.esz ∧ o + cap * L.esz ≤ L.size ∧ len ≤ cap ∧ cap ≤ cap' ∧
      cap' ≤ cap + (if o + cap * L.esz = L.size then L.spare else 0) ∧ (cap' = 0 ∨ A = ⟨L.block, L.off + o, none⟩) := by
  cases h with | slice h1 h2 h3 h4 h5 h6 h7 => exact ⟨_, _, _, _, _, rfl, h1, rfl, h2, h3, h4, h5, h6, h7⟩
theorem VR.nilSlice_inv {len cap : Nat} {v : Value} (h : VR μ (.slice none len cap) v) : len = 0 ∧ cap = 0 ∧ v = .slice none 0 0 := by cases h; exact ⟨rfl, rfl, rfl⟩
theorem VR.agg_inv {c : Array Value} {v : Value} (h : VR μ (.agg c) v) : ∃ c', v = .agg c' ∧ VRs μ c.toList c'.toList := by cases h with | agg h => exact ⟨_, rfl, h⟩
theorem VR.tuple_inv {c : Array Value} {v : Value} (h : VR μ (.tuple c) v) : ∃ c', v = .tuple c' ∧ VRs μ c.toList c'.toList := by cases h with | tuple h => exact ⟨_, rfl, h⟩
theorem VR.func_inv {fn : Fn} {f c : Array Value} {v : Value} (h : VR μ (.func fn f c) v) : ∃ f' c', v = .func fn f' c' ∧ VRs μ f.toList f'.toList ∧ VRs μ c.toList c'.toList := by
  cases h with | func h1 h2 => exact ⟨_, _, rfl, h1, h2⟩

/-- The operation's value, with the model's wrapping taken off. -/
theorem pure_sound {o : Oper} {op : AOp} {v : Value} (hc : comp P nt o.op = some op) (hk : op.kind = .pure) (hv : apure t op = some v) (he : EnvR μ nt t a) :
    ∃ v', (execOp a.eval o).run P w = .ok (.value v') w ∧ VR μ v v' := by
  obtain ⟨dst, oo, ty, pos, after, gd⟩ := o
  simp only at hc
  unfold comp at hc
  split at hc
  · -- move
    rename_i x
    split at hc <;> cases hc
    cases hv
    exact ⟨_, rfl, he.ev (by assumption)⟩
  · split at hc <;> cases hc
    cases hv
    exact ⟨_, rfl, he.ev (by assumption)⟩
  · -- pick
    rename_i c x y
    split at hc <;> cases hc
    rename_i hok
    simp only [okL, List.all_cons, List.all_nil, Bool.and_eq_true, Bool.and_true] at hok
    simp only [apure] at hv
    have h1 := he.ev hok.1
    split at hv <;> cases hv
    rename_i b hb
    rw [hb] at h1
    have e := h1.bool_inv
    refine ⟨if b then a.eval x else a.eval y, by simp [execOp, asBool, e], ?_⟩
    cases b
    · simpa using he.ev hok.2.2
    · simpa using he.ev hok.2.1
  · -- binOp
    rename_i op' xt x y yt
    split at hc
    · rename_i hok
      simp only [okL, List.all_cons, List.all_nil, Bool.and_eq_true, Bool.and_true] at hok
      have h1 := he.ev hok.1
      have h2 := he.ev hok.2
      split at hc <;> cases hc
      · rename_i k hx hy
        simp only [apure, Option.map_eq_some_iff] at hv
        obtain ⟨b, hb, rfl⟩ := hv
        exact ⟨_, run_v (by have := s_isnil (neg := false) (P := P) (w := w) (a := a) x y hy h1 hb; simpa [execOp] using this), .bool _⟩
      · rename_i k hx hy
        simp only [apure, Option.map_eq_some_iff] at hv
        obtain ⟨b, hb, rfl⟩ := hv
        exact ⟨_, run_v (by have := s_isnil (neg := true) (P := P) (w := w) (a := a) x y hy h1 hb; simpa [execOp] using this), .bool _⟩
      · simp only [apure] at hv
        obtain ⟨v', e1, e2⟩ := s_bin (P := P) (w := w) xt x y hv h1 h2
        exact ⟨v', run_v e1, e2⟩
    · cases hc
  · -- unOp
    split at hc <;> cases hc
    simp only [apure] at hv
    obtain ⟨v', e1, e2⟩ := s_un (P := P) (w := w) hv (he.ev (by assumption))
    exact ⟨v', run_v e1, e2⟩
  · -- convert
    rename_i src dt x
    split at hc
    · rename_i hok
      have h1 := he.ev hok
      split at hc <;> cases hc
      rename_i k' k hs hd
      simp only [apure] at hv
      split at hv <;> cases hv
      rename_i k2 n hx
      rw [hx] at h1
      have e := h1.int_inv
      exact ⟨_, run_v (by simp [e, convert, run_underlying hs, run_underlying hd, Conv.intToInt]), .int _ _⟩
    · cases hc
  · -- nilCheck
    rename_i x
    split at hc <;> cases hc
    have h1 := he.ev (by assumption)
    simp only [apure] at hv
    split at hv <;> cases hv
    rename_i ad hx
    rw [hx] at h1
    obtain ⟨b, o, L, rfl, hb, e⟩ := h1.ptr_inv
    exact ⟨_, by simp [execOp, e], .ptr hb⟩
  · -- makeFunc
    rename_i f first captured
    split at hc <;> cases hc
    rename_i hok
    simp only [okL, List.all_append, Bool.and_eq_true] at hok
    simp only [apure, Option.some.injEq] at hv
    subst hv
    refine ⟨_, rfl, .func ?_ ?_⟩
    · simpa using he.evs (l := first.toList) hok.1
    · simpa using he.evs (l := captured.toList) hok.2
  · -- extract
    rename_i x i
    split at hc <;> cases hc
    have h1 := he.ev (by assumption)
    simp only [apure] at hv
    split at hv
    · rename_i vs hx
      rw [hx] at h1
      obtain ⟨c', e, hvs⟩ := h1.tuple_inv
      obtain ⟨v', h2, h3⟩ := hvs.get hv
      exact ⟨v', run_v (by simp [Instr.extract, e, show c'[i]? = some v' by simpa using h2]), h3⟩
    · cases hv
  · -- fieldAddr
    rename_i s x f
    split at hc
    · rename_i hok
      have h1 := he.ev hok
      split at hc
      · rename_i fs hs
        split at hc
        · rename_i fd hf
          split at hc <;> cases hc
          rename_i n hn
          simp only [apure] at hv
          split at hv <;> cases hv
          rename_i b o hx
          rw [hx] at h1
          obtain ⟨b', o', L, e0, hb, e⟩ := h1.ptr_inv
          cases e0
          refine ⟨.pointer (some ⟨L.block, L.off + (o + fd.offset), none⟩), run_v ?_, .ptr hb⟩
          simp [Instr.fieldAt, run_underlying hs, hf, Instr.sureAddr, e, fieldPlace, run_sizeOf' hn, Addr.add_lit, Nat.add_assoc]
        · cases hc
      · cases hc
    · cases hc
  · -- field
    rename_i s x f
    split at hc
    · rename_i hok
      have h1 := he.ev hok
      split at hc
      · rename_i fs hs
        split at hc
        · rename_i fd hf
          split at hc <;> cases hc
          rename_i n g hn hg
          simp only [apure] at hv
          split at hv
          · rename_i cs hx
            rw [hx] at h1
            obtain ⟨c', e, hcs⟩ := h1.agg_inv
            obtain ⟨v', h2, h3⟩ := s_part (P := P) (w := w) hn hg hv hcs
            exact ⟨v', run_v (by simpa [Instr.field, run_underlying hs, hf, asAgg, e] using h2), h3⟩
          · cases hv
        · cases hc
      · cases hc
    · cases hc
  · -- indexAddr
    rename_i ty' x i
    split at hc
    · rename_i hok
      simp only [okL, List.all_cons, List.all_nil, Bool.and_eq_true, Bool.and_true] at hok
      have h1 := he.ev hok.1
      have h2 := he.ev hok.2
      split at hc
      · rename_i e0 hu
        split at hc <;> cases hc
        rename_i n hn
        simp only [apure] at hv
        split at hv
        · rename_i b o len cap k j hx hi
          split at hv <;> cases hv
          rename_i hr
          rw [hx] at h1; rw [hi] at h2
          obtain ⟨b', o', L, A, cap', e1, hb, e2, hz, hs, hl, hcc, hcc', hA⟩ := h1.slice_inv
          cases e1
          have e3 := h2.int_inv
          obtain ⟨j0, j1⟩ := hr
          have hA' : A = ⟨L.block, L.off + o, none⟩ := hA.resolve_left (by omega)
          subst hA'
          refine ⟨.pointer (some ⟨L.block, L.off + (o + j.toNat * n), none⟩), run_v ?_, .ptr hb⟩
          simp [Instr.indexAt, asIntOf, e2, e3, run_underlying hu, j0, j1, run_sizeOf' hn, Addr.add_lit, Nat.add_assoc]
        · cases hv
      · rename_i n e0 hu
        split at hc <;> cases hc
        rename_i z hn
        simp only [apure] at hv
        split at hv
        · rename_i b o k j hx hi
          split at hv <;> cases hv
          rename_i hr
          rw [hx] at h1; rw [hi] at h2
          obtain ⟨b', o', L, e1, hb, e2⟩ := h1.ptr_inv
          cases e1
          have e3 := h2.int_inv
          obtain ⟨j0, j1⟩ := hr
          refine ⟨.pointer (some ⟨L.block, L.off + (o + j.toNat * z), none⟩), run_v ?_, .ptr hb⟩
          simp [Instr.indexAt, Instr.sureAddr, asIntOf, e2, e3, run_underlying hu, j0, j1, run_sizeOf' hn, Addr.add_lit, Nat.add_assoc]
        · cases hv
      · cases hc
    · cases hc
  · -- index
    rename_i ty' x i
    split at hc
    · rename_i hok
      simp only [okL, List.all_cons, List.all_nil, Bool.and_eq_true, Bool.and_true] at hok
      have h1 := he.ev hok.1
      have h2 := he.ev hok.2
      split at hc
      · rename_i hu
        cases hc
        simp only [apure] at hv
        split at hv
        · rename_i s k j hx hi
          split at hv
          · rename_i j0
            simp only [Option.map_eq_some_iff] at hv
            obtain ⟨b, hb, rfl⟩ := hv
            rw [hx] at h1; rw [hi] at h2
            have e1 := h1.string_inv
            have e2 := h2.int_inv
            exact ⟨_, run_v (by simp [Instr.index, asIntOf, e1, e2, run_underlying hu, j0, hb]), .int _ _⟩
          · cases hv
        · cases hv
      · rename_i n e0 hu
        split at hc <;> cases hc
        rename_i z g hn hg
        simp only [apure] at hv
        split at hv
        · rename_i cs k j hx hi
          split at hv
          · rename_i hr
            obtain ⟨j0, j1⟩ := hr
            rw [hx] at h1; rw [hi] at h2
            obtain ⟨c', e1, hcs⟩ := h1.agg_inv
            have e2 := h2.int_inv
            obtain ⟨v', h3, h4⟩ := s_part (P := P) (w := w) hn hg hv hcs
            exact ⟨v', run_v (by simpa [Instr.index, asIntOf, e1, e2, run_underlying hu, j0, j1, run_sizeOf' hn] using h3), h4⟩
          · cases hv
        · cases hv
      · cases hc
    · cases hc
  · -- slice
    rename_i ty' x lo hi mx
    split at hc
    · rename_i hok
      simp only [Bool.and_eq_true] at hok
      obtain ⟨⟨⟨k1, k2⟩, k3⟩, k4⟩ := hok
      have h1 := he.ev k1
      split at hc
      · split at hc <;> cases hc <;> cases hk
      · rename_i hu
        split at hc <;> cases hc
        simp only [apure] at hv
        split at hv
        · rename_i s hx
          rw [hx] at h1
          have e1 := h1.string_inv
          simp only [Option.map_eq_some_iff] at hv
          obtain ⟨⟨l, h, m⟩, hb, rfl⟩ := hv
          obtain ⟨m', hrun, _, _, _, _⟩ := s_bounds (P := P) (w := w) (isS := false) (Nat.le_refl _) hb (he.opt k2) (he.opt k3) (mx' := none) ⟨(fun v e => by cases e), fun _ => rfl⟩
          exact ⟨_, run_v (by simp [Instr.sliceAt, Instr.slice, e1, run_underlying hu, hrun]), .string _⟩
        · cases hv
      · cases hc
    · cases hc
  · -- build
    rename_i ty' parts
    split at hc
    · rename_i hok
      split at hc
      · rename_i fs hu
        split at hc
        · rename_i z l hz hl
          split at hc <;> cases hc
          rename_i hfs
          simp only [apure, Option.map_eq_some_iff] at hv
          obtain ⟨c, hfill, rfl⟩ := hv
          obtain ⟨zv, hzr, hz1, hz2⟩ := run_zeroValue' (P := P) (w := w) hz
          obtain ⟨hlen, hget⟩ := compParts_get hl
          have hev := he.evs hok
          obtain ⟨r', e1, e2⟩ := s_fill (μ := μ) ((fs.map fun f => (f.offset, (szOf P f.type).getD 0))[·]?) _ (parts.toList.map fun p => (p.1, a.eval p.2)) z c zv.cells hfill
            (by rw [hz1]; exact VRs.of_plain1 μ z hz2) (by simp [hlen]) (by
              intro i p q hp hq
              simp only [List.getElem?_map, Option.map_eq_some_iff] at hp hq
              obtain ⟨p', hp', rfl⟩ := hp
              obtain ⟨q', hq', rfl⟩ := hq
              obtain ⟨h1, f, hf, h2, h3⟩ := hget i p' q' hp' hq'
              refine ⟨by simp [hf, h2, h3], ?_⟩
              simp only [h1]
              have hq2 : (List.map (Ab.ev t) (parts.toList.map (·.2)))[i]? = some (Ab.ev t q'.2) := by simp [hq']
              obtain ⟨v', hv1, hv2⟩ := hev.get hq2
              simp [hq'] at hv1
              rw [hv1]; exact hv2)
          refine ⟨.agg r', run_v ?_, .agg (by simpa using e2)⟩
          simp only [Instr.build, Sem.run_bind, hzr, Result.andThen_ok, run_underlying hu]
          rw [s_mapM' fs hfs]
          simp only [Result.andThen_ok]
          have e3 : (parts.map fun (i, x) => (i, a.eval x)).toList = parts.toList.map fun p => (p.1, a.eval p.2) := by simp
          rw [e3, e1]
          rfl
        · cases hc
      · rename_i n e0 hu
        split at hc <;> cases hc
        rename_i z sz hz hsz
        simp only [apure, Option.map_eq_some_iff] at hv
        obtain ⟨c, hfill, rfl⟩ := hv
        obtain ⟨zv, hzr, hz1, hz2⟩ := run_zeroValue' (P := P) (w := w) hz
        have hev := he.evs hok
        obtain ⟨r', e1, e2⟩ := s_fill (μ := μ) (fun i => some (i * sz, sz)) _ (parts.toList.map fun p => (p.1, a.eval p.2)) z c zv.cells hfill
          (by rw [hz1]; exact VRs.of_plain1 μ z hz2) (by simp) (by
            intro i p q hp hq
            simp only [List.getElem?_map, Option.map_eq_some_iff, List.map_map] at hp hq
            obtain ⟨p', hp', rfl⟩ := hp
            obtain ⟨q', hq', rfl⟩ := hq
            rw [hp'] at hq'; cases hq'
            refine ⟨rfl, ?_⟩
            have hq2 : (List.map (Ab.ev t) (parts.toList.map (·.2)))[i]? = some (Ab.ev t p'.2) := by simp [hp']
            obtain ⟨v', hv1, hv2⟩ := hev.get hq2
            simp [hp'] at hv1
            simp only [Function.comp]
            rw [hv1]; exact hv2)
        refine ⟨.agg r', run_v ?_, .agg (by simpa using e2)⟩
        simp only [Instr.build, Sem.run_bind, hzr, Result.andThen_ok, run_underlying hu, run_sizeOf' hsz]
        have e3 : (parts.map fun (i, x) => (i, a.eval x)).toList = parts.toList.map fun p => (p.1, a.eval p.2) := by simp
        rw [e3, e1]
        rfl
      · cases hc
    · cases hc
  · (repeat' split at hc) <;> cases hc <;> cases hk
  · (repeat' split at hc) <;> cases hc <;> cases hk
  · (repeat' split at hc) <;> cases hc <;> cases hk
  · (repeat' split at hc) <;> cases hc <;> cases hk
  · (repeat' split at hc) <;> cases hc <;> cases hk
  · (repeat' split at hc) <;> cases hc <;> cases hk
  · -- call
    rename_i c
    obtain ⟨callee, args, tys⟩ := c
    simp only at hc
    split at hc
    · split at hc <;> cases hc <;> cases hk
    · -- len
      rename_i x ty' hargs htys
      have ea : args = #[x] := by apply Array.toList_inj.1; simpa using hargs
      have et : tys = #[ty'] := by apply Array.toList_inj.1; simpa using htys
      subst ea; subst et
      split at hc
      · rename_i hok
        have h1 := he.ev hok
        split at hc
        · rename_i e0 hu
          cases hc
          simp only [apure] at hv
          split at hv <;> cases hv
          · rename_i ad n cap hx
            rw [hx] at h1
            cases ad with
            | none =>
              obtain ⟨rfl, rfl, e⟩ := h1.nilSlice_inv
              exact ⟨_, by simp [execOp, resolve, invoke, builtin, Builtin.len_, run_underlying hu, e, goInt], .int _ _⟩
            | some ad =>
              obtain ⟨b', o', L, A, cap', e1, hb, e2, _⟩ := h1.slice_inv
              exact ⟨_, by simp [execOp, resolve, invoke, builtin, Builtin.len_, run_underlying hu, e2, goInt], .int _ _⟩
        · rename_i hu
          cases hc
          simp only [apure] at hv
          split at hv <;> cases hv
          · rename_i s hx
            rw [hx] at h1
            have e := h1.string_inv
            exact ⟨_, by simp [execOp, resolve, invoke, builtin, Builtin.len_, run_underlying hu, e, goInt], .int _ _⟩
        · rename_i n e0 hu
          cases hc
          simp only [apure, Option.some.injEq] at hv
          subst hv
          exact ⟨_, by simp [execOp, resolve, invoke, builtin, Builtin.len_, run_underlying hu, goInt], .int _ _⟩
        · cases hc
      · cases hc
    · rename_i x y hargs
      have ea : args = #[x, y] := by apply Array.toList_inj.1; simpa using hargs
      subst ea
      split at hc <;> cases hc
      rename_i hok
      simp only [okL, List.all_cons, List.all_nil, Bool.and_eq_true, Bool.and_true] at hok
      have h1 := he.ev hok.1
      have h2 := he.ev hok.2
      simp only [apure] at hv
      split at hv <;> cases hv
      rename_i k i k' j hx hy
      rw [hx] at h1; rw [hy] at h2
      exact ⟨_, by simp [execOp, resolve, invoke, builtin, Builtin.max_, Builtin.max2, h1.int_inv, h2.int_inv]; rfl, by simpa using VR.int _ _⟩
    · rename_i x y hargs
      have ea : args = #[x, y] := by apply Array.toList_inj.1; simpa using hargs
      subst ea
      split at hc <;> cases hc
      rename_i hok
      simp only [okL, List.all_cons, List.all_nil, Bool.and_eq_true, Bool.and_true] at hok
      have h1 := he.ev hok.1
      have h2 := he.ev hok.2
      simp only [apure] at hv
      split at hv <;> cases hv
      rename_i k i k' j hx hy
      rw [hx] at h1; rw [hy] at h2
      exact ⟨_, by simp [execOp, resolve, invoke, builtin, Builtin.min_, Builtin.min2, h1.int_inv, h2.int_inv]; rfl, by simpa using VR.int _ _⟩
    · (repeat' split at hc) <;> cases hc <;> cases hk
    · (repeat' split at hc) <;> cases hc <;> cases hk
    · cases hc
  · cases hc

end
end Go.Ab
