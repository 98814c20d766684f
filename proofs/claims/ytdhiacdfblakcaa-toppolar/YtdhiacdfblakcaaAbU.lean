/- Blocks of a call's own that are known to the last cell; cells of variables and structs. -/
import Derived.Test.YtdhiacdfblakcaaAbT
namespace Go.Ab
open Go

/-- A slice over the whole of a block of the call's own. -/
def Ow (n : Nat) (s : St) (v : Value) (b : Nat) (c : List Value) : Prop :=
  v = .slice (some ⟨b, 0, none⟩) c.length c.length ∧ n ≤ b ∧ b < s.n ∧ s.H b = some (.cells c 1 true)

theorem Ow.gr {n b : Nat} {s : St} {v : Value} {c : List Value} (h : Ow n s v b c) : Gr n s v c := by
  obtain ⟨rfl, h1, h2, h3⟩ := h
  exact .inr ⟨b, c.length, true, [], rfl, h1, h2, by simpa using h3, by simp⟩
theorem Ow.sl {n b : Nat} {s : St} {v : Value} {c : List Value} (h : Ow n s v b c) : Sl s v c := h.gr.sl
theorem Ow.blk {n b : Nat} {s : St} {v : Value} {c : List Value} (h : Ow n s v b c) : Ab.blk v = some b := by
  obtain ⟨rfl, _⟩ := h; rfl
theorem Ow.congr {n b : Nat} {s s' : St} {v : Value} {c : List Value} (h : Ow n s v b c) (hn : s.n ≤ s'.n) (hb : s'.H b = s.H b) : Ow n s' v b c := by
  obtain ⟨rfl, h1, h2, h3⟩ := h
  exact ⟨rfl, h1, by omega, by rw [hb]; exact h3⟩
theorem Ow.ext {n b : Nat} {s s' : St} {v : Value} {c : List Value} (h : Ow n s v b c) (k : Ext s s') : Ow n s' v b c := h.congr k.n (k.H b h.2.2.1)
theorem Ow.chg {n b : Nat} {s s' : St} {v y : Value} {c : List Value} (h : Ow n s v b c) (k : Chg y s s') (hd : Ab.blk y ≠ some b) : Ow n s' v b c := h.congr k.n (k.H b h.2.2.1 hd)
theorem Ow.mono {n m b : Nat} {s : St} {v : Value} {c : List Value} (h : Ow n s v b c) (hm : m ≤ n) : Ow m s v b c := ⟨h.1, by have := h.2.1; omega, h.2.2⟩

section
variable {n : Nat} {s : St} {v : Value} {c : List Value} {K : Value → St → Prop} {bytes : Nat}
theorem Ow.store {i b : Nat} {p x : Value} (h : Ow n s v b c) (hp : aidx 1 v (.int .i64 i) = some p) (hi : i < c.length) (hx : x.oneCell' = true)
    (hk : ∀ s', Ow n s' v b (c.set i x) → Chg v s s' → s'.n = s.n → K undefV (On s')) : astore s 1 p x K := by
  obtain ⟨rfl, h1, h2, h3⟩ := h
  simp only [aidx, Nat.zero_add] at hp
  rw [if_pos (by omega)] at hp
  simp only [Int.toNat_natCast, Nat.mul_one, Option.some.injEq] at hp
  subst hp
  refine astore_cells h3 (ev_one x hx) hx hi (hk _ ⟨by simp, h1, h2, by simp [St.put]⟩ ⟨Nat.le_refl _, ?_⟩ rfl)
  intro b' _ hne
  simp only [St.put]; rw [if_neg (by rintro rfl; exact hne rfl)]

theorem mks_ow {k : Nat} {z : Value} (hk : k ≤ 1099511627776) (hb : bytes ≤ 64)
    (h : ∀ v' s', Ext s s' → Ow s.n s' v' s.n (List.replicate k z) → s'.n = s.n + 1 → K v' (On s')) : bindA (amks (.int .i64 k) (.int .i64 k) 1 bytes [z]) K (On s) := by
  have h2 : ((bytes : Int) * (k : Int)) ≤ 2 ^ 48 := by
    have h1 : bytes * k ≤ 70368744177664 := Nat.mul_le_mul hb hk
    have h2 : ((bytes * k : Nat) : Int) ≤ 70368744177664 := Int.ofNat_le.2 h1
    rw [Int.natCast_mul] at h2
    exact Int.le_trans h2 (by decide)
  simp only [amks]
  rw [if_pos ⟨by omega, by omega, h2, by omega⟩]
  simp only [bindA_some, Int.toNat_natCast, repl_one]
  exact h _ _ (Ext.new _) ⟨by rw [List.length_replicate], Nat.le_refl _, Nat.lt_succ_self _, St.new_self _ _⟩ rfl
end

/-- What stands in a block of the call's own that is no slice's: a variable's, a struct's. -/
def Bx (s : St) (b : Nat) (c : List Value) : Prop := b < s.n ∧ ∃ e, s.H b = some (.cells c e true)
theorem Bx.congr {s s' : St} {b : Nat} {c : List Value} (h : Bx s b c) (hn : s.n ≤ s'.n) (hb : s'.H b = s.H b) : Bx s' b c := ⟨by have := h.1; omega, by rw [hb]; exact h.2⟩
theorem Bx.ext {s s' : St} {b : Nat} {c : List Value} (h : Bx s b c) (k : Ext s s') : Bx s' b c := h.congr k.n (k.H b h.1)
theorem Bx.chg {s s' : St} {v : Value} {b : Nat} {c : List Value} (h : Bx s b c) (k : Chg v s s') (hd : blk v ≠ some b) : Bx s' b c := h.congr k.n (k.H b h.1 hd)
theorem Bx.rd {s : St} {b : Nat} {c : List Value} (h : Bx s b c) (i : Nat) : rd s b i = c[i]? := by
  obtain ⟨_, e, h⟩ := h
  exact rd_cells h i
theorem Bx.rdv {s : St} {b : Nat} {c : List Value} (h : Bx s b c) (i : Nat) : rdv s (.pointer (some ⟨b, i, none⟩)) = c[i]? := h.rd i

/-- A part of it is written. -/
theorem Bx.store {s : St} {b i : Nat} {c : List Value} {x : Value} {K : Value → St → Prop} (h : Bx s b c) (hi : i < c.length) (hx : x.oneCell' = true)
    (hk : ∀ s', Bx s' b (c.set i x) → Chg (.pointer (some ⟨b, i, none⟩)) s s' → s'.n = s.n → K undefV (On s')) : astore s 1 (.pointer (some ⟨b, i, none⟩)) x K := by
  obtain ⟨h1, e, h2⟩ := h
  refine astore_cells h2 (ev_one x hx) hx hi (hk _ ⟨h1, e, by simp [St.put]⟩ ⟨Nat.le_refl _, ?_⟩ rfl)
  intro b' _ hne
  simp only [St.put]; rw [if_neg (by rintro rfl; exact hne rfl)]

/-- A variable that is laid and written at once. -/
theorem alloc_store {s : St} {z x : Value} {n : Nat} {K : Value → St → Prop} (hx : x.oneCell' = true)
    (hk : ∀ s', Ext s s' → Bx s' s.n [x] → s'.H s.n = some (.cells [x] n true) → s'.n = s.n + 1 → K undefV (On s')) :
    astore (s.new (.cells [z] n true)) 1 (.pointer (some ⟨s.n, 0, none⟩)) x K := by
  refine astore_cells (St.new_self _ _) (ev_one x hx) hx (by simp) (hk _ (Ext.put (Ext.new _) (Nat.le_refl _) _) ⟨Nat.lt_succ_self _, n, by simp [St.put]⟩ (by simp [St.put]) rfl)

theorem afaddr_ptr (b o k : Nat) : (match (Value.pointer (some ⟨b, o, none⟩)) with | .pointer (some ⟨b, o, none⟩) => some (Value.pointer (some ⟨b, o + k, none⟩)) | _ => none) = some (.pointer (some ⟨b, o + k, none⟩)) := rfl

end Go.Ab
namespace Go.Ab
open Go
/-- All stays but some blocks. -/
structure Frm (B : Nat → Prop) (s s' : St) : Prop where
  n : s.n ≤ s'.n
  H : ∀ b, b < s.n → ¬ B b → s'.H b = s.H b

theorem Frm.refl (B : Nat → Prop) (s : St) : Frm B s s := ⟨Nat.le_refl _, fun _ _ _ => rfl⟩
theorem Frm.of_ext {B : Nat → Prop} {s s' : St} (h : Ext s s') : Frm B s s' := ⟨h.n, fun b hb _ => h.H b hb⟩
theorem Frm.of_chg {B : Nat → Prop} {v : Value} {s s' : St} (h : Chg v s s') (hB : ∀ b, b < s.n → blk v = some b → B b) : Frm B s s' := ⟨h.n, fun b hb hn => h.H b hb fun e => hn (hB b hb e)⟩
theorem Frm.trans {B C : Nat → Prop} {s s' s'' : St} (h : Frm B s s') (k : Frm C s' s'') (hC : ∀ b, b < s.n → C b → B b) : Frm B s s'' :=
  ⟨Nat.le_trans h.n k.n, fun b hb hn => (k.H b (Nat.lt_of_lt_of_le hb h.n) fun c => hn (hC b hb c)).trans (h.H b hb hn)⟩
theorem Frm.ext {s s' : St} {B : Nat → Prop} (h : Frm B s s') (hB : ∀ b, b < s.n → ¬ B b) : Ext s s' := ⟨h.n, fun b hb => h.H b hb (hB b hb)⟩
theorem Sl.frm {B : Nat → Prop} {s s' : St} {v : Value} {c : List Value} (h : Sl s v c) (k : Frm B s s') (hd : ∀ b, blk v = some b → ¬ B b) : Sl s' v c := h.congr k.n fun b e hb => k.H b hb (hd b e)
theorem Gr.frm {B : Nat → Prop} {n : Nat} {s s' : St} {v : Value} {c : List Value} (h : Gr n s v c) (k : Frm B s s') (hd : ∀ b, Ab.blk v = some b → ¬ B b) : Gr n s' v c := h.congr k.n fun b e hb => k.H b hb (hd b e)
theorem Bx.frm {B : Nat → Prop} {s s' : St} {b : Nat} {c : List Value} (h : Bx s b c) (k : Frm B s s') (hd : ¬ B b) : Bx s' b c := h.congr k.n (k.H b h.1 hd)

theorem put_new (s : St) (o : AObj) : (St.mk s.H (s.n + 1)).put s.n o = s.new o := rfl
theorem faddr_ptr (t : Env) (x : Operand) (b o k : Nat) (h : ev t x = .pointer (some ⟨b, o, none⟩)) : apure t (.faddr x k) = some (.pointer (some ⟨b, o + k, none⟩)) := by
  simp only [apure, h]

theorem range_step {α : Type} (f : Nat → α) {N i : Nat} (z : α) (hi : i < N) : (((List.range i).map f) ++ List.replicate (N - i) z).set i (f i) = ((List.range (i + 1)).map f) ++ List.replicate (N - (i + 1)) z := by
  have e : N - i = (N - (i + 1)) + 1 := by omega
  rw [List.set_append_right _ _ (by simp), e, List.replicate_succ]
  simp [List.range_succ]
end Go.Ab
