/- Slices in the small machine: what stands in one, one that grows, what stays as it was. -/
import Derived.Test.YtdhiacdfblakcaaAbZ
namespace Go.Ab
open Go

/-- What a load of one cell gives. -/
def rd (s : St) (b k : Nat) : Option Value := match (s.H b).bind readable with | some c => c[k]? | none => none

def rdv (s : St) : Value → Option Value
  | .pointer (some ⟨b, o, none⟩) => rd s b o
  | _ => none

theorem aread_load1 (t : Env) (s : St) (x : Operand) : aread t s (.load x 1 false) = rdv s (ev t x) := by
  simp only [aread]
  unfold rdv
  split
  · rename_i b o h
    rw [h]
    simp only [rd]
    cases (s.H b).bind readable <;> rfl
  · rename_i h1
    split
    · rename_i b o h2
      exact absurd h2 (h1 b o)
    · rfl

theorem rdv_ptr (s : St) (b o : Nat) : rdv s (.pointer (some ⟨b, o, none⟩)) = rd s b o := rfl

theorem rd_cells {s : St} {b e : Nat} {c : List Value} {x : Bool} (h : s.H b = some (.cells c e x)) (k : Nat) : rd s b k = c[k]? := by simp [rd, h, readable]
theorem rd_ro {s : St} {b e : Nat} {c : List Value} (h : s.H b = some (.ro c e)) (k : Nat) : rd s b k = c[k]? := by simp [rd, h, readable]

theorem rd_congr {s s' : St} {b : Nat} (h : s'.H b = s.H b) (k : Nat) : rd s' b k = rd s b k := by simp [rd, h]

/-! What single operations come to, of values. -/
def alen : Value → Option Value | .slice _ n _ => some (.int .i64 n) | _ => none
theorem alen_slice (a : Option Addr) (n c : Nat) : alen (.slice a n c) = some (.int .i64 n) := rfl
def alenS : Value → Option Value | .string s => some (.int .i64 s.size) | _ => none
theorem alenS_string (s : ByteArray) : alenS (.string s) = some (.int .i64 s.size) := rfl
def aidx (e : Nat) (x i : Value) : Option Value := match x, i with
  | .slice (some ⟨b, o, none⟩) len _, .int _ i => if 0 ≤ i ∧ i < (len : Int) then some (.pointer (some ⟨b, o + i.toNat * e, none⟩)) else none
  | _, _ => none
def aidxAr (n e : Nat) (x i : Value) : Option Value := match x, i with
  | .pointer (some ⟨b, o, none⟩), .int _ i => if 0 ≤ i ∧ i < (n : Int) then some (.pointer (some ⟨b, o + i.toNat * e, none⟩)) else none
  | _, _ => none
def aslc (s : St) (e : Nat) (x : Value) (lo hi mx : Option Value) : Option Value := match x with
  | .slice (some ⟨b, o, none⟩) len cap =>
    match abounds len cap lo hi mx with
    | some (l, h, m) => if m = 0 ∨ (s.H b).bind objEsz = some e then some (.slice (some ⟨b, o + l * e, none⟩) (h - l) (m - l)) else none
    | none => none
  | .slice none _ _ => (abounds 0 0 lo hi mx).map fun _ => .slice none 0 0
  | _ => none
theorem aread_slc (t : Env) (s : St) (x : Operand) (a b c : Option Operand) (e : Nat) : aread t s (.slc x a b c e) = aslc s e (ev t x) (a.map (ev t)) (b.map (ev t)) (c.map (ev t)) := rfl
def aext (x : Value) (i : Nat) : Option Value := match x with | .tuple vs => vs.toList[i]? | _ => none
theorem aext_zero (a : Value) (l : List Value) : aext (.tuple (List.toArray (a :: l))) 0 = some a := rfl
theorem aext_succ (a : Value) (l : List Value) (n : Nat) : aext (.tuple (List.toArray (a :: l))) (n + 1) = aext (.tuple (List.toArray l)) n := rfl
def aconv (k : IntKind) : Value → Option Value | .int _ n => some (.int k (k.wrap n)) | _ => none
theorem aconv_int (k j : IntKind) (n : Int) : aconv k (.int j n) = some (.int k (k.wrap n)) := rfl
def achk : Value → Option Value | .pointer (some a) => some (.pointer (some a)) | _ => none
theorem achk_ptr (a : Addr) : achk (.pointer (some a)) = some (.pointer (some a)) := rfl
def apickV (c a b : Value) : Option Value := match c with | .bool c => some (if c then a else b) | _ => none
theorem apickV_true (a b : Value) : apickV (.bool true) a b = some a := rfl
theorem apickV_false (a b : Value) : apickV (.bool false) a b = some b := rfl
theorem apickV_or (p : Bool) (b : Bool) : apickV (.bool p) (.bool true) (.bool b) = some (.bool (p || b)) := by cases p <;> rfl
theorem apickV_and (p : Bool) (b : Bool) : apickV (.bool p) (.bool b) (.bool false) = some (.bool (p && b)) := by cases p <;> rfl
def amks (n c : Value) (esz bytes : Nat) (zero : List Value) : Option (AObj × (Nat → Value)) := match n, c with
  | .int _ n, .int _ c =>
    if 0 ≤ n ∧ n ≤ c ∧ (bytes : Int) * c ≤ 2 ^ 48 ∧ c ≤ 9223372036854775807 then some (.cells (repl c.toNat zero) esz true, fun b => .slice (some ⟨b, 0, none⟩) n.toNat c.toNat) else none
  | _, _ => none
def absl (len esz : Nat) (zero : List Value) (parts : List (Nat × Nat × Value)) : Option (AObj × (Nat → Value)) :=
  (afill (repl len zero) parts).map fun c => (.cells c esz true, fun b => .slice (some ⟨b, 0, none⟩) len len)

/-- All that stood stays as it was. -/
structure Ext (s s' : St) : Prop where
  n : s.n ≤ s'.n
  H : ∀ b, b < s.n → s'.H b = s.H b

theorem Ext.refl (s : St) : Ext s s := ⟨Nat.le_refl _, fun _ _ => rfl⟩
theorem Ext.trans {s s' s'' : St} (h : Ext s s') (k : Ext s' s'') : Ext s s'' := ⟨Nat.le_trans h.n k.n, fun b hb => (k.H b (Nat.lt_of_lt_of_le hb h.n)).trans (h.H b hb)⟩
theorem Ext.new {s : St} (o : AObj) : Ext s (s.new o) := ⟨by simp [St.new], fun b hb => by simp only [St.new]; rw [if_neg (by omega)]⟩
theorem Ext.put {s s' : St} {b : Nat} (h : Ext s s') (hb : s.n ≤ b) (o : AObj) : Ext s (s'.put b o) := ⟨h.n, fun i hi => by simp only [St.put]; rw [if_neg (by omega)]; exact h.H i hi⟩
theorem Ext.kill {s s' : St} {b : Nat} (h : Ext s s') (hb : s.n ≤ b) : Ext s (s'.kill b) := ⟨h.n, fun i hi => by simp only [St.kill]; rw [if_neg (by omega)]; exact h.H i hi⟩
theorem Ext.add {s : St} {b m : Nat} (hb : s.n ≤ b) (hm : s.n ≤ m) (o : AObj) : Ext s (s.add b o m) := ⟨hm, fun i hi => by simp only [St.add]; rw [if_neg (by omega)]⟩
theorem Ext.more {s : St} {m : Nat} : Ext s ⟨s.H, s.n + m⟩ := ⟨by simp, fun _ _ => rfl⟩

/-- Where a slice lies. -/
def blk : Value → Option Nat
  | .slice (some ⟨b, _, _⟩) _ _ => some b
  | .pointer (some ⟨b, _, _⟩) => some b
  | _ => none

/-- All stays but one block. -/
structure Chg (v : Value) (s s' : St) : Prop where
  n : s.n ≤ s'.n
  H : ∀ b, b < s.n → blk v ≠ some b → s'.H b = s.H b

theorem Chg.refl (v : Value) (s : St) : Chg v s s := ⟨Nat.le_refl _, fun _ _ _ => rfl⟩
theorem Chg.of_ext {v : Value} {s s' : St} (h : Ext s s') : Chg v s s' := ⟨h.n, fun b hb _ => h.H b hb⟩
theorem Ext.chg' {v : Value} {s₀ s s' : St} (h : Ext s₀ s) (c : Chg v s s') (hv : ∀ b, blk v = some b → s₀.n ≤ b) : Ext s₀ s' :=
  ⟨Nat.le_trans h.n c.n, fun b hb => (c.H b (Nat.lt_of_lt_of_le hb h.n) fun e => by have := hv b e; omega).trans (h.H b hb)⟩

/-- A slice, and what stands in it (elements of one cell). -/
def Sl (s : St) (v : Value) (c : List Value) : Prop :=
  (v = .slice none 0 0 ∧ c = []) ∨ ∃ b o cap, v = .slice (some ⟨b, o, none⟩) c.length cap ∧ c.length ≤ cap ∧ (cap = 0 ∨ (b < s.n ∧ (s.H b).bind objEsz = some 1)) ∧
    ∀ (i : Nat) (h : i < c.length), rd s b (o + i) = some c[i]

theorem Sl.congr {s s' : St} {v : Value} {c : List Value} (h : Sl s v c) (hn : s.n ≤ s'.n) (hb : ∀ b, blk v = some b → b < s.n → s'.H b = s.H b) : Sl s' v c := by
  rcases h with ⟨rfl, rfl⟩ | ⟨b, o, cap, rfl, hc, he, hr⟩
  · exact .inl ⟨rfl, rfl⟩
  · rcases he with h0 | ⟨hlt, he⟩
    · exact .inr ⟨b, o, cap, rfl, hc, .inl h0, fun i hi => absurd hi (by omega)⟩
    · have hbb := hb b rfl hlt
      exact .inr ⟨b, o, cap, rfl, hc, .inr ⟨by omega, by rw [hbb]; exact he⟩, fun i hi => by rw [rd_congr hbb]; exact hr i hi⟩

theorem Sl.ext {s s' : St} {v : Value} {c : List Value} (h : Sl s v c) (k : Ext s s') : Sl s' v c := h.congr k.n fun b _ hb => k.H b hb
theorem Sl.chg {s s' : St} {v y : Value} {c : List Value} (h : Sl s y c) (k : Chg v s s') (hd : blk v = none ∨ blk y ≠ blk v) : Sl s' y c := h.congr k.n fun b e hb => k.H b hb fun e' => by
  rcases hd with h | h
  · rw [h] at e'; cases e'
  · exact h (by rw [e, e'])

theorem Sl.nil (s : St) : Sl s (.slice none 0 0) [] := .inl ⟨rfl, rfl⟩

theorem Sl.len {s : St} {v : Value} {c : List Value} (h : Sl s v c) : alen v = some (.int .i64 (c.length : Nat)) := by
  rcases h with ⟨rfl, rfl⟩ | ⟨b, o, cap, rfl, _⟩ <;> rfl

theorem Sl.isSlice {s : St} {v : Value} {c : List Value} (h : Sl s v c) : isSlice v = true := by
  rcases h with ⟨rfl, rfl⟩ | ⟨b, o, cap, rfl, _⟩ <;> rfl

/-- An element: where it lies, and what it is. -/
theorem Sl.elem {s : St} {v : Value} {c : List Value} (h : Sl s v c) {i : Nat} (hi : i < c.length) : ∃ p, aidx 1 v (.int .i64 i) = some p ∧ rdv s p = some c[i] := by
  rcases h with ⟨rfl, rfl⟩ | ⟨b, o, cap, rfl, hc, he, hr⟩
  · simp at hi
  · refine ⟨.pointer (some ⟨b, o + i, none⟩), ?_, ?_⟩
    · simp only [aidx]
      rw [if_pos (by omega)]; simp
    · rw [rdv_ptr]; exact hr i hi

/-- What is seen of a slice. -/
theorem Sl.seen {s : St} {v : Value} {c : List Value} (h : Sl s v c) : seen s 1 v = some (c.length, c) := by
  rcases h with ⟨rfl, rfl⟩ | ⟨b, o, cap, rfl, hc, he, hr⟩
  · rfl
  · simp only [Ab.seen]
    by_cases h0 : c.length = 0
    · rw [if_pos h0]
      have : c = [] := List.length_eq_zero_iff.1 h0
      subst this; rfl
    · rw [if_neg h0]
      have h0 := hr (c.length - 1) (by omega)
      unfold rd at h0
      split at h0
      · rename_i cs hcs
        rw [hcs]
        have hlt := (List.getElem?_eq_some_iff.1 h0).1
        simp only [Nat.mul_one]
        rw [if_pos (by omega)]
        congr 2
        apply List.ext_getElem?
        intro i
        rw [List.getElem?_take]
        by_cases hi : i < c.length
        · rw [if_pos hi, List.getElem?_drop]
          have := hr i hi
          unfold rd at this
          rw [hcs] at this
          simp only at this
          rw [this, List.getElem?_eq_getElem hi]
        · rw [if_neg hi, List.getElem?_eq_none (by omega)]
      · cases h0

/-- A part of a slice: v[lo:hi]. -/
theorem Sl.slc {s : St} {v : Value} {c : List Value} (h : Sl s v c) {lo hi : Nat} (h1 : lo ≤ hi) (h2 : hi ≤ c.length) :
    ∃ v', aslc s 1 v (some (.int .i64 lo)) (some (.int .i64 hi)) none = some v' ∧ Sl s v' ((c.take hi).drop lo) ∧ (blk v' = blk v) := by
  rcases h with ⟨rfl, rfl⟩ | ⟨b, o, cap, rfl, hc, he, hr⟩
  · simp at h2
    have : lo = 0 := by omega
    subst this; subst h2
    exact ⟨.slice none 0 0, by simp [aslc, abounds, abound], .inl ⟨rfl, by simp⟩, rfl⟩
  · have hab : abounds c.length cap (some (.int .i64 lo)) (some (.int .i64 hi)) none = some (lo, hi, cap) := by
      simp only [abounds, abound, Option.isNone_some, Bool.false_and]
      rw [if_neg (by simp), if_pos (by omega)]
      simp only [Int.toNat_natCast]
      rw [if_pos (by omega)]
    have hl : ((c.take hi).drop lo).length = hi - lo := by simp; omega
    have hcond : cap = 0 ∨ (s.H b).bind objEsz = some 1 := he.imp id And.right
    refine ⟨.slice (some ⟨b, o + lo, none⟩) (hi - lo) (cap - lo), by simp only [aslc, hab, if_pos hcond, Nat.mul_one], .inr ⟨b, o + lo, cap - lo, by rw [hl], by omega, he.imp (by omega) id, fun i hi' => ?_⟩, rfl⟩
    rw [Nat.add_assoc, hr (lo + i) (by omega)]
    simp

theorem Sl.slcTo {s : St} {v : Value} {c : List Value} (h : Sl s v c) {hi : Nat} (h2 : hi ≤ c.length) :
    ∃ v', aslc s 1 v none (some (.int .i64 hi)) none = some v' ∧ Sl s v' (c.take hi) ∧ (blk v' = blk v) := by
  obtain ⟨v', e, h', hb⟩ := h.slc (Nat.zero_le hi) h2
  refine ⟨v', ?_, by simpa using h', hb⟩
  rw [← e]
  rcases h with ⟨rfl, rfl⟩ | ⟨b, o, cap, rfl, hc, he, hr⟩ <;> simp [aslc, abounds, abound]

theorem Sl.slcFrom {s : St} {v : Value} {c : List Value} (h : Sl s v c) {lo : Nat} (h2 : lo ≤ c.length) :
    ∃ v', aslc s 1 v (some (.int .i64 lo)) none none = some v' ∧ Sl s v' (c.drop lo) ∧ (blk v' = blk v) := by
  obtain ⟨v', e, h', hb⟩ := h.slc h2 (Nat.le_refl _)
  refine ⟨v', ?_, by simpa using h', hb⟩
  rw [← e]
  rcases h with ⟨rfl, rfl⟩ | ⟨b, o, cap, rfl, hc, he, hr⟩
  · simp [aslc, abounds, abound]
  · simp only [aslc, abounds, abound, Option.isNone_none, Option.isSome_none, Option.isNone_some, Bool.and_false, Bool.false_and]
    have : (0 : Int) ≤ (c.length : Nat) ∧ ((c.length : Nat) : Int) ≤ (cap : Nat) := by omega
    simp [this]

/-- 'v[:0:0]': what a copy begins with. -/
theorem Sl.slc00 {s : St} {v : Value} {c : List Value} (h : Sl s v c) : ∃ v', aslc s 1 v none (some (.int .i64 0)) (some (.int .i64 0)) = some v' ∧ (v' = .slice none 0 0 ∨ ∃ b o, v' = .slice (some ⟨b, o, none⟩) 0 0 ∧ blk v = some b) := by
  rcases h with ⟨rfl, rfl⟩ | ⟨b, o, cap, rfl, hc, he, hr⟩
  · exact ⟨.slice none 0 0, by simp [aslc, abounds, abound], .inl rfl⟩
  · refine ⟨.slice (some ⟨b, o, none⟩) 0 0, ?_, .inr ⟨b, o, rfl, rfl⟩⟩
    simp [aslc, abounds, abound]

/-- A slice of the call's own that may grow: what stands in it; n: blocks from there on are its. -/
def Gr (n : Nat) (s : St) (v : Value) (c : List Value) : Prop :=
  (v = .slice none 0 0 ∧ c = []) ∨ ∃ b cap x r, v = .slice (some ⟨b, 0, none⟩) c.length cap ∧ n ≤ b ∧ b < s.n ∧ s.H b = some (.cells (c ++ r) 1 x) ∧ cap = c.length + r.length

theorem Gr.nil (n : Nat) (s : St) : Gr n s (.slice none 0 0) [] := .inl ⟨rfl, rfl⟩

theorem Gr.sl {n : Nat} {s : St} {v : Value} {c : List Value} (h : Gr n s v c) : Sl s v c := by
  rcases h with ⟨rfl, rfl⟩ | ⟨b, cap, x, r, rfl, h1, h2, h3, rfl⟩
  · exact Sl.nil s
  · refine .inr ⟨b, 0, _, rfl, by omega, .inr ⟨h2, by rw [h3]; rfl⟩, fun i hi => ?_⟩
    rw [rd_cells h3, Nat.zero_add, List.getElem?_append_left hi, List.getElem?_eq_getElem hi]

theorem Gr.blk {n : Nat} {s : St} {v : Value} {c : List Value} (h : Gr n s v c) : ∀ b, blk v = some b → n ≤ b ∧ b < s.n := by
  rcases h with ⟨rfl, rfl⟩ | ⟨b, cap, x, r, rfl, h1, h2, h3, rfl⟩
  · intro b hb; cases hb
  · intro b' hb; cases hb; exact ⟨h1, h2⟩

theorem Gr.mono {n m : Nat} {s : St} {v : Value} {c : List Value} (h : Gr n s v c) (hm : m ≤ n) : Gr m s v c := by
  rcases h with h | ⟨b, cap, x, r, rfl, h1, h2, h3, rfl⟩
  · exact .inl h
  · exact .inr ⟨b, _, x, r, rfl, by omega, h2, h3, rfl⟩

theorem Gr.congr {n : Nat} {s s' : St} {v : Value} {c : List Value} (h : Gr n s v c) (hn : s.n ≤ s'.n) (hb : ∀ b, Ab.blk v = some b → b < s.n → s'.H b = s.H b) : Gr n s' v c := by
  rcases h with h | ⟨b, cap, x, r, rfl, h1, h2, h3, rfl⟩
  · exact .inl h
  · exact .inr ⟨b, _, x, r, rfl, h1, by omega, by rw [hb b rfl h2]; exact h3, rfl⟩

theorem Gr.ext {n : Nat} {s s' : St} {v : Value} {c : List Value} (h : Gr n s v c) (k : Ext s s') : Gr n s' v c := h.congr k.n fun b _ hb => k.H b hb
theorem Gr.chg {n : Nat} {s s' : St} {v y : Value} {c : List Value} (h : Gr n s y c) (k : Chg v s s') (hd : Ab.blk v = none ∨ Ab.blk y ≠ Ab.blk v) : Gr n s' y c := h.congr k.n fun b e hb => k.H b hb fun e' => by
  rcases hd with h | h
  · rw [h] at e'; cases e'
  · exact h (by rw [e, e'])

theorem Ext.chg {n : Nat} {v : Value} {c : List Value} {s₀ s s' : St} (h : Ext s₀ s) (k : Chg v s s') (hg : Gr n s v c) (hn : s₀.n ≤ n) : Ext s₀ s' :=
  h.chg' k fun b e => Nat.le_trans hn (hg.blk b e).1

theorem setR_here (a : List Value) (src r : List Value) (h : src.length ≤ r.length) : setR (a ++ r) a.length src = a ++ src ++ r.drop src.length := by
  induction src generalizing a r with
  | nil => simp [setR]
  | cons v vs ih =>
    cases r with
    | nil => simp at h
    | cons x r =>
      simp only [setR]
      have : (a ++ x :: r).set a.length v = (a ++ [v]) ++ r := by simp
      rw [this]
      have h2 := ih (a ++ [v]) r (by simpa using h)
      simp only [List.length_append, List.length_cons, List.length_nil, Nat.zero_add] at h2
      rw [h2]
      simp

/-- An append of some elements. -/
theorem Gr.app0 {n : Nat} {s : St} {v y : Value} {c src : List Value} {K : Value → St → Prop} {bytes : Nat} (h : Gr n s v c) (hn : n ≤ s.n) (hy : Ab.seen s 1 y = some (src.length, src)) (hcell : src.all (·.oneCell') = true)
    (hb : bytes ≤ 64) (hlen : c.length + src.length ≤ 1099511627776)
    (hk : ∀ v' s', Gr n s' v' (c ++ src) → Chg v s s' → (Ab.blk v' = Ab.blk v ∨ ∀ b, Ab.blk v' = some b → s.n ≤ b) → K v' s') : aapp s 1 bytes v y K := by
  have hbig : ∀ m, m ≤ 1099511627776 → m * bytes ≤ 140737488355328 := fun m hm => Nat.le_trans (Nat.mul_le_mul hm hb) (by decide)
  unfold aapp
  rw [hy]
  simp only
  by_cases h0 : src.length = 0
  · rw [if_pos h0]
    have : src = [] := List.length_eq_zero_iff.1 h0
    subst this
    refine ⟨?_, hk v s (by simpa using h) (Chg.refl _ _) (.inl rfl)⟩
    rcases h with ⟨rfl, rfl⟩ | ⟨b, cap, x, r, rfl, h1, h2, h3, rfl⟩ <;> rfl
  · rw [if_neg h0]
    rcases h with ⟨rfl, rfl⟩ | ⟨b, cap, x, r, rfl, h1, h2, h3, rfl⟩
    · simp only
      refine ⟨hbig _ (by omega), by omega, hk _ _ (.inr ⟨s.n, src.length, false, [], by simp, hn, by simp [St.new], by simp [St.new], by simp⟩) (.of_ext (.new _)) (.inr fun b hb => by cases hb; omega)⟩
    · simp only [h3, Nat.mul_one, Nat.zero_add, List.length_append]
      refine ⟨trivial, by omega, by omega, hcell, ?_⟩
      by_cases hr : c.length + src.length ≤ c.length + r.length
      · rw [if_pos hr, setR_here c src r (by omega)]
        refine hk _ _ (.inr ⟨b, c.length + r.length, x, r.drop src.length, by simp, h1, h2, by simp [St.put], by simp; omega⟩) ⟨Nat.le_refl _, ?_⟩ (.inl rfl)
        intro b' hb' hne
        simp only [St.put]; rw [if_neg (by rintro rfl; exact hne rfl)]
      · rw [if_neg hr]
        refine ⟨hbig _ (by omega), by omega, ?_⟩
        have ht : (List.drop 0 (c ++ r)).take c.length = c := by simp
        rw [ht]
        split
        · refine hk _ _ (.inr ⟨s.n, c.length + src.length, false, [], by simp, hn, by simp [St.new], by simp [St.new], by simp⟩) (.of_ext (.new _)) (.inr fun b hb => by cases hb; omega)
        · refine hk _ _ (.inr ⟨s.n, c.length + src.length, false, [], by simp, hn, by simp [St.new, St.kill], by simp [St.new, St.kill], by simp⟩) ⟨by simp [St.new, St.kill], ?_⟩ (.inr fun b hb => by cases hb; omega)
          intro b' hb' hne
          have e1 : b' ≠ b := by rintro rfl; exact hne rfl
          have e2 : b' ≠ s.n := by omega
          simp only [St.new, St.kill, if_neg e1, if_neg e2]

/-- A store into a block of cells. -/
theorem astore_cells {s : St} {b o e : Nat} {c : List Value} {x : Bool} {v : Value} {K : Value → St → Prop} (hb : s.H b = some (.cells c e x)) (hv : v.cells.toList = [v]) (h1 : v.oneCell' = true) (ho : o < c.length)
    (hk : K undefV (s.put b (.cells (c.set o v) e x))) : astore s 1 (.pointer (some ⟨b, o, none⟩)) v K := by
  unfold astore
  simp only [hb, hv, List.length_singleton, List.all_cons, List.all_nil, Bool.and_true, h1, true_and]
  exact ⟨by omega, by simpa [setR] using hk⟩

theorem seen_new {s : St} {c : List Value} {x : Bool} : seen (s.new (.cells c 1 x)) 1 (.slice (some ⟨s.n, 0, none⟩) c.length c.length) = some (c.length, c) := by
  simp only [seen]
  split
  · rename_i h
    have : c = [] := List.length_eq_zero_iff.1 h
    subst this; rfl
  · simp [St.new, readable]

end Go.Ab
