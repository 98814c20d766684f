/- A run of the small machine at known inputs: Lean's kernel reckons it. -/
import Derived.Test.YtdhiacdfblakcaaAbR
namespace Go.Ab
open Go

noncomputable section

/-- A binary tree of what stands at numbers. -/
inductive Tr (α : Type) where
  | nil
  | node (v : Option α) (l r : Tr α)

def bsel {β : Type} (f t : β) (c : Bool) : β := Bool.casesOn (motive := fun _ => β) c f t

def Tr.get {α : Type} (t : Tr α) : Nat → Option α :=
  Tr.rec (motive := fun _ => Nat → Option α) (fun _ => none) (fun v _ _ gl gr i => Nat.rec (motive := fun _ => Option α) v (fun j _ => bsel (gr (Nat.div j 2)) (gl (Nat.div j 2)) (Nat.beq (Nat.mod j 2) 0)) i) t

/-- k: how deep at the most. -/
def Tr.set {α : Type} (k : Nat) : Tr α → Nat → Option α → Tr α :=
  Nat.rec (motive := fun _ => Tr α → Nat → Option α → Tr α) (fun t _ _ => t)
    (fun _ ih t i x => Tr.casesOn (motive := fun _ => Tr α) t
      (Nat.rec (motive := fun _ => Tr α) (.node x .nil .nil) (fun j _ => bsel (.node none .nil (ih .nil (Nat.div j 2) x)) (.node none (ih .nil (Nat.div j 2) x) .nil) (Nat.beq (Nat.mod j 2) 0)) i)
      (fun v l r => Nat.rec (motive := fun _ => Tr α) (.node x l r) (fun j _ => bsel (.node v l (ih r (Nat.div j 2) x)) (.node v (ih l (Nat.div j 2) x) r) (Nat.beq (Nat.mod j 2) 0)) i)) k

theorem Tr.get_nil {α : Type} (i : Nat) : (Tr.nil : Tr α).get i = none := rfl

theorem Tr.par {β : Type} (i : Nat) (a b c : β) (f : Nat → β) (g : Nat → β) (hf : b = f ((i - 1) / 2)) (hg : c = g ((i - 1) / 2)) :
    (Nat.rec (motive := fun _ => β) a (fun j _ => bsel (g (Nat.div j 2)) (f (Nat.div j 2)) (Nat.beq (Nat.mod j 2) 0)) i : β) = if i = 0 then a else if i % 2 = 1 then b else c := by
  subst hf; subst hg
  cases i with
  | zero => rfl
  | succ j =>
    rw [if_neg (by omega)]
    show bsel (g (j / 2)) (f (j / 2)) (Nat.beq (j % 2) 0) = _
    have e : (j + 1 - 1) / 2 = j / 2 := by simp
    rw [e]
    by_cases h : j % 2 = 0
    · rw [h, if_pos (by omega)]; rfl
    · have : j % 2 = 1 := by omega
      rw [this, if_neg (by omega)]; rfl

theorem Tr.get_node {α : Type} (v : Option α) (l r : Tr α) (i : Nat) : (Tr.node v l r).get i = if i = 0 then v else if i % 2 = 1 then l.get ((i - 1) / 2) else r.get ((i - 1) / 2) :=
  Tr.par i v _ _ l.get r.get rfl rfl

theorem Tr.set_succ {α : Type} (k : Nat) (t : Tr α) (i : Nat) (x : Option α) : Tr.set (k + 1) t i x =
    match t with
    | .nil => if i = 0 then .node x .nil .nil else if i % 2 = 1 then .node none (Tr.set k .nil ((i - 1) / 2) x) .nil else .node none .nil (Tr.set k .nil ((i - 1) / 2) x)
    | .node v l r => if i = 0 then .node x l r else if i % 2 = 1 then .node v (Tr.set k l ((i - 1) / 2) x) r else .node v l (Tr.set k r ((i - 1) / 2) x) := by
  cases t with
  | nil => exact Tr.par (β := Tr α) i _ _ _ (fun n => Tr.node none (Tr.set k .nil n x) .nil) (fun n => Tr.node none .nil (Tr.set k .nil n x)) rfl rfl
  | node v l r => exact Tr.par (β := Tr α) i _ _ _ (fun n => Tr.node v (Tr.set k l n x) r) (fun n => Tr.node v l (Tr.set k r n x)) rfl rfl

theorem Tr.get_set {α : Type} : ∀ (k : Nat) (t : Tr α) (i : Nat) (x : Option α) (j : Nat), i < 2 ^ k - 1 → (Tr.set k t i x).get j = if j = i then x else t.get j
  | 0, t, i, x, j, h => by simp at h
  | k + 1, t, i, x, j, h => by
    have ih := fun (u : Tr α) (i' j' : Nat) (hi : i' < 2 ^ k - 1) => Tr.get_set k u i' x j' hi
    have hb : ∀ i', i' = (i - 1) / 2 → i ≠ 0 → i' < 2 ^ k - 1 := by
      intro i' e h0
      have : 2 ^ (k + 1) = 2 * 2 ^ k := by rw [Nat.pow_succ, Nat.mul_comm]
      omega
    rw [Tr.set_succ]
    cases t with
    | nil =>
      by_cases h0 : i = 0
      · subst h0
        simp only [if_true, Tr.get_node, Tr.get_nil]
        by_cases hj : j = 0 <;> simp [hj]
      · simp only [if_neg h0]
        by_cases h2 : i % 2 = 1
        · simp only [if_pos h2, Tr.get_node, Tr.get_nil]
          by_cases hj : j = 0
          · subst hj; simp [Ne.symm h0]
          · simp only [if_neg hj]
            by_cases hj2 : j % 2 = 1
            · simp only [if_pos hj2]
              rw [ih _ _ _ (hb _ rfl h0), Tr.get_nil]
              by_cases e : j = i
              · subst e; simp
              · rw [if_neg e, if_neg (by omega)]
            · simp only [if_neg hj2]
              rw [if_neg (by rintro rfl; exact hj2 h2)]
        · simp only [if_neg h2, Tr.get_node, Tr.get_nil]
          by_cases hj : j = 0
          · subst hj; simp [Ne.symm h0]
          · simp only [if_neg hj]
            by_cases hj2 : j % 2 = 1
            · simp only [if_pos hj2]
              rw [if_neg (by rintro rfl; exact h2 hj2)]
            · simp only [if_neg hj2]
              rw [ih _ _ _ (hb _ rfl h0), Tr.get_nil]
              by_cases e : j = i
              · subst e; simp
              · rw [if_neg e, if_neg (by omega)]
    | node v l r =>
      by_cases h0 : i = 0
      · subst h0
        simp only [if_true, Tr.get_node]
        by_cases hj : j = 0 <;> simp [hj]
      · simp only [if_neg h0]
        by_cases h2 : i % 2 = 1
        · simp only [if_pos h2, Tr.get_node]
          by_cases hj : j = 0
          · subst hj; simp [Ne.symm h0]
          · simp only [if_neg hj]
            by_cases hj2 : j % 2 = 1
            · simp only [if_pos hj2]
              rw [ih _ _ _ (hb _ rfl h0)]
              by_cases e : j = i
              · subst e; simp
              · rw [if_neg e, if_neg (by omega)]
            · simp only [if_neg hj2]
              rw [if_neg (by rintro rfl; exact hj2 h2)]
        · simp only [if_neg h2, Tr.get_node]
          by_cases hj : j = 0
          · subst hj; simp [Ne.symm h0]
          · simp only [if_neg hj]
            by_cases hj2 : j % 2 = 1
            · simp only [if_pos hj2]
              rw [if_neg (by rintro rfl; exact h2 hj2)]
            · simp only [if_neg hj2]
              rw [ih _ _ _ (hb _ rfl h0)]
              by_cases e : j = i
              · subst e; simp
              · rw [if_neg e, if_neg (by omega)]

/-- Slots and blocks as trees: up to 2^10 slots, 2^24 blocks. -/
abbrev XE := Tr Value
structure XS where
  h : Tr AObj
  n : Nat

def XE.fn (e : XE) : Env := fun i => (Tr.get e i).getD undefV
def XS.st (s : XS) : St := ⟨s.h.get, s.n⟩

def XE.put (e : XE) (d : Nat) (v : Value) : Option XE := match Nat.ble 1000 d with | true => none | false => some (Tr.set 10 e d (some v))
def XS.put (s : XS) (b : Nat) (o : Option AObj) : Option XS := match Nat.ble 16000000 b with | true => none | false => some ⟨Tr.set 24 s.h b o, s.n⟩
def XS.new (s : XS) (o : AObj) : Option XS := match Nat.ble 16000000 s.n with | true => none | false => some ⟨Tr.set 24 s.h s.n (some o), Nat.succ s.n⟩

theorem XE.put_fn {e e' : XE} {d : Nat} {v : Value} (h : e.put d v = some e') : e'.fn = upd e.fn d v := by
  unfold XE.put at h
  split at h
  · cases h
  · rename_i hb
    cases h
    have hlt : d < 1000 := by
      have := Nat.ble_eq (x := 1000) (y := d)
      rw [hb] at this
      simp at this; omega
    funext i
    simp only [XE.fn, upd]
    rw [Tr.get_set 10 e d (some v) i (by omega)]
    by_cases e : i = d <;> simp [e]

theorem XS.put_st {s s' : XS} {b : Nat} {o : AObj} (h : s.put b (some o) = some s') : s'.st = s.st.put b o := by
  unfold XS.put at h
  split at h
  · cases h
  · rename_i hb
    cases h
    have hlt : b < 16000000 := by
      have := Nat.ble_eq (x := 16000000) (y := b)
      rw [hb] at this
      simp at this; omega
    simp only [XS.st, St.put, St.mk.injEq, and_true]
    funext i
    exact Tr.get_set 24 s.h b (some o) i (by omega)

theorem XS.kill_st {s s' : XS} {b : Nat} (h : s.put b none = some s') : s'.st = s.st.kill b := by
  unfold XS.put at h
  split at h
  · cases h
  · rename_i hb
    cases h
    have hlt : b < 16000000 := by
      have := Nat.ble_eq (x := 16000000) (y := b)
      rw [hb] at this
      simp at this; omega
    simp only [XS.st, St.kill, St.mk.injEq, and_true]
    funext i
    exact Tr.get_set 24 s.h b none i (by omega)

theorem XS.new_st {s s' : XS} {o : AObj} (h : s.new o = some s') : s'.st = s.st.new o := by
  unfold XS.new at h
  split at h
  · cases h
  · rename_i hb
    cases h
    have hlt : s.n < 16000000 := by
      have := Nat.ble_eq (x := 16000000) (y := s.n)
      rw [hb] at this
      simp at this; omega
    simp only [XS.st, St.new, St.mk.injEq, and_true]
    funext i
    exact Tr.get_set 24 s.h s.n (some o) i (by omega)

theorem XS.put_n {s s' : XS} {b : Nat} {o : Option AObj} (h : s.put b o = some s') : s'.n = s.n := by
  unfold XS.put at h
  split at h <;> cases h; rfl

def xputO (e : XE) : Option Nat → Value → Option XE
  | none, _ => some e
  | some d, v => e.put d v

theorem xputO_fn {e e' : XE} {d : Option Nat} {v : Value} (h : xputO e d v = some e') : e'.fn = putO e.fn d v := by
  cases d with
  | none => cases h; rfl
  | some d => exact XE.put_fn h

/-- Stores, append, copy. -/
def xstore (s : XS) (size : Nat) (x v : Value) : Option (Value × XS) :=
  match x with
  | .pointer (some ⟨b, o, none⟩) => match s.h.get b with
    | some (.cells c e ex) => if v.cells.toList.length = size ∧ v.cells.toList.all (·.oneCell') = true ∧ o + size ≤ c.length then (s.put b (some (.cells (setR c o v.cells.toList) e ex))).map (undefV, ·) else none
    | _ => none
  | _ => none

theorem xstore_sound {s s' : XS} {size : Nat} {x v r : Value} {K : Value → St → Prop} (h : xstore s size x v = some (r, s')) (hk : K r s'.st) : astore s.st size x v K := by
  unfold xstore at h
  unfold astore
  split at h
  · rename_i b o
    simp only
    split at h
    · rename_i c e ex hb
      have hb' : s.st.H b = some (.cells c e ex) := hb
      rw [hb']
      simp only
      split at h
      · rename_i hc
        simp only [Option.map_eq_some_iff, Prod.mk.injEq] at h
        obtain ⟨s2, h1, rfl, rfl⟩ := h
        rw [← XS.put_st h1]
        exact ⟨hc.1, hc.2.1, hc.2.2, hk⟩
      · cases h
    · cases h
  · cases h

def xapp (s : XS) (esz bytes : Nat) (x y : Value) : Option (Value × XS) :=
  match seen s.st esz y with
  | none => none
  | some (n, src) =>
    if n = 0 then if isSlice x = true then some (x, s) else none
    else match x with
    | .slice none _ _ => if n * bytes ≤ 140737488355328 ∧ n ≤ 9223372036854775807 then (s.new (.cells src esz false)).map (.slice (some ⟨s.n, 0, none⟩) n n, ·) else none
    | .slice (some ⟨b, o, none⟩) len cap => match s.h.get b with
      | some (.cells c e ex) =>
        if e = esz ∧ o + cap * esz ≤ c.length ∧ len ≤ cap ∧ src.all (·.oneCell') = true then
          if len + n ≤ cap then (s.put b (some (.cells (setR c (o + len * esz) src) e ex))).map (.slice (some ⟨b, o, none⟩) (len + n) cap, ·)
          else if (len + n) * bytes ≤ 140737488355328 ∧ len + n ≤ 9223372036854775807 then
            if ex = true ∨ o + cap * esz < c.length then (s.new (.cells ((c.drop o).take (len * esz) ++ src) esz false)).map (.slice (some ⟨s.n, 0, none⟩) (len + n) (len + n), ·)
            else match s.put b none with
              | some s2 => (s2.new (.cells ((c.drop o).take (len * esz) ++ src) esz false)).map (.slice (some ⟨s.n, 0, none⟩) (len + n) (len + n), ·)
              | none => none
          else none
        else none
      | some (.ro c e) => if e = esz ∧ o + cap * esz ≤ c.length ∧ len ≤ cap ∧ cap < len + n ∧ (len + n) * bytes ≤ 140737488355328 ∧ len + n ≤ 9223372036854775807 then
          (s.new (.cells ((c.drop o).take (len * esz) ++ src) esz false)).map (.slice (some ⟨s.n, 0, none⟩) (len + n) (len + n), ·) else none
      | _ => none
    | _ => none

theorem xapp_sound {s s' : XS} {esz bytes : Nat} {x y r : Value} {K : Value → St → Prop} (h : xapp s esz bytes x y = some (r, s')) (hk : K r s'.st) : aapp s.st esz bytes x y K := by
  unfold xapp at h
  unfold aapp
  split at h
  · cases h
  · rename_i n src hs
    rw [hs]
    simp only
    split at h
    · rename_i h0
      rw [if_pos h0]
      split at h <;> cases h
      exact ⟨by assumption, hk⟩
    · rename_i h0
      rw [if_neg h0]
      split at h
      · split at h
        · rename_i hc
          simp only [Option.map_eq_some_iff, Prod.mk.injEq] at h
          obtain ⟨s2, h1, rfl, rfl⟩ := h
          simp only
          rw [XS.new_st h1] at hk
          exact ⟨hc.1, hc.2, hk⟩
        · cases h
      · rename_i b o len cap
        simp only
        split at h
        · rename_i c e ex hb
          have hb' : s.st.H b = some (.cells c e ex) := hb
          rw [hb']
          simp only
          split at h
          · rename_i hc
            refine ⟨hc.1, hc.2.1, hc.2.2.1, hc.2.2.2, ?_⟩
            split at h
            · rename_i hr
              rw [if_pos hr]
              simp only [Option.map_eq_some_iff, Prod.mk.injEq] at h
              obtain ⟨s2, h1, rfl, rfl⟩ := h
              rw [← XS.put_st h1]; exact hk
            · rename_i hr
              rw [if_neg hr]
              split at h
              · rename_i hb2
                refine ⟨hb2.1, hb2.2, ?_⟩
                split at h
                · rename_i hex
                  rw [if_pos hex]
                  simp only [Option.map_eq_some_iff, Prod.mk.injEq] at h
                  obtain ⟨s2, h1, rfl, rfl⟩ := h
                  rw [XS.new_st h1] at hk; exact hk
                · rename_i hex
                  rw [if_neg hex]
                  split at h
                  · rename_i s2 h2
                    simp only [Option.map_eq_some_iff, Prod.mk.injEq] at h
                    obtain ⟨s3, h1, rfl, rfl⟩ := h
                    rw [XS.new_st h1, XS.kill_st h2] at hk
                    exact hk
                  · cases h
              · cases h
          · cases h
        · rename_i c e hb
          have hb' : s.st.H b = some (.ro c e) := hb
          rw [hb']
          simp only
          split at h
          · rename_i hc
            simp only [Option.map_eq_some_iff, Prod.mk.injEq] at h
            obtain ⟨s2, h1, rfl, rfl⟩ := h
            rw [XS.new_st h1] at hk
            exact ⟨hc.1, hc.2.1, hc.2.2.1, hc.2.2.2.1, hc.2.2.2.2.1, hc.2.2.2.2.2, hk⟩
          · cases h
        · cases h
      · cases h

def xcopy (s : XS) (esz : Nat) (x y : Value) : Option (Value × XS) :=
  match seen s.st esz y with
  | none => none
  | some (n, src) => match x with
    | .slice none _ _ => some (.int .i64 0, s)
    | .slice (some ⟨b, o, none⟩) len _ => match s.h.get b with
      | some (.cells c e ex) => if o + len * esz ≤ c.length ∧ src.all (·.oneCell') = true then
          (s.put b (some (.cells (setR c o (src.take (min n len * esz))) e ex))).map (.int .i64 (min n len : Nat), ·) else none
      | _ => none
    | _ => none

theorem xcopy_sound {s s' : XS} {esz : Nat} {x y r : Value} {K : Value → St → Prop} (h : xcopy s esz x y = some (r, s')) (hk : K r s'.st) : acopy s.st esz x y K := by
  unfold xcopy at h
  unfold acopy
  split at h
  · cases h
  · rename_i n src hs
    rw [hs]
    split at h
    · cases h; exact hk
    · rename_i b o len cap
      simp only
      split at h
      · rename_i c e ex hb
        have hb' : s.st.H b = some (.cells c e ex) := hb
        rw [hb']
        simp only
        split at h
        · rename_i hc
          simp only [Option.map_eq_some_iff, Prod.mk.injEq] at h
          obtain ⟨s2, h1, rfl, rfl⟩ := h
          rw [← XS.put_st h1]
          exact ⟨hc.1, hc.2, hk⟩
        · cases h
      · cases h
    · cases h

end
end Go.Ab
