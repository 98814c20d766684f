/- A region that draws its order: one way through it, by rule, stands for all. -/
import Derived.Test.YtdhiacdfblakcaaAbK
namespace Go.Ab
open Go

/-- An instruction of such a region: its number; all that stands ahead of it; (heavy) the new blocks of this region that it needs; (a new block) which of the reserved numbers it takes; (a read) 0: all heavy ones behind it wait for it. -/
structure DIns where
  idx : Nat
  ins : AIns
  anc : List Nat
  merge : List Nat
  num : Nat
  deriving Inhabited

abbrev Pend := List (Nat × Nat × AObj)
abbrev Reads := List (Nat × Env × AOp × Value)

def addP (s : St) : Pend → St
  | [] => s
  | (_, b, o) :: r => (addP s r).put b o

theorem addP_n (s : St) : ∀ p : Pend, (addP s p).n = s.n
  | [] => rfl
  | (_, b, o) :: r => by simp [addP, St.put, addP_n s r]

theorem addP_H (s : St) (b : Nat) : ∀ p : Pend, (addP s p).H b = match p.find? (fun x => x.2.1 == b) with | some x => some x.2.2 | none => s.H b
  | [] => rfl
  | (i, b', o) :: r => by
    simp only [addP, List.find?_cons]
    by_cases e : b' = b
    · subst e; simp [St.put_self]
    · rw [St.put_ne _ _ (fun h => e h.symm), addP_H s b r]
      have : (b' == b) = false := by simpa using e
      simp [this]

def adraw (P : Program) (base : Nat) : List DIns → Env → St → Pend → Reads → (Env → St → Prop) → Prop
  | [], t, s, pend, _, K => K t (addP s pend)
  | d :: r, t, s, pend, reads, K =>
    if awanted t d.ins.guard = true then
      match d.ins.op.kind with
      | .pure => match apure t d.ins.op with | some v => adraw P base r (putO t d.ins.dst v) s pend reads K | none => False
      | .read => match aread t s d.ins.op with | some v => adraw P base r (putO t d.ins.dst v) s pend (if d.num = 0 then reads else (d.idx, t, d.ins.op, v) :: reads) K | none => False
      | .alloc => match aalloc t d.ins.op with
        | some (ob, f) => adraw P base r (putO t d.ins.dst (f (base + d.num))) s ((d.idx, base + d.num, ob) :: pend) reads K
        | none => False
      | .heavy => aheavy P t (addP s (pend.filter fun p => d.merge.contains p.1)) (fun v s' =>
          (∀ x ∈ reads.filter (fun x => !d.anc.contains x.1), aread x.2.1 s' x.2.2.1 = some x.2.2.2) ∧
          adraw P base r (putO t d.ins.dst v) s' (pend.filter fun p => !d.merge.contains p.1) (reads.filter fun x => !d.anc.contains x.1) K) d.ins.op
    else adraw P base r (putO t d.ins.dst undefV) s pend reads K

/-- One instruction of such a region, of what comes behind it. -/
def adop (P : Program) (base idx : Nat) (anc merge : List Nat) (num : Nat) (op : AOp) (t : Env) (s : St) (pend : Pend) (reads : Reads) (C : Value → St → Pend → Reads → Prop) : Prop :=
  match op.kind with
  | .pure => match apure t op with | some v => C v s pend reads | none => False
  | .read => match aread t s op with | some v => C v s pend (if num = 0 then reads else (idx, t, op, v) :: reads) | none => False
  | .alloc => match aalloc t op with | some (ob, f) => C (f (base + num)) s ((idx, base + num, ob) :: pend) reads | none => False
  | .heavy => aheavy P t (addP s (pend.filter fun p => merge.contains p.1)) (fun v s' =>
      (∀ x ∈ reads.filter (fun x => !anc.contains x.1), aread x.2.1 s' x.2.2.1 = some x.2.2.2) ∧ C v s' (pend.filter fun p => !merge.contains p.1) (reads.filter fun x => !anc.contains x.1)) op

theorem adraw_nil {P : Program} {base : Nat} {t : Env} {s : St} {p : Pend} {rd : Reads} {K : Env → St → Prop} : adraw P base [] t s p rd K = K t (addP s p) := rfl

theorem adraw_cons {P : Program} {base i n : Nat} {a m : List Nat} {dst : Option Nat} {op : AOp} {r : List DIns} {t : Env} {s : St} {p : Pend} {rd : Reads} {K : Env → St → Prop} :
    adraw P base (⟨i, ⟨dst, none, op⟩, a, m, n⟩ :: r) t s p rd K = adop P base i a m n op t s p rd fun v s' p' rd' => adraw P base r (putO t dst v) s' p' rd' K := by
  simp only [adraw, adop, awanted, if_true]

theorem adraw_cons_guard {P : Program} {base i n g : Nat} {b : Bool} {a m : List Nat} {dst : Option Nat} {op : AOp} {r : List DIns} {t : Env} {s : St} {p : Pend} {rd : Reads} {K : Env → St → Prop} :
    adraw P base (⟨i, ⟨dst, some (g, b), op⟩, a, m, n⟩ :: r) t s p rd K =
      if isB (t g) b = true then adop P base i a m n op t s p rd fun v s' p' rd' => adraw P base r (putO t dst v) s' p' rd' K else adraw P base r (putO t dst undefV) s p rd K := by
  simp only [adraw, adop, awanted]

def preds (o : Oper) : List Nat := (o.after.toList.filter (Region.binds .any)).map (·.on)

def heavyD (d : DIns) : Bool := d.ins.op.kind == .heavy
def allocD (d : DIns) : Bool := d.ins.op.kind == .alloc
def readD (d : DIns) : Bool := d.ins.op.kind == .read

/-- What is asked of one instruction of the list, of those ahead of it. -/
def chk1 (ops : Array Oper) (pre : List DIns) (d : DIns) : Bool :=
  (match ops[d.idx]? with
   | some o => (preds o).all (fun p => pre.any (·.idx == p)) && d.anc.all (fun j => (preds o).contains j || pre.any (fun e => (preds o).contains e.idx && e.anc.contains j))
   | none => false) &&
  pre.all (fun e => (match e.ins.dst with
      | some x => (!d.ins.slots.contains x || d.anc.contains e.idx) && d.ins.dst != some x
      | none => true) &&
    (match d.ins.dst with
      | some x => !e.ins.slots.contains x || d.anc.contains e.idx
      | none => true) &&
    (!heavyD e || d.anc.contains e.idx) && (!(readD e && heavyD d && e.num == 0) || d.anc.contains e.idx) && e.idx != d.idx && (!(allocD e && allocD d) || e.num != d.num)) &&
  d.merge.all d.anc.contains

def chkD (ops : Array Oper) : List DIns → List DIns → Bool
  | _, [] => true
  | pre, d :: r => chk1 ops pre d && chkD ops (pre ++ [d]) r

theorem chkD_at {ops : Array Oper} : ∀ (r : List DIns) (pre l m : List DIns) (d : DIns), chkD ops pre r = true → r = l ++ d :: m → chk1 ops (pre ++ l) d = true
  | [], _, l, m, d, _, h => by cases l <;> simp at h
  | e :: r, pre, l, m, d, hc, h => by
    simp only [chkD, Bool.and_eq_true] at hc
    cases l with
    | nil => simp at h; rw [← h.1]; simpa using hc.1
    | cons x l =>
      simp at h
      have := chkD_at r (pre ++ [e]) l m d hc.2 h.2
      rw [h.1] at this
      simpa using this

/-- The list is of this region. -/
structure DOk (P : Program) (nt : Nat) (ops : Array Oper) (ds : List DIns) (na : Nat) : Prop where
  chk : chkD ops [] ds = true
  all : ∀ i, i < ops.size → ∃ d ∈ ds, d.idx = i
  ins : ∀ d ∈ ds, ∃ o, ops[d.idx]? = some o ∧ compI P nt ops o = some d.ins
  num : ∀ d ∈ ds, allocD d = true → d.num < na

section
variable {P : Program} {nt : Nat} {ops : Array Oper} {ds : List DIns} {na : Nat}

/-- What 'chk1' says, in words. -/
structure Ahead (ops : Array Oper) (pre : List DIns) (d : DIns) : Prop where
  topo : ∀ o, ops[d.idx]? = some o → ∀ p ∈ preds o, ∃ e ∈ pre, e.idx = p
  anc : ∀ o, ops[d.idx]? = some o → ∀ j ∈ d.anc, j ∈ preds o ∨ ∃ e ∈ pre, e.idx ∈ preds o ∧ j ∈ e.anc
  reads : ∀ e ∈ pre, ∀ x, e.ins.dst = some x → x ∈ d.ins.slots → e.idx ∈ d.anc
  once : ∀ e ∈ pre, ∀ x, e.ins.dst = some x → d.ins.dst ≠ some x
  late : ∀ e ∈ pre, ∀ x, d.ins.dst = some x → x ∈ e.ins.slots → e.idx ∈ d.anc
  heavy : ∀ e ∈ pre, heavyD e = true → e.idx ∈ d.anc
  held : ∀ e ∈ pre, readD e = true → heavyD d = true → e.num = 0 → e.idx ∈ d.anc
  idx : ∀ e ∈ pre, e.idx ≠ d.idx
  num : ∀ e ∈ pre, allocD e = true → allocD d = true → e.num ≠ d.num
  merge : ∀ j ∈ d.merge, j ∈ d.anc

theorem ahead_of {pre : List DIns} {d : DIns} (h : chk1 ops pre d = true) : Ahead ops pre d := by
  unfold chk1 at h
  simp only [Bool.and_eq_true] at h
  obtain ⟨⟨h1, h2⟩, h3⟩ := h
  rw [List.all_eq_true] at h2
  have h2' : ∀ e ∈ pre, (∀ x, e.ins.dst = some x → (x ∈ d.ins.slots → e.idx ∈ d.anc) ∧ d.ins.dst ≠ some x) ∧ (∀ x, d.ins.dst = some x → x ∈ e.ins.slots → e.idx ∈ d.anc) ∧
      (heavyD e = true → e.idx ∈ d.anc) ∧ (readD e = true → heavyD d = true → e.num = 0 → e.idx ∈ d.anc) ∧ e.idx ≠ d.idx ∧ (allocD e = true → allocD d = true → e.num ≠ d.num) := by
    intro e he
    have := h2 e he
    simp only [Bool.and_eq_true] at this
    obtain ⟨⟨⟨⟨⟨a1, a2⟩, a3⟩, a6⟩, a4⟩, a5⟩ := this
    refine ⟨?_, ?_, ?_, ?_, ?_, ?_⟩
    · intro x hx
      rw [hx] at a1
      simp at a1
      refine ⟨fun hs => a1.1.resolve_left (fun h => h hs), a1.2⟩
    · intro x hx hs
      rw [hx] at a2
      simp at a2
      exact a2.resolve_left (fun h => h hs)
    · intro hh
      simp [hh] at a3
      exact a3
    · intro h1 h2 h3
      simp [h1, h2, h3] at a6
      exact a6
    · simpa using a4
    · intro he' hd'
      simp [he', hd'] at a5
      exact a5
  rw [List.all_eq_true] at h3
  refine ⟨?_, ?_, fun e he x hx hs => ((h2' e he).1 x hx).1 hs, fun e he x hx => ((h2' e he).1 x hx).2, fun e he x hx hs => (h2' e he).2.1 x hx hs, fun e he hh => (h2' e he).2.2.1 hh,
    fun e he => (h2' e he).2.2.2.1, fun e he => (h2' e he).2.2.2.2.1, fun e he => (h2' e he).2.2.2.2.2, fun j hj => by simpa using h3 j hj⟩
  · intro o ho p hp
    rw [ho] at h1
    simp only [Bool.and_eq_true, List.all_eq_true] at h1
    have := h1.1 p hp
    simpa using this
  · intro o ho j hj
    rw [ho] at h1
    simp only [Bool.and_eq_true, List.all_eq_true] at h1
    have := h1.2 j hj
    simpa using this

theorem DOk.ahead (h : DOk P nt ops ds na) {l m : List DIns} {d : DIns} (e : ds = l ++ d :: m) : Ahead ops l d := by
  have := chkD_at ds [] l m d h.chk e
  exact ahead_of (by simpa using this)

/-- Two instructions of one number are one. -/
theorem DOk.inj (h : DOk P nt ops ds na) {d e : DIns} (hd : d ∈ ds) (he : e ∈ ds) (hi : d.idx = e.idx) : d = e := by
  obtain ⟨l, m, rfl⟩ := List.append_of_mem hd
  rcases List.mem_append.1 he with h1 | h1
  · exact absurd hi.symm ((h.ahead rfl).idx e h1)
  · rcases List.mem_cons.1 h1 with h2 | h2
    · exact h2.symm
    · obtain ⟨l', m', rfl⟩ := List.append_of_mem h2
      exact absurd hi ((h.ahead (l := l ++ d :: l') (m := m') (by simp)).idx d (by simp))

end
end Go.Ab
