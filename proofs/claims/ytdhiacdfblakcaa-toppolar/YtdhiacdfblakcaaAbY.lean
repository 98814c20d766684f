/- A run of the small machine at known inputs, of operations, code and calls; what it comes to holds of the model. -/
import Derived.Test.YtdhiacdfblakcaaAbX
import Derived.LoopN
namespace Go.Ab
open Go

noncomputable section

/-- Rounds of a loop, counted. -/
def AWr (P : Program) (nt : Nat) (x : AC) (Q : Exit → Env → St → Prop) : Nat → Env → St → Prop
  | 0, _, _ => False
  | n + 1, t, s => AW P nt x t s fun e t' s' => match e with | .normal => AWr P nt x Q n t' s' | e => Q e t' s'

section
variable {P : Program} {nt : Nat}

theorem AWr.sound {x : AC} {t : Env} {s : St} {Q : Exit → Env → St → Prop} {n : Nat} (h : AWr P nt x Q n t s) : AW P nt (.loop x) t s Q := by
  intro code hc μ a w he hr
  obtain ⟨p, rfl, hx⟩ := codeOf hc
  refine wp_loop_rounds n ?_
  have key : ∀ n t₁ s₁ μ₁ a₁ w₁, AWr P nt x Q n t₁ s₁ → EnvR μ₁ nt t₁ a₁ → Rel μ₁ s₁ w₁ → Step μ s w μ₁ s₁ w₁ → Code.rounds P p (fun e a' w' => After μ nt s w (Q e) a' w') n a₁ w₁ := by
    intro n
    induction n with
    | zero => intro _ _ _ _ _ h; exact h.elim
    | succ n ih =>
      intro t₁ s₁ μ₁ a₁ w₁ h e₁ r₁ st₁
      rw [rounds_succ]
      refine wp_mono (h p hx μ₁ a₁ w₁ e₁ r₁) ?_
      rintro e a' w' ⟨μ', t', s', e', r', st', k⟩
      cases e with
      | normal => exact ih _ _ _ _ _ k e' r' (st₁.trans st')
      | _ => exact ⟨μ', t', s', e', r', st₁.trans st', k⟩
  exact key n t s μ a w h he hr (Step.refl _ _ _)

end

/-- Numbers are brought to their digits. -/
def frcN {β : Type} (n : Nat) (k : Nat → β) : β := Nat.rec (k 0) (fun m _ => k (Nat.succ m)) n

theorem frcN_eq {β : Type} (n : Nat) (k : Nat → β) : frcN n k = k n := by cases n <;> rfl

def frc {β : Type} (v : Value) (k : Value → β) : β :=
  match v with
  | .int t (.ofNat n) => frcN n fun n => k (.int t (.ofNat n))
  | .int t (.negSucc n) => frcN n fun n => k (.int t (.negSucc n))
  | .bool true => k (.bool true)
  | .bool false => k (.bool false)
  | .pointer (some ⟨b, o, none⟩) => frcN b fun b => frcN o fun o => k (.pointer (some ⟨b, o, none⟩))
  | .slice none a b => frcN a fun a => frcN b fun b => k (.slice none a b)
  | .slice (some ⟨b, o, none⟩) n c => frcN b fun b => frcN o fun o => frcN n fun n => frcN c fun c => k (.slice (some ⟨b, o, none⟩) n c)
  | v => k v

theorem frc_eq {β : Type} (v : Value) (k : Value → β) : frc v k = k v := by
  unfold frc
  split <;> simp only [frcN_eq]

def sameV : Value → Value → Bool
  | .int k n, .int k' m => decide (k = k') && decide (n = m)
  | .bool a, .bool b => decide (a = b)
  | .slice none a b, .slice none c d => decide (a = c) && decide (b = d)
  | .slice (some ⟨b, o, none⟩) n c, .slice (some ⟨b', o', none⟩) n' c' => decide (b = b') && decide (o = o') && decide (n = n') && decide (c = c')
  | .pointer (some ⟨b, o, none⟩), .pointer (some ⟨b', o', none⟩) => decide (b = b') && decide (o = o')
  | _, _ => false

theorem sameV_eq {x y : Value} (h : sameV x y = true) : x = y := by
  unfold sameV at h
  split at h <;> (try simp only [Bool.and_eq_true, decide_eq_true_eq] at h)
  · rw [h.1, h.2]
  · rw [h]
  · rw [h.1, h.2]
  · obtain ⟨⟨⟨rfl, rfl⟩, rfl⟩, rfl⟩ := h; rfl
  · obtain ⟨rfl, rfl⟩ := h; rfl
  · cases h

/-- Quick ways to what the machine's operations come to. -/
def xev (e : XE) (x : Operand) : Value := match x with
  | .tmp i => match Tr.get e i with | some v => v | none => undefV
  | .const v => v
  | .func f => .func (.func f) #[] #[]
  | .global _ => undefV

theorem xev_eq (e : XE) (x : Operand) : xev e x = ev e.fn x := by
  cases x with
  | tmp i => simp only [xev, ev, XE.fn]; cases Tr.get e i <;> rfl
  | _ => rfl

def fwrap (n : Int) : Int := match n with
  | .ofNat m => match Nat.ble m 9223372036854775807 with | true => .ofNat m | false => IntKind.i64.wrap (.ofNat m)
  | .negSucc m => match Nat.ble m 9223372036854775807 with | true => .negSucc m | false => IntKind.i64.wrap (.negSucc m)

theorem fwrap_eq (n : Int) : fwrap n = IntKind.i64.wrap n := by
  have key : ∀ x : Int, -9223372036854775808 ≤ x → x ≤ 9223372036854775807 → x = IntKind.i64.wrap x := by
    intro x h1 h2
    have h3 : (2 : Int) ^ IntKind.i64.bits = 18446744073709551616 := by rfl
    have h4 : (2 : Int) ^ (IntKind.i64.bits - 1) = 9223372036854775808 := by rfl
    simp only [IntKind.wrap, h3, h4, IntKind.signed, Bool.true_and, decide_eq_true_eq]
    split <;> omega
  cases n with
  | ofNat m =>
    simp only [fwrap]
    cases h : Nat.ble m 9223372036854775807 with
    | true => rw [Nat.ble_eq] at h; exact key (Int.ofNat m) (by simp only [Int.ofNat_eq_natCast]; omega) (by simp only [Int.ofNat_eq_natCast]; omega)
    | false => rfl
  | negSucc m =>
    simp only [fwrap]
    cases h : Nat.ble m 9223372036854775807 with
    | true => rw [Nat.ble_eq] at h; exact key (Int.negSucc m) (by omega) (by omega)
    | false => rfl

def ilt (a b : Int) : Bool := match a with
  | .ofNat m => match b with | .ofNat n => Nat.ble (Nat.succ m) n | .negSucc _ => false
  | .negSucc m => match b with | .ofNat _ => true | .negSucc n => Nat.ble (Nat.succ n) m

theorem ilt_eq (a b : Int) : ilt a b = decide (a < b) := by
  rw [Bool.eq_iff_iff]
  cases a <;> cases b <;> simp only [ilt, decide_eq_true_eq, Nat.ble_eq, Bool.false_eq_true, true_iff, false_iff, Int.ofNat_eq_natCast] <;> omega

def ieq (a b : Int) : Bool := match a with
  | .ofNat m => match b with | .ofNat n => Nat.beq m n | .negSucc _ => false
  | .negSucc m => match b with | .ofNat _ => false | .negSucc n => Nat.beq m n

theorem ieq_eq (a b : Int) : ieq a b = (a == b) := by
  rw [Bool.eq_iff_iff]
  cases a <;> cases b <;> simp only [ieq, beq_iff_eq, Nat.beq_eq, Bool.false_eq_true, false_iff, Int.ofNat_eq_natCast] <;> omega

def xbinI (o : BinOp) (a b : Int) : Option Value := match o with
  | .add => some (.int .i64 (fwrap (Int.add a b)))
  | .sub => some (.int .i64 (fwrap (Int.sub a b)))
  | .mul => some (.int .i64 (fwrap (Int.mul a b)))
  | .lss => some (.bool (ilt a b))
  | .leq => some (.bool (not (ilt b a)))
  | .gtr => some (.bool (ilt b a))
  | .geq => some (.bool (not (ilt a b)))
  | .eql => some (.bool (ieq a b))
  | .neq => some (.bool (not (ieq a b)))
  | o => abin o (.int .i64 a) (.int .i64 b)

theorem xbinI_eq (o : BinOp) (a b : Int) : xbinI o a b = abin o (.int .i64 a) (.int .i64 b) := by
  cases o with
  | add => simp only [xbinI, abin, if_true, fwrap_eq]; rfl
  | sub => simp only [xbinI, abin, if_true, fwrap_eq]; rfl
  | mul => simp only [xbinI, abin, if_true, fwrap_eq]; rfl
  | lss => simp only [xbinI, abin, if_true, ilt_eq]
  | gtr => simp only [xbinI, abin, if_true, ilt_eq]
  | leq =>
    simp only [xbinI, abin, if_true, ilt_eq, Option.some.injEq, Value.bool.injEq]
    rw [Bool.eq_iff_iff]; simp
  | geq =>
    simp only [xbinI, abin, if_true, ilt_eq, Option.some.injEq, Value.bool.injEq]
    rw [Bool.eq_iff_iff]; simp
  | eql => simp only [xbinI, abin, if_true, ieq_eq]
  | neq => simp only [xbinI, abin, if_true, ieq_eq]; rfl
  | _ => rfl

def xbin (o : BinOp) (x y : Value) : Option Value := match x with
  | .int .i64 a => match y with
    | .int .i64 b => xbinI o a b
    | y => abin o (.int .i64 a) y
  | x => abin o x y

theorem xbin_eq (o : BinOp) (x y : Value) : xbin o x y = abin o x y := by
  unfold xbin
  split
  · split
    · exact xbinI_eq _ _ _
    · rfl
  · rfl

def xiaddr (x i : Value) (esz : Nat) : Option Value := match x with
  | .slice (some ⟨b, o, none⟩) len _ => match i with
    | .int _ (.ofNat n) => match Nat.ble (Nat.succ n) len with | true => some (.pointer (some ⟨b, Nat.add o (Nat.mul n esz), none⟩)) | false => none
    | _ => none
  | _ => none

def xlen (x : Value) : Option Value := match x with | .slice _ n _ => some (.int .i64 (.ofNat n)) | _ => none
def xext (x : Value) (i : Nat) : Option Value := match x with | .tuple vs => vs.toList[i]? | _ => none

def xpure (e : XE) (op : AOp) : Option Value := match op with
  | .mov x => some (xev e x)
  | .bin o x y => xbin o (xev e x) (xev e y)
  | .ext x i => xext (xev e x) i
  | .len x => xlen (xev e x)
  | .iaddr x i esz => xiaddr (xev e x) (xev e i) esz
  | op => apure e.fn op

theorem xpure_eq {e : XE} {op : AOp} {v : Value} (h : xpure e op = some v) : apure e.fn op = some v := by
  unfold xpure at h
  split at h
  · simpa [apure, xev_eq] using h
  · simpa [apure, xev_eq, xbin_eq] using h
  · rename_i x i
    simp only [apure, ← xev_eq]; exact h
  · rename_i x
    simp only [apure, ← xev_eq]; exact h
  · rename_i x i esz
    simp only [apure, ← xev_eq]
    unfold xiaddr at h
    split at h
    · rename_i b o len cap hx
      split at h
      · rename_i k n hi
        split at h
        · rename_i hb
          rw [Nat.ble_eq] at hb
          rw [hx, hi]
          simp only
          rw [if_pos ⟨by simp only [Int.ofNat_eq_natCast]; omega, by simp only [Int.ofNat_eq_natCast]; omega⟩]
          exact h
        · cases h
      · cases h
    · cases h
  · exact h

def xpart (c : List Value) (o n : Nat) (g : Bool) : Option Value := match g with | false => c[o]? | true => apart c o n true

def xload (h : Tr AObj) (x : Value) (n : Nat) (g : Bool) : Option Value := match x with
  | .pointer (some ⟨b, o, none⟩) => match h.get b with
    | some (.cells c _ _) => xpart c o n g
    | some (.ro c _) => xpart c o n g
    | _ => none
  | _ => none

def xread (e : XE) (s : XS) (op : AOp) : Option Value := match op with
  | .load x n g => xload s.h (xev e x) n g
  | op => aread e.fn s.st op

theorem xread_eq {e : XE} {s : XS} {op : AOp} {v : Value} (h : xread e s op = some v) : aread e.fn s.st op = some v := by
  have hp : ∀ (c : List Value) o n g, xpart c o n g = apart c o n g := by
    intro c o n g
    cases g <;> rfl
  unfold xread at h
  split at h
  · rename_i x n g
    simp only [aread, ← xev_eq]
    unfold xload at h
    split at h
    · rename_i b o hx
      rw [hx]
      simp only [XS.st]
      split at h
      · rename_i c e1 ex hb
        rw [hb, hp] at *
        exact h
      · rename_i c e1 hb
        rw [hb, hp] at *
        exact h
      · cases h
    · cases h
  · exact h

abbrev XCall := Value → List Value → XS → Option (Value × XS)

def XCall.ok (P : Program) (call : XCall) : Prop := ∀ f args s r s', call f args s = some (r, s') → ∀ K : Value → St → Prop, K r s'.st → acall P f args s.st K

def xheavy (call : XCall) (e : XE) (s : XS) : AOp → Option (Value × XS)
  | .store x v n => xstore s n (xev e x) (xev e v)
  | .app x y esz bytes => xapp s esz bytes (xev e x) (xev e y)
  | .copy x y esz => xcopy s esz (xev e x) (xev e y)
  | .call f args => call (xev e f) (args.map (xev e)) s
  | _ => none

def xwith (s : XS) (v : Option Value) : Option (Value × XS) := match v with | some v => some (v, s) | none => none
def xalloc (s : XS) (a : Option (AObj × (Nat → Value))) : Option (Value × XS) := match a with | some (ob, f) => (s.new ob).map (f s.n, ·) | none => none

def xaop (call : XCall) (e : XE) (s : XS) (op : AOp) : Option (Value × XS) :=
  match op.kind with
  | .pure => xwith s (xpure e op)
  | .read => xwith s (xread e s op)
  | .alloc => xalloc s (aalloc e.fn op)
  | .heavy => xheavy call e s op

abbrev XGo0 := XE → XS → Option (XE × XS)
def xoPut (go : XGo0) (d : Option Nat) (e : XE) (s : XS) (v : Value) : Option (XE × XS) := match xputO e d v with | some e' => go e' s | none => none
def xoGo (go : XGo0) (d : Option Nat) (e : XE) (r : Option (Value × XS)) : Option (XE × XS) := match r with
  | some (v, s') => frc v fun v => xoPut go d e s' v
  | none => none

def xops (call : XCall) (l : List AIns) : XGo0 :=
  List.rec (motive := fun _ => XGo0) (fun e s => some (e, s))
    (fun i _ go e s => match awanted e.fn i.guard with
      | true => xoGo go i.dst e (xaop call e s i.op)
      | false => xoPut go i.dst e s undefV) l

section
variable {P : Program} {call : XCall}

theorem xheavy_sound (hc : XCall.ok P call) {e : XE} {s s' : XS} {op : AOp} {v : Value} {K : Value → St → Prop} (h : xheavy call e s op = some (v, s')) (hk : K v s'.st) : aheavy P e.fn s.st K op := by
  unfold xheavy at h
  have hm : ∀ l : List Operand, l.map (xev e) = l.map (ev e.fn) := fun l => List.map_congr_left fun x _ => xev_eq e x
  split at h <;> (try simp only [xev_eq, hm] at h)
  · exact xstore_sound h hk
  · exact xapp_sound h hk
  · exact xcopy_sound h hk
  · exact hc _ _ _ _ _ h K hk
  · cases h

theorem xaop_sound (hc : XCall.ok P call) {e : XE} {s s' : XS} {op : AOp} {v : Value} {K : Value → St → Prop} (h : xaop call e s op = some (v, s')) (hk : K v s'.st) : aop P e.fn s.st op K := by
  unfold xaop at h
  unfold aop
  cases hkd : op.kind with
  | pure =>
    rw [hkd] at h
    simp only [xwith] at h
    split at h <;> cases h
    rename_i h1
    simp only [xpure_eq h1]; exact hk
  | read =>
    rw [hkd] at h
    simp only [xwith] at h
    split at h <;> cases h
    rename_i h1
    simp only [xread_eq h1]; exact hk
  | alloc =>
    rw [hkd] at h
    simp only [xalloc] at h ⊢
    split at h
    · rename_i ob f ha
      rw [ha]
      simp only [Option.map_eq_some_iff, Prod.mk.injEq] at h ⊢
      obtain ⟨s2, h1, rfl, rfl⟩ := h
      rw [XS.new_st h1] at hk
      exact hk
    · cases h
  | heavy =>
    rw [hkd] at h
    exact xheavy_sound hc h hk

theorem xops_sound (hc : XCall.ok P call) {K : Env → St → Prop} : ∀ {l : List AIns} {e e' : XE} {s s' : XS}, xops call l e s = some (e', s') → K e'.fn s'.st → aops P l e.fn s.st K
  | [], e, e', s, s', h, hk => by
    have h : some (e, s) = some (e', s') := h
    cases h; exact hk
  | i :: r, e, e', s, s', h, hk => by
    have h : (match awanted e.fn i.guard with | true => xoGo (xops call r) i.dst e (xaop call e s i.op) | false => xoPut (xops call r) i.dst e s undefV) = some (e', s') := h
    simp only [aops]
    split at h
    · rename_i hw
      rw [if_pos hw]
      unfold xoGo at h
      split at h
      · rename_i v s1 hx
        rw [frc_eq] at h
        unfold xoPut at h
        split at h
        · rename_i e1 he
          refine xaop_sound hc hx ?_
          rw [← xputO_fn he]
          exact xops_sound hc h hk
        · cases h
      · cases h
    · rename_i hw
      rw [if_neg (by rw [hw]; simp)]
      unfold xoPut at h
      split at h
      · rename_i e1 he
        rw [← xputO_fn he]
        exact xops_sound hc h hk
      · cases h

end

def xaddP (s : XS) : Pend → Option XS
  | [] => some s
  | (_, b, o) :: r => match xaddP s r with | some s' => s'.put b (some o) | none => none

theorem xaddP_st {s : XS} : ∀ {p : Pend} {s' : XS}, xaddP s p = some s' → s'.st = addP s.st p
  | [], _, h => by cases h; rfl
  | (_, b, o) :: r, s', h => by
    simp only [xaddP] at h
    split at h
    · rename_i s1 h1
      rw [XS.put_st h, xaddP_st h1]; rfl
    · cases h

def xreads (s : XS) : Reads → Bool
  | [] => true
  | x :: r => match aread x.2.1 s.st x.2.2.1 with | some v => sameV v x.2.2.2 && xreads s r | none => false

theorem xreads_ok {s : XS} : ∀ {l : Reads}, xreads s l = true → ∀ x ∈ l, aread x.2.1 s.st x.2.2.1 = some x.2.2.2
  | [], _, x, hx => by simp at hx
  | y :: r, h, x, hx => by
    simp only [xreads] at h
    split at h
    · rename_i v hv
      simp only [Bool.and_eq_true] at h
      rcases List.mem_cons.1 hx with rfl | hx
      · rw [hv, sameV_eq h.1]
      · exact xreads_ok h.2 x hx
    · cases h

def xrec (n idx : Nat) (e : XE) (op : AOp) (v : Value) (reads : Reads) : Reads := match n with | 0 => reads | _ + 1 => (idx, e.fn, op, v) :: reads

abbrev XGo := XE → XS → Pend → Reads → Option (XE × XS)

def xdGo (go : XGo) (d : Option Nat) (e : XE) (s : XS) (pend : Pend) (reads : Reads) (v : Value) : Option (XE × XS) := frc v fun v => match xputO e d v with | some e' => go e' s pend reads | none => none
def xdPure (go : XGo) (d : Option Nat) (e : XE) (s : XS) (pend : Pend) (reads : Reads) (v : Option Value) : Option (XE × XS) := match v with | some v => xdGo go d e s pend reads v | none => none
def xdRead (go : XGo) (n idx : Nat) (op : AOp) (d : Option Nat) (e : XE) (s : XS) (pend : Pend) (reads : Reads) (v : Option Value) : Option (XE × XS) := match v with | some v => xdGo go d e s pend (xrec n idx e op v reads) v | none => none
def xdAlloc (go : XGo) (b idx : Nat) (d : Option Nat) (e : XE) (s : XS) (pend : Pend) (reads : Reads) (a : Option (AObj × (Nat → Value))) : Option (XE × XS) := match a with
  | some (ob, f) => frcN b fun b => match xputO e d (f b) with | some e' => go e' s ((idx, b, ob) :: pend) reads | none => none
  | none => none
def xdHeavy2 (go : XGo) (d : Option Nat) (e : XE) (pend : Pend) (reads : Reads) (r : Option (Value × XS)) : Option (XE × XS) := match r with
  | some (v, s') => match xreads s' reads with | true => xdGo go d e s' pend reads v | false => none
  | none => none
def xdHeavy (call : XCall) (go : XGo) (anc merge : List Nat) (op : AOp) (d : Option Nat) (e : XE) (s : XS) (pend : Pend) (reads : Reads) : Option (XE × XS) :=
  match xaddP s (pend.filter fun p => merge.contains p.1) with
  | some s1 => xdHeavy2 go d e (pend.filter fun p => !merge.contains p.1) (reads.filter fun x => !anc.contains x.1) (xheavy call e s1 op)
  | none => none
def xdOp (call : XCall) (base : Nat) (go : XGo) (d : DIns) (e : XE) (s : XS) (pend : Pend) (reads : Reads) : Option (XE × XS) :=
  match d.ins.op.kind with
  | .pure => xdPure go d.ins.dst e s pend reads (xpure e d.ins.op)
  | .read => xdRead go d.num d.idx d.ins.op d.ins.dst e s pend reads (xread e s d.ins.op)
  | .alloc => xdAlloc go (base + d.num) d.idx d.ins.dst e s pend reads (aalloc e.fn d.ins.op)
  | .heavy => xdHeavy call go d.anc d.merge d.ins.op d.ins.dst e s pend reads
def xdEnd (e : XE) (s : Option XS) : Option (XE × XS) := match s with | some s' => some (e, s') | none => none
def xdSkip (go : XGo) (d : Option Nat) (e : XE) (s : XS) (pend : Pend) (reads : Reads) : Option (XE × XS) := match xputO e d undefV with | some e' => go e' s pend reads | none => none

def xdraw (call : XCall) (base : Nat) (l : List DIns) : XGo :=
  List.rec (motive := fun _ => XGo) (fun e s pend _ => xdEnd e (xaddP s pend))
    (fun d _ go e s pend reads => match awanted e.fn d.ins.guard with
      | true => xdOp call base go d e s pend reads
      | false => xdSkip go d.ins.dst e s pend reads) l

section
variable {P : Program} {call : XCall}

theorem xdraw_sound (hc : XCall.ok P call) {base : Nat} {K : Env → St → Prop} : ∀ {l : List DIns} {e e' : XE} {s s' : XS} {pend : Pend} {reads : Reads},
    xdraw call base l e s pend reads = some (e', s') → K e'.fn s'.st → adraw P base l e.fn s.st pend reads K
  | [], e, e', s, s', pend, reads, h, hk => by
    have h : xdEnd e (xaddP s pend) = some (e', s') := h
    unfold xdEnd at h
    split at h
    · rename_i s1 h1
      cases h
      simp only [adraw]
      rw [← xaddP_st h1]; exact hk
    · cases h
  | d :: r, e, e', s, s', pend, reads, h, hk => by
    have h : (match awanted e.fn d.ins.guard with | true => xdOp call base (xdraw call base r) d e s pend reads | false => xdSkip (xdraw call base r) d.ins.dst e s pend reads) = some (e', s') := h
    have go : ∀ {v : Value} {e0 : XE} {s0 : XS} {p0 : Pend} {r0 : Reads}, xdGo (xdraw call base r) d.ins.dst e0 s0 p0 r0 v = some (e', s') → adraw P base r (putO e0.fn d.ins.dst v) s0.st p0 r0 K := by
      intro v e0 s0 p0 r0 h
      unfold xdGo at h
      rw [frc_eq] at h
      split at h
      · rename_i e1 he
        rw [← xputO_fn he]
        exact xdraw_sound hc h hk
      · cases h
    simp only [adraw]
    split at h
    · rename_i hw
      rw [if_pos hw]
      unfold xdOp at h
      cases hkd : d.ins.op.kind with
      | pure =>
        rw [hkd] at h
        simp only [xdPure] at h ⊢
        split at h
        · rename_i v hv
          rw [xpure_eq hv]
          exact go h
        · cases h
      | read =>
        rw [hkd] at h
        simp only [xdRead] at h ⊢
        split at h
        · rename_i v hv
          rw [xread_eq hv]
          have hx : xrec d.num d.idx e d.ins.op v reads = if d.num = 0 then reads else (d.idx, e.fn, d.ins.op, v) :: reads := by
            unfold xrec
            split
            · rename_i h0; rw [if_pos h0]
            · rename_i h0; rw [if_neg (by omega)]
          rw [hx] at h
          exact go h
        · cases h
      | alloc =>
        rw [hkd] at h
        simp only [xdAlloc] at h ⊢
        split at h
        · rename_i ob f hv
          rw [hv]
          rw [frcN_eq] at h
          split at h
          · rename_i e1 he
            simp only
            rw [← xputO_fn he]
            exact xdraw_sound hc h hk
          · cases h
        · cases h
      | heavy =>
        rw [hkd] at h
        simp only [xdHeavy, xdHeavy2] at h ⊢
        split at h
        · rename_i s1 h1
          split at h
          · rename_i v s2 h2
            split at h
            · rename_i hrd
              rw [← xaddP_st h1]
              exact xheavy_sound hc h2 ⟨xreads_ok hrd, go h⟩
            · cases h
          · cases h
        · cases h
    · rename_i hw
      rw [if_neg (by rw [hw]; simp)]
      unfold xdSkip at h
      split at h
      · rename_i e1 he
        rw [← xputO_fn he]
        exact xdraw_sound hc h hk
      · cases h

end

def xargs : List Value → Nat → XE → Option XE
  | [], _, e => some e
  | v :: r, i, e => match e.put i v with | some e' => xargs r (Nat.succ i) e' | none => none

theorem xargs_fn : ∀ {l : List Value} {i : Nat} {e e' : XE}, xargs l i e = some e' → ∀ j, e'.fn j = if i ≤ j ∧ j < i + l.length then l.getD (j - i) undefV else e.fn j
  | [], i, e, e', h, j => by
    cases h
    rw [if_neg (by simp only [List.length_nil]; omega)]
  | v :: r, i, e, e', h, j => by
    simp only [xargs] at h
    split at h
    · rename_i e1 h1
      rw [xargs_fn h j, XE.put_fn h1]
      simp only [upd, List.length_cons, Nat.succ_eq_add_one]
      by_cases e1 : j = i
      · subst e1
        rw [if_neg (by omega), if_pos rfl, if_pos (by omega)]
        simp
      · by_cases h2 : i + 1 ≤ j ∧ j < i + 1 + r.length
        · rw [if_pos h2, if_pos (by omega)]
          have : j - i = (j - (i + 1)) + 1 := by omega
          rw [this]; simp
        · rw [if_neg h2, if_neg e1, if_neg (by omega)]
    · cases h

abbrev XF := Nat → Option AF

def xcall (F : XF) (code : AC → XE → XS → Option (Exit × XE × XS)) : XCall := fun f args s =>
  match f with
  | .func (.func g) fi ca => match F g with
    | some af => match Nat.beq (fi.toList ++ args ++ ca.toList).length af.np with
      | true => match xargs (fi.toList ++ args ++ ca.toList) 0 .nil with
        | some e => match code af.body e s with
          | some (.normal, e', s') => match ares e'.fn s'.st af.res with | some l => some (packV l, s') | none => none
          | some (.ret, e', s') => match ares e'.fn s'.st af.res with | some l => some (packV l, s') | none => none
          | _ => none
        | none => none
      | false => none
    | none => none
  | _ => none

def xstep (F : XF) (ih : AC → XE → XS → Option (Exit × XE × XS)) (c : AC) (e : XE) (s : XS) : Option (Exit × XE × XS) :=
  match c with
  | .skip => some (.normal, e, s)
  | .ops l => match xops (xcall F ih) l e s with | some (e', s') => some (.normal, e', s') | none => none
  | .draw ds na => frcN (s.n + na) fun n => match xdraw (xcall F ih) s.n ds e ⟨s.h, n⟩ [] [] with | some (e', s') => some (.normal, e', s') | none => none
  | .seq a b => match ih a e s with | some (.normal, e', s') => ih b e' s' | r => r
  | .cond c a b => match ev e.fn c with | .bool true => ih a e s | .bool false => ih b e s | _ => none
  | .block id b => match ih b e s with
    | some (.exit id', e', s') => match Nat.beq id' id with | true => some (.normal, e', s') | false => some (.exit id', e', s')
    | r => r
  | .loop b => match ih b e s with | some (.normal, e', s') => ih (.loop b) e' s' | r => r
  | .exit id => some (.exit id, e, s)
  | .ret => some (.ret, e, s)

def xcode (F : XF) (fuel : Nat) : AC → XE → XS → Option (Exit × XE × XS) := Nat.rec (fun _ _ _ => none) (fun _ ih c e s => xstep F ih c e s) fuel

theorem xcode_succ (F : XF) (n : Nat) (c : AC) (e : XE) (s : XS) : xcode F (n + 1) c e s = xstep F (xcode F n) c e s := rfl

section
variable {P : Program} {F : XF}

/-- What is asked of a run of code. -/
def XOk (P : Program) (run : AC → XE → XS → Option (Exit × XE × XS)) : Prop :=
  ∀ c e s x e' s', run c e s = some (x, e', s') → ∀ nt (Q : Exit → Env → St → Prop), Q x e'.fn s'.st → AW P nt c e.fn s.st Q ∧ ∀ b, c = .loop b → ∃ n, AWr P nt b Q n e.fn s.st

theorem xcall_ok (hF : ∀ f af, F f = some af → compF P f = some af) {run : AC → XE → XS → Option (Exit × XE × XS)} (hr : XOk P run) : XCall.ok P (xcall F run) := by
  intro f args s r s' h K hk
  unfold xcall at h
  split at h
  · rename_i g fi ca
    split at h
    · rename_i af haf
      split at h
      · rename_i hlen
        split at h
        · rename_i e he
          have e0 : XE.fn e = initE (fi.toList ++ args ++ ca.toList) := by
            funext j
            rw [xargs_fn he j]
            simp only [Nat.zero_le, true_and, Nat.zero_add, Nat.sub_zero, initE]
            split
            · rfl
            · rename_i hj
              have hn : (XE.fn (Tr.nil) j) = undefV := by simp [XE.fn, Tr.get_nil]
              rw [hn, List.getD_eq_getElem?_getD, List.getElem?_eq_none (by omega)]; rfl
          refine ACalls.intro (hF _ _ haf) (Nat.eq_of_beq_eq_true hlen) ?_
          rw [← e0]
          split at h
          · rename_i e' s1 hx
            split at h <;> cases h
            rename_i l hl
            refine (hr _ _ _ _ _ _ hx _ _ ?_).1
            simp only
            rw [hl]; exact hk
          · rename_i e' s1 hx
            split at h <;> cases h
            rename_i l hl
            refine (hr _ _ _ _ _ _ hx _ _ ?_).1
            simp only
            rw [hl]; exact hk
          · cases h
        · cases h
      · cases h
    · cases h
  · cases h

theorem xstep_ok (hF : ∀ f af, F f = some af → compF P f = some af) {run : AC → XE → XS → Option (Exit × XE × XS)} (hr : XOk P run) : XOk P (xstep F run) := by
  have hc := xcall_ok hF hr
  intro c e s x e' s' h nt Q hq
  unfold xstep at h
  split at h
  · cases h; exact ⟨.skip hq, fun _ h => by cases h⟩
  · split at h <;> cases h
    rename_i hx
    exact ⟨.ops (xops_sound hc hx hq), fun _ h => by cases h⟩
  · rw [frcN_eq] at h
    split at h <;> cases h
    rename_i hx
    exact ⟨.draw (xdraw_sound hc hx hq), fun _ h => by cases h⟩
  · rename_i a b
    refine ⟨?_, fun _ h => by cases h⟩
    split at h
    · rename_i e1 s1 h1
      refine .seq ((hr _ _ _ _ _ _ h1 nt _ ?_).1)
      exact (hr _ _ _ _ _ _ h nt Q hq).1
    · rename_i hne
      refine .seq ((hr _ _ _ _ _ _ h nt _ ?_).1)
      cases x with
      | normal => exact absurd h (hne _ _)
      | _ => exact hq
  · rename_i c a b
    refine ⟨?_, fun _ h => by cases h⟩
    split at h
    · rename_i hb
      exact .cond hb (fun _ => (hr _ _ _ _ _ _ h nt Q hq).1) (fun h => by cases h)
    · rename_i hb
      exact .cond hb (fun h => by cases h) (fun _ => (hr _ _ _ _ _ _ h nt Q hq).1)
    · cases h
  · rename_i id b
    refine ⟨?_, fun _ h => by cases h⟩
    split at h
    · rename_i id' e1 s1 h1
      refine .block ((hr _ _ _ _ _ _ h1 nt _ ?_).1)
      simp only
      split at h
      · rename_i hb
        cases h
        rw [if_pos (Nat.eq_of_beq_eq_true hb)]; exact hq
      · rename_i hb
        cases h
        rw [if_neg (Nat.ne_of_beq_eq_false hb)]; exact hq
    · rename_i hne
      refine .block ((hr _ _ _ _ _ _ h nt _ ?_).1)
      cases x with
      | exit i => exact absurd h (hne _ _ _)
      | _ => exact hq
  · rename_i b
    have key : ∃ n, AWr P nt b Q n e.fn s.st := by
      split at h
      · rename_i e1 s1 h1
        obtain ⟨n, hn⟩ := (hr _ _ _ _ _ _ h nt Q hq).2 b rfl
        exact ⟨n + 1, (hr _ _ _ _ _ _ h1 nt (fun e t' s' => match e with | .normal => AWr P nt b Q n t' s' | e => Q e t' s') hn).1⟩
      · rename_i hne
        refine ⟨1, (hr _ _ _ _ _ _ h nt (fun e t' s' => match e with | .normal => AWr P nt b Q 0 t' s' | e => Q e t' s') ?_).1⟩
        cases x with
        | normal => exact absurd h (hne _ _)
        | _ => exact hq
    refine ⟨?_, fun b' hb => by cases hb; exact key⟩
    obtain ⟨n, hn⟩ := key
    exact hn.sound
  · cases h; exact ⟨.exit hq, fun _ h => by cases h⟩
  · cases h; exact ⟨.ret hq, fun _ h => by cases h⟩

theorem xcode_ok (hF : ∀ f af, F f = some af → compF P f = some af) : ∀ n, XOk P (xcode F n)
  | 0 => fun _ _ _ _ _ _ h => by cases h
  | n + 1 => xstep_ok hF (xcode_ok hF n)

/-- A call whose arguments and whose run are known. -/
theorem ACalls.run (hF : ∀ f af, F f = some af → compF P f = some af) (fuel : Nat) {f : FuncId} {args : List Value} {s s' : XS} {r : Value} {K : Value → St → Prop}
    (h : xcall F (xcode F fuel) (.func (.func f) #[] #[]) args s = some (r, s')) (hk : K r s'.st) : ACalls P f args s.st K := by
  have := xcall_ok hF (xcode_ok hF fuel) _ _ _ _ _ h K hk
  simpa [acall] using this

end
end
end Go.Ab
