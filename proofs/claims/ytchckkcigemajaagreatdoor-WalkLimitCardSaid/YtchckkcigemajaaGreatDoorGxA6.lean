/- The operations of a region, one behind the other, told by abstract values; calls by contracts. -/
import Derived.Laws.Strings
import Derived.Test.YtchckkcigemajaaGreatDoorGxA5
namespace Go.Ab
set_option linter.unusedVariables false
set_option linter.unusedSimpArgs false

structure Env where
  vars : List (Nat × AV)
  ds : List (FuncId × List AV)

def lookL : List (Nat × AV) → Nat → AV
  | [], _ => .top
  | (d, v) :: r, t => if d = t then v else lookL r t

def Env.look (env : Env) (t : Nat) : AV := lookL env.vars t

def Env.put (env : Env) (d : Option Tmp) (v : AV) : Env :=
  match d with
  | none => env
  | some d => ⟨(d, v) :: env.vars, env.ds⟩

def ev (env : Env) : Operand → AV
  | .tmp t => env.look t
  | .const v => ofVal v
  | .global _ => .top
  | .func f => .func f []

def DefR (K : Kw) (ds : List (FuncId × List AV)) (l : List Deferred) : Prop :=
  l.length = ds.length ∧ ∀ (j : Nat) (x : FuncId × List AV) (d : Deferred), ds[j]? = some x → l[j]? = some d → ∃ caps : List Value, d.target = .fn (.func x.1) caps.toArray ∧ d.args = #[] ∧ caps.length = x.2.length ∧
    ∀ (i : Nat) (c : AV) (u : Value), x.2[i]? = some c → caps[i]? = some u → K.V c u

structure EnvR (K : Kw) (n : Nat) (env : Env) (a : Act) : Prop where
  size : a.tmps.size = n
  var : ∀ t, K.V (env.look t) (a.tmps.getD t undef)
  defs : DefR K env.ds a.defers

theorem DefR.mono {K K' : Kw} (h : K.le K') {ds : List (FuncId × List AV)} {l : List Deferred} (hd : DefR K ds l) : DefR K' ds l :=
  ⟨hd.1, fun j x d hx hl => by
    obtain ⟨caps, h1, h2, h3, h4⟩ := hd.2 j x d hx hl
    exact ⟨caps, h1, h2, h3, fun i c u hc hu => Kw.V.mono h (h4 i c u hc hu)⟩⟩

theorem EnvR.mono {K K' : Kw} (h : K.le K') {n : Nat} {env : Env} {a : Act} (he : EnvR K n env a) : EnvR K' n env a :=
  ⟨he.size, fun t => Kw.V.mono h (he.var t), he.defs.mono h⟩

def dstOk (n : Nat) : Option Tmp → Bool
  | none => true
  | some d => d < n

theorem EnvR.put {K : Kw} {n : Nat} {env : Env} {a : Act} (he : EnvR K n env a) {d : Option Tmp} (hd : dstOk n d = true) {v : AV} {u : Value} (hv : K.V v u) : EnvR K n (env.put d v) (a.put d u) := by
  cases d with
  | none => exact he
  | some d =>
    have hd' : d < n := by simpa [dstOk] using hd
    refine ⟨by simpa [Act.put] using he.size, fun t => ?_, he.defs⟩
    simp only [Env.put, Env.look, lookL, Act.put]
    by_cases ht : d = t
    · subst ht
      rw [if_pos rfl]
      have : (a.tmps.setIfInBounds d u).getD d undef = u := by
        simp [Array.getD, he.size, hd']
      rw [this]; exact hv
    · rw [if_neg ht]
      have : (a.tmps.setIfInBounds d u).getD t undef = a.tmps.getD t undef := by
        simp only [Array.getD_eq_getD_getElem?, Array.getElem?_setIfInBounds_ne ht]
      rw [this]; exact he.var t

theorem ev_ok {K : Kw} {n : Nat} {env : Env} {a : Act} (he : EnvR K n env a) (x : Operand) : K.V (ev env x) (a.eval x) := by
  cases x with
  | tmp t => exact he.var t
  | const v => exact V.ofVal v
  | global g => exact .top _
  | func f => exact V.func (caps := []) [] rfl (by simp)

/-- a value that holds no memory -/
def toLeaf : AV → Option Value
  | .val v => some v
  | _ => none
def toVal : AV → Option Value
  | .val v => some v
  | .agg cs => (cs.mapM toLeaf).map fun l => .agg l.toArray
  | .iface t (.val v) => some (.iface t v)
  | .iface t (.agg cs) => (cs.mapM toLeaf).map fun l => .iface t (.agg l.toArray)
  | _ => none

theorem leaf_eq {S : Snap} {Om : List OwnE} {ι : List Nat} {a : AV} {u v : Value} (h : V S Om ι a u) (ht : toLeaf a = some v) : u = v := by
  cases a <;> simp [toLeaf] at ht
  subst ht
  cases h; rfl

theorem leaves_eq {S : Snap} {Om : List OwnE} {ι : List Nat} : ∀ {cs : List AV} {us l : List Value}, us.length = cs.length → (∀ (j : Nat) (c : AV) (u : Value), cs[j]? = some c → us[j]? = some u → V S Om ι c u) → cs.mapM toLeaf = some l → us = l
  | [], us, l, hl, _, hm => by simp at hm; subst hm; exact List.eq_nil_of_length_eq_zero (by simpa using hl)
  | c :: cs, [], l, hl, _, _ => by simp at hl
  | c :: cs, u :: us, l, hl, hV, hm => by
    simp only [List.mapM_cons] at hm
    cases hc : toLeaf c with
    | none => simp [hc] at hm
    | some v =>
      cases hr : cs.mapM toLeaf with
      | none => simp [hc, hr] at hm
      | some r =>
        simp [hc, hr] at hm
        subst hm
        rw [leaf_eq (hV 0 c u rfl rfl) hc, leaves_eq (us := us) (by simpa using hl) (fun j c u hc hu => hV (j + 1) c u (by simpa using hc) (by simpa using hu)) hr]

theorem toVal_ok {S : Snap} {Om : List OwnE} {ι : List Nat} {a : AV} {u v : Value} (h : V S Om ι a u) (ht : toVal a = some v) : u = v := by
  unfold toVal at ht
  split at ht
  · injection ht with ht; subst ht; cases h; rfl
  · simp only [Option.map_eq_some_iff] at ht
    obtain ⟨l, hl, rfl⟩ := ht
    cases h with
    | agg us hlen hV => rw [leaves_eq hlen hV hl]
  · injection ht with ht; subst ht
    cases h with
    | iface h => cases h; rfl
  · simp only [Option.map_eq_some_iff] at ht
    obtain ⟨l, hl, rfl⟩ := ht
    cases h with
    | iface h => cases h with
      | agg us hlen hV => rw [leaves_eq hlen hV hl]
  · cases ht

/-- what a piece of semantics gives that touches no memory -/
def peek (P : Program) {α : Type} : Sem α → Option α
  | .pure a => some a
  | .program k => peek P (k P)
  | _ => none

theorem peek_ok {P : Program} {α : Type} : ∀ {s : Sem α} {a : α}, peek P s = some a → ∀ w, s.run P w = .ok a w
  | .pure _, a, h, w => by simp [peek] at h; subst h; rfl
  | .program k, a, h, w => by simp only [peek] at h; simp only [Sem.run]; exact peek_ok h w
  | .load .., a, h, w => by simp [peek] at h
  | .store .., a, h, w => by simp [peek] at h
  | .new .., a, h, w => by simp [peek] at h
  | .shape .., a, h, w => by simp [peek] at h
  | .freeze .., a, h, w => by simp [peek] at h
  | .frozen .., a, h, w => by simp [peek] at h
  | .getObj .., a, h, w => by simp [peek] at h
  | .setObj .., a, h, w => by simp [peek] at h
  | .choose .., a, h, w => by simp [peek] at h
  | .sys .., a, h, w => by simp [peek] at h
  | .mark .., a, h, w => by simp [peek] at h
  | .halt .., a, h, w => by simp [peek] at h

/-- two numbers, two texts -/
def intA (op : BinOp) (k : IntKind) (a b : Int) : Option Value :=
  match op with
  | .add => some (.int k (k.wrap (a + b)))
  | .sub => some (.int k (k.wrap (a - b)))
  | .mul => some (.int k (k.wrap (a * b)))
  | .eql => some (.bool (a == b))
  | .neq => some (.bool (a != b))
  | .lss => some (.bool (decide (a < b)))
  | .leq => some (.bool (decide (a ≤ b)))
  | .gtr => some (.bool (decide (a > b)))
  | .geq => some (.bool (decide (a ≥ b)))
  | .quo => if b = 0 then none else some (.int k (k.wrap (a.tdiv b)))
  | .rem => if b = 0 then none else some (.int k (a.tmod b))
  | .and => some (.int k (k.wrap ((BitVec.ofInt k.bits a &&& BitVec.ofInt k.bits b).toNat : Int)))
  | .or => some (.int k (k.wrap ((BitVec.ofInt k.bits a ||| BitVec.ofInt k.bits b).toNat : Int)))
  | .xor => some (.int k (k.wrap ((BitVec.ofInt k.bits a ^^^ BitVec.ofInt k.bits b).toNat : Int)))
  | .andNot => some (.int k (k.wrap ((BitVec.ofInt k.bits a &&& ~~~BitVec.ofInt k.bits b).toNat : Int)))
  | _ => none

def shiftA (op : BinOp) (k : IntKind) (a b : Int) : Option Value :=
  if b < 0 then none else
  match op with
  | .shl => some (.int k (k.wrap (a * 2 ^ (min b.toNat k.bits))))
  | .shr => some (.int k (a.fdiv (2 ^ (min b.toNat k.bits))))
  | _ => none

def eqB : List UInt8 → List UInt8 → Bool
  | [], [] => true
  | a :: as, b :: bs => match Nat.beq a.toNat b.toNat with
    | true => eqB as bs
    | false => false
  | _, _ => false

def strA (op : BinOp) (x y : ByteArray) : Option Value :=
  match op with
  | .add => if x.data.toList.length + y.data.toList.length ≤ 9223372036854775807 then some (.string ⟨⟨x.data.toList ++ y.data.toList⟩⟩) else none
  | .eql => some (.bool (eqB x.data.toList y.data.toList))
  | .neq => some (.bool (!(eqB x.data.toList y.data.toList)))
  | .lss => some (.bool (Op.bytesLess x.data.toList y.data.toList))
  | .leq => some (.bool (Op.bytesLess x.data.toList y.data.toList || eqB x.data.toList y.data.toList))
  | .gtr => some (.bool (!(Op.bytesLess x.data.toList y.data.toList || eqB x.data.toList y.data.toList)))
  | .geq => some (.bool (!(Op.bytesLess x.data.toList y.data.toList)))
  | _ => none

def isConst : Operand → Bool
  | .const _ => true
  | _ => false

/-- a slice that has an array, compared with nil -/
def nilA (P : Program) (t : TypeId) (y : Operand) (r : Bool) : Option Value :=
  match y, P.underlying t with
  | .const (.slice none 0 0), some (.slice _) => some (.bool r)
  | _, _ => none

def binA (P : Program) (op : BinOp) (t : TypeId) (x y : Operand) (a b : AV) : Option Value :=
  match op, a, b with
  | .shl, .val (.int k m), .val (.int _ n) => shiftA .shl k m n
  | .shr, .val (.int k m), .val (.int _ n) => shiftA .shr k m n
  | op, .val (.int k m), .val (.int k' n) => if k = k' then intA op k m n else none
  | op, .val (.string s), .val (.string s') => strA op s s'
  | .eql, .ptr _ _, .val (.pointer none) => match P.underlying t with | some (.pointer _) => some (.bool false) | _ => none
  | .neq, .ptr _ _, .val (.pointer none) => match P.underlying t with | some (.pointer _) => some (.bool true) | _ => none
  | .eql, .iface _ _, .val .nilIface => match P.underlying t with | some (.interface _) => some (.bool false) | _ => none
  | .neq, .iface _ _, .val .nilIface => match P.underlying t with | some (.interface _) => some (.bool true) | _ => none
  | .eql, .func _ _, .val .nilFunc => match P.underlying t with | some (.func _ _ _) => some (.bool false) | _ => none
  | .neq, .func _ _, .val .nilFunc => match P.underlying t with | some (.func _ _ _) => some (.bool true) | _ => none
  | .eql, .slice (_ :: _) _, _ => nilA P t y false
  | .neq, .slice (_ :: _) _, _ => nilA P t y true
  | .eql, .slice [] .nil, _ => nilA P t y true
  | .neq, .slice [] .nil, _ => nilA P t y false
  | .eql, .row _ _ (_ + 1), _ => nilA P t y false
  | .neq, .row _ _ (_ + 1), _ => nilA P t y true
  | op, a, b =>
    match toVal a, toVal b with
    | some v, some v' => peek P (do eqGuard op t x y v v'; binOp op t v v')
    | _, _ => none

section
variable {P : Program}

theorem eqGuard_int (op : BinOp) (t : TypeId) (x y : Operand) (k k' : IntKind) (m n : Int) (w : World) : (eqGuard op t x y (.int k m) (.int k' n)).run P w = .ok () w := by
  unfold eqGuard; split <;> rfl
theorem eqGuard_str (op : BinOp) (t : TypeId) (x y : Operand) (m n : ByteArray) (w : World) : (eqGuard op t x y (.string m) (.string n)).run P w = .ok () w := by
  unfold eqGuard; split <;> rfl

theorem intA_ok {op : BinOp} {t : TypeId} {k : IntKind} {m n : Int} {v : Value} (h : intA op k m n = some v) (w : World) : (binOp op t (.int k m) (.int k n)).run P w = .ok v w := by
  cases op <;> simp [intA] at h <;> first
    | (subst h; simp [binOp, Op.intArith, Op.intCmp, Op.intBits]; done)
    | (obtain ⟨h0, rfl⟩ := h; simp [binOp, Op.intDiv, h0])

theorem shiftA_ok {op : BinOp} {t : TypeId} {k k' : IntKind} {m n : Int} {v : Value} (hop : op = .shl ∨ op = .shr) (h : shiftA op k m n = some v) (w : World) : (binOp op t (.int k m) (.int k' n)).run P w = .ok v w := by
  unfold shiftA at h
  split at h
  · cases h
  · rename_i hn
    rcases hop with rfl | rfl <;> simp at h <;> subst h <;> simp [binOp, Op.shift, hn]

theorem eqB_eq : ∀ (a b : List UInt8), eqB a b = (a == b)
  | [], [] => rfl
  | [], _ :: _ => rfl
  | _ :: _, [] => rfl
  | a :: as, b :: bs => by
    simp only [eqB]
    have ih := eqB_eq as bs
    have hab : Nat.beq a.toNat b.toNat = (a == b) := by
      by_cases h : a = b
      · subst h; simp
      · have h2 : ¬ a.toNat = b.toNat := fun hq => h (UInt8.toNat_inj.1 hq)
        have h3 : Nat.beq a.toNat b.toNat = false := by
          cases hh : Nat.beq a.toNat b.toNat with
          | false => rfl
          | true => exact absurd (Nat.eq_of_beq_eq_true hh) h2
        rw [h3]; simp [h]
    rw [hab, ih]
    cases h : (a == b) <;> simp [h]

theorem data_append (x y : ByteArray) : x ++ y = ⟨⟨x.data.toList ++ y.data.toList⟩⟩ := by
  cases x with
  | mk x => cases y with
    | mk y =>
      cases x with
      | mk x => cases y with
        | mk y =>
          apply ByteArray.ext
          simp

theorem strA_ok {op : BinOp} {t : TypeId} {m n : ByteArray} {v : Value} (h : strA op m n = some v) (w : World) : (binOp op t (.string m) (.string n)).run P w = .ok v w := by
  cases op <;> simp only [strA, Option.some.injEq, reduceCtorEq] at h <;> first
    | (subst h; simp [binOp, Op.stringOp, ByteArray.toList_eq, eqB_eq]; done)
    | (split at h
       · rename_i h0
         injection h with h
         subst h
         rw [show (⟨⟨m.data.toList ++ n.data.toList⟩⟩ : ByteArray) = m ++ n from (data_append m n).symm]
         have h0 : m.size + n.size ≤ 9223372036854775807 := h0
         have : ¬ (((m.size + n.size : Nat) : Int) > IntKind.i64.max) := by simp [IntKind.max, IntKind.bits, IntKind.signed]; omega
         simp only [binOp, Op.stringOp, if_neg this]; rfl
       · cases h)

theorem equal_def (t : TypeId) (x y : Value) : Op.equal t x y = Op.equalIn (9999 + 1) t x y := rfl
theorem equalIn_ptr_nil {t e : TypeId} (hu : P.underlying t = some (.pointer e)) (d : Nat) (a : Addr) (w : World) : (Op.equalIn (d + 1) t (.pointer (some a)) (.pointer none)).run P w = .ok false w := by
  simp [Op.equalIn, run_underlying hu]
theorem equalIn_iface_nil {t : TypeId} {ms : Array (String × TypeId)} (hu : P.underlying t = some (.interface ms)) (d : Nat) (t' : TypeId) (v : Value) (w : World) : (Op.equalIn (d + 1) t (.iface t' v) .nilIface).run P w = .ok false w := by
  simp [Op.equalIn, run_underlying hu]
theorem bin_ptr_nil {t e : TypeId} (hu : P.underlying t = some (.pointer e)) (x y : Operand) (a : Addr) (w : World) :
    (do eqGuard .eql t x y (.pointer (some a)) (.pointer none); binOp .eql t (.pointer (some a)) (.pointer none) : Sem Value).run P w = .ok (.bool false) w ∧
    (do eqGuard .neq t x y (.pointer (some a)) (.pointer none); binOp .neq t (.pointer (some a)) (.pointer none) : Sem Value).run P w = .ok (.bool true) w := by
  have h := equalIn_ptr_nil hu 9999 a w
  have h2 : ∀ op : BinOp, (eqGuard op t x y (.pointer (some a)) (.pointer none)).run P w = .ok () w := by intro op; unfold eqGuard; split <;> rfl
  constructor
  · simp only [Sem.run_bind, h2, Result.andThen_ok, binOp, equal_def, h, Sem.run_pure]
  · simp only [Sem.run_bind, h2, Result.andThen_ok, binOp, equal_def, h, Sem.run_pure, Bool.not_false]
theorem bin_iface_nil {t : TypeId} {ms : Array (String × TypeId)} (hu : P.underlying t = some (.interface ms)) (x y : Operand) (t' : TypeId) (v : Value) (w : World) :
    (do eqGuard .eql t x y (.iface t' v) .nilIface; binOp .eql t (.iface t' v) .nilIface : Sem Value).run P w = .ok (.bool false) w ∧
    (do eqGuard .neq t x y (.iface t' v) .nilIface; binOp .neq t (.iface t' v) .nilIface : Sem Value).run P w = .ok (.bool true) w := by
  have h := equalIn_iface_nil hu 9999 t' v w
  have h2 : ∀ op : BinOp, (eqGuard op t x y (.iface t' v) .nilIface).run P w = .ok () w := by intro op; unfold eqGuard; split <;> rfl
  constructor
  · simp only [Sem.run_bind, h2, Result.andThen_ok, binOp, equal_def, h, Sem.run_pure]
  · simp only [Sem.run_bind, h2, Result.andThen_ok, binOp, equal_def, h, Sem.run_pure, Bool.not_false]

theorem equalIn_func_nil {t : TypeId} {ps rs : Array TypeId} {vr : Bool} (hu : P.underlying t = some (.func ps rs vr)) (d : Nat) (f : Fn) (a b : Array Value) (w : World) : (Op.equalIn (d + 1) t (.func f a b) .nilFunc).run P w = .ok false w := by
  simp [Op.equalIn, run_underlying hu]
theorem equalIn_slice_nil {t e : TypeId} (hu : P.underlying t = some (.slice e)) (d : Nat) (a : Addr) (n c : Nat) (w : World) : (Op.equalIn (d + 1) t (.slice (some a) n c) (.slice none 0 0)).run P w = .ok false w := by
  simp [Op.equalIn, run_underlying hu]
theorem bin_func_nil {t : TypeId} {ps rs : Array TypeId} {vr : Bool} (hu : P.underlying t = some (.func ps rs vr)) (x y : Operand) (f : Fn) (a b : Array Value) (w : World) :
    (do eqGuard .eql t x y (.func f a b) .nilFunc; binOp .eql t (.func f a b) .nilFunc : Sem Value).run P w = .ok (.bool false) w ∧
    (do eqGuard .neq t x y (.func f a b) .nilFunc; binOp .neq t (.func f a b) .nilFunc : Sem Value).run P w = .ok (.bool true) w := by
  have h := equalIn_func_nil hu 9999 f a b w
  have h2 : ∀ op : BinOp, (eqGuard op t x y (.func f a b) .nilFunc).run P w = .ok () w := by intro op; unfold eqGuard; split <;> rfl
  constructor
  · simp only [Sem.run_bind, h2, Result.andThen_ok, binOp, equal_def, h, Sem.run_pure]
  · simp only [Sem.run_bind, h2, Result.andThen_ok, binOp, equal_def, h, Sem.run_pure, Bool.not_false]

theorem bin_slice_nil {t e : TypeId} (hu : P.underlying t = some (.slice e)) (x y : Operand) (a : Addr) (n c : Nat) (w : World) :
    (do eqGuard .eql t x y (.slice (some a) n c) (.slice none 0 0); binOp .eql t (.slice (some a) n c) (.slice none 0 0) : Sem Value).run P w = .ok (.bool false) w ∧
    (do eqGuard .neq t x y (.slice (some a) n c) (.slice none 0 0); binOp .neq t (.slice (some a) n c) (.slice none 0 0) : Sem Value).run P w = .ok (.bool true) w := by
  have h := equalIn_slice_nil hu 9999 a n c w
  have h2 : ∀ op : BinOp, (eqGuard op t x y (.slice (some a) n c) (.slice none 0 0)).run P w = .ok () w := by intro op; unfold eqGuard; split <;> rfl
  constructor
  · simp only [Sem.run_bind, h2, Result.andThen_ok, binOp, equal_def, h, Sem.run_pure]
  · simp only [Sem.run_bind, h2, Result.andThen_ok, binOp, equal_def, h, Sem.run_pure, Bool.not_false]

theorem equalIn_nil_nil {t e : TypeId} (hu : P.underlying t = some (.slice e)) (d : Nat) (w : World) : (Op.equalIn (d + 1) t (.slice none 0 0) (.slice none 0 0)).run P w = .ok true w := by
  simp [Op.equalIn, run_underlying hu]
theorem bin_nil_nil {t e : TypeId} (hu : P.underlying t = some (.slice e)) (x y : Operand) (w : World) :
    (do eqGuard .eql t x y (.slice none 0 0) (.slice none 0 0); binOp .eql t (.slice none 0 0) (.slice none 0 0) : Sem Value).run P w = .ok (.bool true) w ∧
    (do eqGuard .neq t x y (.slice none 0 0) (.slice none 0 0); binOp .neq t (.slice none 0 0) (.slice none 0 0) : Sem Value).run P w = .ok (.bool false) w := by
  have h := equalIn_nil_nil hu 9999 w
  have h2 : ∀ op : BinOp, (eqGuard op t x y (.slice none 0 0) (.slice none 0 0)).run P w = .ok () w := by intro op; unfold eqGuard; split <;> rfl
  constructor
  · simp only [Sem.run_bind, h2, Result.andThen_ok, binOp, equal_def, h, Sem.run_pure]
  · simp only [Sem.run_bind, h2, Result.andThen_ok, binOp, equal_def, h, Sem.run_pure, Bool.not_true]
theorem V.isNil {S : Snap} {Om : List OwnE} {ι : List Nat} {u : Value} (h : V S Om ι (.slice [] .nil) u) : u = .slice none 0 0 := by
  cases h with
  | empty ht => obtain ⟨rfl, rfl⟩ := ht; rfl
  | slice us hl hsz hes hS hV hc hto => exact hto.elim

theorem nilA_some {t : TypeId} {y : Operand} {r : Bool} {v : Value} (h : nilA P t y r = some v) : v = .bool r ∧ y = .const (.slice none 0 0) ∧ ∃ e, P.underlying t = some (.slice e) := by
  unfold nilA at h
  split at h
  · rename_i e hu; injection h with h; exact ⟨h.symm, rfl, e, hu⟩
  · cases h

theorem V.based {S : Snap} {Om : List OwnE} {ι : List Nat} {e : List AV} {es : List (List AV)} {tag : Tag} {u : Value} (h : V S Om ι (.slice (e :: es) tag) u) : ∃ a n c, u = .slice (some a) n c := by
  cases h; exact ⟨_, _, _, rfl⟩
theorem V.basedRow {S : Snap} {Om : List OwnE} {ι : List Nat} {g o n : Nat} {u : Value} (h : V S Om ι (.row g o n) u) : ∃ a n c, u = .slice (some a) n c := by
  cases h; exact ⟨_, _, _, rfl⟩

theorem binA_ok {K : Kw} {w : World} {op : BinOp} {t : TypeId} {x y : Operand} {a b : AV} {u u' v : Value} (ha : K.V a u) (hb : K.V b u') (hy : ∀ c, y = .const c → u' = c) (h : binA P op t x y a b = some v) :
    (do eqGuard op t x y u u'; binOp op t u u' : Sem Value).run P w = .ok v w := by
  unfold binA at h
  split at h
  · cases ha; cases hb
    simp only [Sem.run_bind, eqGuard_int, Result.andThen_ok]
    exact shiftA_ok (.inl rfl) h w
  · cases ha; cases hb
    simp only [Sem.run_bind, eqGuard_int, Result.andThen_ok]
    exact shiftA_ok (.inr rfl) h w
  · cases ha; cases hb
    split at h
    · rename_i hk; subst hk
      simp only [Sem.run_bind, eqGuard_int, Result.andThen_ok]
      exact intA_ok h w
    · cases h
  · cases ha; cases hb
    simp only [Sem.run_bind, eqGuard_str, Result.andThen_ok]
    exact strA_ok h w
  · split at h
    · rename_i e hu
      injection h with h; subst h
      cases hb
      cases ha
      exact (bin_ptr_nil hu x y _ w).1
    · cases h
  · split at h
    · rename_i e hu
      injection h with h; subst h
      cases hb
      cases ha
      exact (bin_ptr_nil hu x y _ w).2
    · cases h
  · split at h
    · rename_i e hu
      injection h with h; subst h
      cases hb
      cases ha
      exact (bin_iface_nil hu x y _ _ w).1
    · cases h
  · split at h
    · rename_i e hu
      injection h with h; subst h
      cases hb
      cases ha
      exact (bin_iface_nil hu x y _ _ w).2
    · cases h
  · split at h
    · rename_i ps rs vr hu
      injection h with h; subst h
      cases hb
      cases ha
      exact (bin_func_nil hu x y _ _ _ w).1
    · cases h
  · split at h
    · rename_i ps rs vr hu
      injection h with h; subst h
      cases hb
      cases ha
      exact (bin_func_nil hu x y _ _ _ w).2
    · cases h
  · obtain ⟨rfl, hyc, e, hu⟩ := nilA_some h
    obtain ⟨a, n, c, rfl⟩ := ha.based
    rw [hy _ hyc]
    exact (bin_slice_nil hu x y a n c w).1
  · obtain ⟨rfl, hyc, e, hu⟩ := nilA_some h
    obtain ⟨a, n, c, rfl⟩ := ha.based
    rw [hy _ hyc]
    exact (bin_slice_nil hu x y a n c w).2
  · obtain ⟨rfl, hyc, e, hu⟩ := nilA_some h
    rw [ha.isNil, hy _ hyc]
    exact (bin_nil_nil hu x y w).1
  · obtain ⟨rfl, hyc, e, hu⟩ := nilA_some h
    rw [ha.isNil, hy _ hyc]
    exact (bin_nil_nil hu x y w).2
  · obtain ⟨rfl, hyc, e, hu⟩ := nilA_some h
    obtain ⟨a, n, c, rfl⟩ := ha.basedRow
    rw [hy _ hyc]
    exact (bin_slice_nil hu x y a n c w).1
  · obtain ⟨rfl, hyc, e, hu⟩ := nilA_some h
    obtain ⟨a, n, c, rfl⟩ := ha.basedRow
    rw [hy _ hyc]
    exact (bin_slice_nil hu x y a n c w).2
  · split at h
    · rename_i v1 v2 h1 h2
      rw [toVal_ok ha h1, toVal_ok hb h2]
      exact peek_ok h w
    · cases h

end
end Go.Ab
