/- One operation told by abstract values; regions in the order of the text; calls by their contracts. -/
import Derived.Test.YtchckkcigemajaaGreatDoorGxA8
import Derived.Test.YtchckkcigemajaaGreatDoorGxB2
namespace Go.Ab
set_option linter.unusedVariables false
set_option linter.unusedSimpArgs false

/-- x[lo:hi] of a boxed array, or of a slice over one -/
def sliceBoxA (P : Program) (A : AState) (t : TypeId) (x : AV) (lo hi : Option Value) : Option AV :=
  match x with
  | .ptr i off =>
    match tyArr P t with
    | some (n, e) =>
      match boundA n hi, tySize P e with
      | some h, some s => match lowA h lo with
        | some l => if l < n then some (.mslice i (off + l * s) (h - l) (n - l)) else none
        | none => none
      | _, _ => none
    | none => none
  | .mslice i off len cap =>
    match tyElem P t with
    | some e =>
      match boundA len hi, tySize P e with
      | some h, some s => match lowA h lo with
        | some l => if l < h ∧ len ≤ cap then some (.mslice i (off + l * s) (h - l) (cap - l)) else none
        | none => none
      | _, _ => none
    | none => none
  | x => sliceA P A t x lo hi

/-- x[:0:0] -/
def sliceNoA (P : Program) (t : TypeId) (x h m : AV) : Option AV :=
  match x, h, m, (tyElem P t).bind (tySize P) with
  | .slice _ _, .val (.int _ i), .val (.int _ j), some _ => if i = 0 ∧ j = 0 then some (.slice [] .fresh) else none
  | _, _, _, _ => none

def convA (P : Program) (A : AState) (src dst : TypeId) (x : AV) : Option AV :=
  match P.underlying src, P.underlying dst, x with
  | some .string, some (.slice e), .val (.string s) => match P.underlying e with | some (.int .u8) => some (.slice (byteCells s) .any) | _ => none
  | some (.slice e), some .string, x => match P.underlying e with | some (.int .u8) => (bytesA A x).map fun ns => .val (.string (strOf ns)) | _ => none
  | _, _, x => (toVal x).bind fun v => (peek P (convert src dst v)).map .val

def optVal : Option AV → Option (Option Value)
  | none => some none
  | some (.val v) => some (some v)
  | _ => none

inductive ORes where
  | next (v : AV) (A : AState)
  | skip (A : AState)
  | pan (v : AV)
  | call (k : FuncId) (args : List AV)
  | defer (f : FuncId) (caps : List AV)
  | bad

def ORes.ofV (A : AState) : Option AV → ORes
  | some v => .next v A
  | none => .bad

def ORes.ofVA : Option (AV × AState) → ORes
  | some (v, A) => .next v A
  | none => .bad

def builtinA (P : Program) (env : Env) (A : AState) (b : Builtin) (argTypes : Array TypeId) (ty : TypeId) (args : List AV) : ORes :=
  match b, argTypes.toList, args with
  | .len, [t], [x] => .ofV A ((lenA P t x).map fun n => .val (.int .i64 n))
  | .append, [t, t'], [s, x] => if t = t' then .ofVA (appendA P A t (s) (x)) else .bad
  | .min, _, args => .ofV A ((args.mapM toLeaf).bind fun vs => (peek P (Builtin.min_ argTypes ty vs.toArray)).map .val)
  | .max, _, args => .ofV A ((args.mapM toLeaf).bind fun vs => (peek P (Builtin.max_ argTypes ty vs.toArray)).map .val)
  | .unsafeSliceData, _, [.slice [] .nil] => .next (.val (.pointer none)) A
  | .unsafeString, [_, _], [.val (.pointer none), .val (.int _ n)] => if n = 0 then .next (.val (.string .empty)) A else .bad
  | .panic, _, [.iface t v] => .pan (.iface t v)
  | _, _, _ => .bad

def aOp (P : Program) (env : Env) (A : AState) (op : Op) (ty : TypeId) : ORes :=
  match op with
  | .move x => .next (ev env x) A
  | .assign x => .next (ev env x) A
  | .pick c a b => match ev env c with | .val (.bool t) => .next (if t then ev env a else ev env b) A | _ => .bad
  | .alloc e => match (tyZero P e).bind fun z => cellsOf (ofVal z) with | some cs => .next (.ptr A.boxes.length 0) { A with boxes := A.boxes ++ [cs] } | none => .bad
  | .box e x => match cellsOf (ev env x) with | some cs => .next (.ptr A.boxes.length 0) { A with boxes := A.boxes ++ [cs] } | none => .bad
  | .build t parts => if tyWhole P t then .ofV A (buildA P t (parts.toList.map fun p => (p.1, ev env p.2))) else .bad
  | .buildSlice t len parts => .ofV A (buildSliceA P t len (parts.toList.map fun p => (p.1, ev env p.2)))
  | .load t a => .ofV A (loadA P A t (ev env a))
  | .store t a x => match storeA P A t (ev env a) (ev env x) with | some A' => .skip A' | none => .bad
  | .nilCheck x => match ev env x with | .ptr i off => .next (.ptr i off) A | .eptr cs => .next (.eptr cs) A | .rptr g k f => .next (.rptr g k f) A | _ => .bad
  | .binOp op t x y _ => .ofV A ((binA P op t x y (ev env x) (ev env y)).map .val)
  | .unOp op _ x => .ofV A ((toVal (ev env x)).bind fun v => (peek P (Op.unary op v)).map .val)
  | .convert s d x => .ofV A (convA P A s d (ev env x))
  | .makeInterface t x => match P.underlying t with | some d => if isIface d then .bad else .next (.iface t (ev env x)) A | none => .bad
  | .makeFunc (.func f) first captured => if first.size = 0 then .next (.func f (captured.toList.map (ev env))) A else .bad
  | .makeSlice t l c => match ev env l, ev env c with | .val (.int .i64 l), .val (.int .i64 c) => .ofVA (makeSliceA P A t l c) | _, _ => .bad
  | .slice t x lo hi none => match optVal (lo.map (ev env)), optVal (hi.map (ev env)) with | some lo, some hi => .ofV A (sliceBoxA P A t (ev env x) lo hi) | _, _ => .bad
  | .slice t x none (some h) (some m) => .ofV A (sliceNoA P t (ev env x) (ev env h) (ev env m))
  | .fieldAddr s x f => .ofV A (fieldA P s (ev env x) f)
  | .field t x f => .ofV A (fieldVA P t (ev env x) f)
  | .indexAddr t x i => match ev env i with | .val (.int _ i) => .ofV A (indexA P A t (ev env x) i) | _ => .bad
  | .index t x i => match ev env i with | .val (.int _ i) => .ofV A (indexVA P t (ev env x) i) | _ => .bad
  | .typeAssert x _ t ok => .ofV A (assertA P t ok (ev env x))
  | .makeMap _ none => .next (.mapr A.lens.length) { A with lens := A.lens ++ [0], rows := (A.lens.length, []) :: A.rows }
  | .lookup t m k c => .ofV A (lookupA P A t (ev env m) (ev env k) c)
  | .mapUpdate t m k x => match mapUpdateA P A t (ev env m) (ev env k) (ev env x) with | some A' => .skip A' | none => .bad
  | .extract x i => match ev env x with | .tuple vs => .ofV A vs[i]? | _ => .bad
  | .panic x => match ev env x with | .iface t v => .pan (.iface t v) | _ => .bad
  | .call { callee := .builtin b, args, argTypes } => builtinA P env A b argTypes ty (args.toList.map (ev env))
  | .call { callee := .value f, args, .. } => match ev env f with | .func k caps => .call k ((args.toList.map fun x => weakA (ev env x)) ++ caps) | _ => .bad
  | .defer { callee := .value f, args, .. } => match ev env f with | .func k caps => if args.size = 0 then .defer k caps else .bad | _ => .bad
  | _ => .bad

def hasBody (P : Program) (k : FuncId) : Bool :=
  match P.funcs[k]? with
  | some fn => fn.body.isSome && !(fn.name == "runtime.NumGoroutine")
  | none => false

def VArgs (K : Kw) (args : List AV) (vals : Array Value) : Prop :=
  vals.size = args.length ∧ ∀ (j : Nat) (a : AV) (u : Value), args[j]? = some a → vals[j]? = some u → K.V a u

section
variable {P : Program}

theorem sliceBoxA_ok {K : Kw} {A : AState} {w : World} (h : Sat K A w) {x : AV} {u : Value} (hx : K.V x u) {t : TypeId} {lo hi : Option Value} {v : AV} (hs : sliceBoxA P A t x lo hi = some v) :
    ∃ y, (Instr.sliceAt t u lo hi none).run P w = .ok y w ∧ K.V v y := by
  unfold sliceBoxA at hs
  split at hs
  · rename_i i off
    split at hs
    case h_2 => cases hs
    rename_i n e harr
    have hu := tyArr_some harr
    split at hs
    case h_2 => cases hs
    rename_i h s hh hsz
    split at hs
    case h_2 => cases hs
    rename_i l hl
    split at hs
    case isFalse => cases hs
    rename_i hln
    injection hs with hs
    subst hs
    cases hx with
    | ptr hb =>
      rename_i b
      have hne : ¬ n = l := by omega
      have hle := boundA_le hh
      have hle2 := lowA_le hl
      refine ⟨.slice (some ⟨b, off + l * s, none⟩) (h - l) (n - l), ?_, .mslice hb (Nat.le_refl _)⟩
      simp [Instr.sliceAt, Instr.sureAddr, run_underlying hu, run_sliceBounds2' (P := P) hh (Nat.le_refl _) hl, run_sizeOf_some hsz, hne, add_lit]
  · rename_i i off len cap
    split at hs
    case h_2 => cases hs
    rename_i e hel
    have hu := tyElem_some hel
    split at hs
    case h_2 => cases hs
    rename_i h s hh hsz
    split at hs
    case h_2 => cases hs
    rename_i l hl
    split at hs
    case isFalse => cases hs
    rename_i hln
    injection hs with hs
    subst hs
    cases hx with
    | mslice hb hcc =>
      rename_i cap2 b
      have hle := boundA_le hh
      have hne : ¬ cap2 = l := by omega
      refine ⟨.slice (some ⟨b, off + l * s, none⟩) (h - l) (cap2 - l), ?_, .mslice hb (by omega)⟩
      simp [Instr.sliceAt, Instr.slice, run_underlying hu, run_sliceBounds2' (P := P) hh (by omega : len ≤ cap2) hl, run_sizeOf_some hsz, hne, add_lit]
  · exact sliceA_ok h hx hs

theorem sliceNoA_ok {K : Kw} {w : World} {x h m : AV} {u uh um : Value} (hx : K.V x u) (hh : K.V h uh) (hm : K.V m um) {t : TypeId} {v : AV} (hs : sliceNoA P t x h m = some v) :
    ∃ y, (Instr.sliceAt t u none (some uh) (some um)).run P w = .ok y w ∧ K.V v y := by
  unfold sliceNoA at hs
  split at hs
  · rename_i es tag k i k' j sz hel
    split at hs
    · rename_i hij
      obtain ⟨rfl, rfl⟩ := hij
      injection hs with hs
      subst hs
      obtain ⟨e, he, hsz⟩ := Option.bind_eq_some_iff.1 hel
      have hu := tyElem_some he
      cases hh
      cases hm
      have key : ∀ (a : Option Addr) (len cap : Nat), (Instr.sliceAt t (.slice a len cap) none (some (.int k 0)) (some (.int k' 0))).run P w = .ok (.slice a 0 0) w := by
        intro a len cap
        simp [Instr.sliceAt, Instr.slice, Instr.sliceBounds, Instr.sliceBound, asIntOf, run_underlying hu, run_sizeOf_some hsz]
      cases hx with
      | empty ht => exact ⟨_, key _ _ _, .empty rfl⟩
      | slice us hl hsz hes hS hV hc ht => exact ⟨_, key _ _ _, .empty rfl⟩
    · cases hs
  · cases hs

theorem convA_ok {K : Kw} {A : AState} {w : World} (h : Sat K A w) {x : AV} {u : Value} (hx : K.V x u) {src dst : TypeId} {v : AV} (hc : convA P A src dst x = some v) :
    ∃ K' y w', (convert src dst u).run P w = .ok y w' ∧ K.le K' ∧ Sat K' A w' ∧ K'.V v y := by
  unfold convA at hc
  split at hc
  · rename_i e s hs hd
    split at hc
    · rename_i he
      injection hc with hc
      subst hc
      cases hx
      obtain ⟨K', y, w', hr, h1, h2, h3⟩ := stringBytes_ok (P := P) h e s
      exact ⟨K', y, w', by simp [convert, run_underlying hs, run_underlying hd, run_underlying he, hr], h1, h2, h3⟩
    · cases hc
  · rename_i e hs hd
    split at hc
    · rename_i he
      simp only [Option.map_eq_some_iff] at hc
      obtain ⟨ns, hns, rfl⟩ := hc
      have hr := bytesA_ok (P := P) h hx hns
      refine ⟨K, _, w, ?_, .refl K, h, .val _⟩
      have : (convert src dst u).run P w = (Conv.bytesToString u).run P w := by
        cases hx <;> simp [bytesA] at hns <;> simp [convert, run_underlying hs, run_underlying hd, run_underlying he]
      rw [this]; exact hr
    · cases hc
  · obtain ⟨v0, hv0, hc⟩ := Option.bind_eq_some_iff.1 hc
    simp only [Option.map_eq_some_iff] at hc
    obtain ⟨r, hr, rfl⟩ := hc
    rw [toVal_ok hx hv0]
    exact ⟨K, r, w, peek_ok hr w, .refl K, h, .val _⟩

def OResOk (P : Program) (K : Kw) (A : AState) (a : Act) (w : World) (o : Oper) : ORes → Prop
  | .next v A' => ∃ K' u w', (execOp a.eval o).run P w = .ok (.value u) w' ∧ K.le K' ∧ Sat K' A' w' ∧ K'.V v u
  | .skip A' => ∃ K' w', (execOp a.eval o).run P w = .ok .skip w' ∧ K.le K' ∧ Sat K' A' w'
  | .pan v => ∃ u, (execOp a.eval o).run P w = .halt (.panic u) w ∧ K.V v u
  | .call k args => ∃ vals, (execOp a.eval o).run P w = (callFunc k vals).run P w ∧ VArgs K args vals
  | .defer f caps => ∃ d, (execOp a.eval o).run P w = .ok (.defer d) w ∧ DefR K [(f, caps)] [d]
  | .bad => True

theorem run_callFunc_body {k : FuncId} (hb : hasBody P k = true) (args : Array Value) (w : World) : (callFunc k args).run P w = .ok (.enter k args) w := by
  unfold hasBody at hb
  split at hb
  · rename_i fn hf
    simp only [Bool.and_eq_true, Bool.not_eq_true', beq_eq_false_iff_ne, ne_eq] at hb
    obtain ⟨h1, h2⟩ := hb
    have h3 : fn.body.isNone = false := by cases hbb : fn.body <;> simp_all
    simp only [callFunc, Sem.run_bind, run_program, Result.andThen_ok, hf]
    rw [if_neg (by simp [h2]), if_neg (by simp [h3])]
    rfl
  · cases hb

theorem vargs_map {K : Kw} {n : Nat} {env : Env} {a : Act} (he : EnvR K n env a) (xs : Array Operand) : VArgs K (xs.toList.map (ev env)) (xs.map a.eval) := by
  refine ⟨by simp, fun j c u hc hu => ?_⟩
  simp only [List.getElem?_map, Array.getElem?_toList] at hc
  simp only [Array.getElem?_map] at hu
  cases hx : xs[j]? with
  | none => rw [hx] at hc; cases hc
  | some x => rw [hx] at hc hu; simp at hc hu; subst hc; subst hu; exact ev_ok he x

theorem vargs_weak {K : Kw} {n : Nat} {env : Env} {a : Act} (he : EnvR K n env a) (xs : Array Operand) : VArgs K (xs.toList.map fun x => weakA (ev env x)) (xs.map a.eval) := by
  refine ⟨by simp, fun j c u hc hu => ?_⟩
  simp only [List.getElem?_map, Array.getElem?_toList] at hc
  simp only [Array.getElem?_map] at hu
  cases hx : xs[j]? with
  | none => rw [hx] at hc; cases hc
  | some x => rw [hx] at hc hu; simp at hc hu; subst hc; subst hu; exact (ev_ok he x).weakA

theorem parts_rel {K : Kw} {n : Nat} {env : Env} {a : Act} (he : EnvR K n env a) (parts : Array (Nat × Operand)) :
    (parts.toList.map fun p => (p.1, ev env p.2)).length = (parts.toList.map fun p => (p.1, a.eval p.2)).length ∧
    ∀ (j : Nat) (x : Nat × AV) (y : Nat × Value), (parts.toList.map fun p => (p.1, ev env p.2))[j]? = some x → (parts.toList.map fun p => (p.1, a.eval p.2))[j]? = some y → x.1 = y.1 ∧ K.V x.2 y.2 := by
  refine ⟨by simp, fun j x y hx hy => ?_⟩
  simp only [List.getElem?_map] at hx hy
  cases hp : parts.toList[j]? with
  | none => rw [hp] at hx; cases hx
  | some p => rw [hp] at hx hy; simp at hx hy; subst hx; subst hy; exact ⟨rfl, ev_ok he p.2⟩

theorem leafs_ok {K : Kw} {args : List AV} {vals : Array Value} (h : VArgs K args vals) {vs : List Value} (hm : args.mapM toLeaf = some vs) : vals = vs.toArray := by
  have := leaves_eq (us := vals.toList) (by simpa using h.1) (fun j c u hc hu => h.2 j c u hc (by simpa using hu)) hm
  rw [← this]

theorem optVal_ok {K : Kw} {n : Nat} {env : Env} {a : Act} (he : EnvR K n env a) {x : Option Operand} {v : Option Value} (h : optVal (x.map (ev env)) = some v) : x.map a.eval = v := by
  cases x with
  | none => simp [optVal] at h; subst h; rfl
  | some x =>
    simp only [Option.map_some] at h ⊢
    have hv := ev_ok he x
    unfold optVal at h
    split at h
    · rename_i heq; cases heq
    · rename_i w heq
      injection heq with heq
      injection h with h
      subst h
      rw [heq] at hv
      cases hv; rfl
    · cases h

theorem run_unary_peek {op : UnOp} {v r : Value} (h : peek P (Op.unary op v) = some r) (w : World) : (Op.unary op v).run P w = .ok r w := peek_ok h w

theorem len_two {α : Type} {l : List α} (h : l.length = 2) : ∃ a b, l = [a, b] := by
  match l, h with
  | [a, b], _ => exact ⟨a, b, rfl⟩

theorem builtinA_ok {K : Kw} {A : AState} {w : World} {n : Nat} {env : Env} {a : Act} (h : Sat K A w) (he : EnvR K n env a) (o : Oper) (b : Builtin) (args : Array Operand) (argTypes : Array TypeId)
    (ho : o.op = .call { callee := .builtin b, args, argTypes }) : OResOk P K A a w o (builtinA P env A b argTypes o.type (args.toList.map (ev env))) := by
  have hva := vargs_map he args
  generalize hal : args.toList.map (ev env) = al at hva
  have hrun : ∀ (s : Sem Next), (builtin b argTypes o.type (args.map fun | .const _ => true | _ => false) (args.map a.eval)) = s → (execOp a.eval o).run P w = s.run P w := by
    intro s hs
    subst hs
    unfold execOp
    simp only [ho, resolve, Sem.run_bind, Sem.run_pure, Result.andThen_ok, invoke]
    rfl
  unfold builtinA
  split
  · -- len
    rename_i t x hat
    have hat' : argTypes = #[t] := by rw [← Array.toArray_toList (xs := argTypes), hat]
    subst hat'
    cases hl : lenA P t x with
    | none => trivial
    | some m =>
      have hs := hva.1
      obtain ⟨u, hu⟩ : ∃ u, args.map a.eval = #[u] := by
        have : (args.map a.eval).toList.length = 1 := by simpa using hs
        obtain ⟨u, hu⟩ := List.length_eq_one_iff.1 this
        exact ⟨u, by rw [← Array.toArray_toList (xs := args.map a.eval), hu]⟩
      have hv := hva.2 0 x u rfl (by rw [hu]; rfl)
      refine ⟨K, .int .i64 m, w, ?_, .refl K, h, .val _⟩
      rw [hrun _ rfl]
      simp only [builtin, hu, Sem.run_bind, lenA_ok (P := P) hv hl, Result.andThen_ok, Sem.run_pure]
  · -- append
    rename_i t t' s x hat
    have hat' : argTypes = #[t, t'] := by rw [← Array.toArray_toList (xs := argTypes), hat]
    subst hat'
    split
    · rename_i htt
      subst htt
      cases hap : appendA P A t s x with
      | none => trivial
      | some r =>
        obtain ⟨v, A'⟩ := r
        have hs := hva.1
        obtain ⟨u, u', hu⟩ : ∃ u u', args.map a.eval = #[u, u'] := by
          have : (args.map a.eval).toList.length = 2 := by simpa using hs
          obtain ⟨u, u', hu⟩ := len_two this
          exact ⟨u, u', by rw [← Array.toArray_toList (xs := args.map a.eval), hu]⟩
        have hv := hva.2 0 s u rfl (by rw [hu]; rfl)
        have hv' := hva.2 1 x u' rfl (by rw [hu]; rfl)
        obtain ⟨K', y, w', hr, h1, h2, h3⟩ := appendA_ok (P := P) (ty := o.type) h hv hv' hap
        refine ⟨K', y, w', ?_, h1, h2, h3⟩
        rw [hrun _ rfl]
        simp only [builtin, hu, Sem.run_bind, hr, Result.andThen_ok, Sem.run_pure]
    · trivial
  · -- min
    rename_i al' b' x' y'
    cases hm : al'.mapM toLeaf with
    | none => trivial
    | some vs =>
      cases hp : peek P (Builtin.min_ argTypes o.type vs.toArray) with
      | none => simp only [Option.bind_some, hp]; trivial
      | some r =>
        simp only [Option.bind_some, hp]
        refine ⟨K, r, w, ?_, .refl K, h, .val _⟩
        rw [hrun _ rfl]
        simp only [builtin, leafs_ok hva hm, Sem.run_bind, peek_ok hp w, Result.andThen_ok, Sem.run_pure]
  · rename_i al' b' x' y'
    cases hm : al'.mapM toLeaf with
    | none => trivial
    | some vs =>
      cases hp : peek P (Builtin.max_ argTypes o.type vs.toArray) with
      | none => simp only [Option.bind_some, hp]; trivial
      | some r =>
        simp only [Option.bind_some, hp]
        refine ⟨K, r, w, ?_, .refl K, h, .val _⟩
        rw [hrun _ rfl]
        simp only [builtin, leafs_ok hva hm, Sem.run_bind, peek_ok hp w, Result.andThen_ok, Sem.run_pure]
  · -- where a slice lies
    have hs := hva.1
    obtain ⟨u, hu⟩ : ∃ u, args.map a.eval = #[u] := by
      have : (args.map a.eval).toList.length = 1 := by simpa using hs
      obtain ⟨u, hu⟩ := List.length_eq_one_iff.1 this
      exact ⟨u, by rw [← Array.toArray_toList (xs := args.map a.eval), hu]⟩
    have hv := hva.2 0 (.slice [] .nil) u rfl (by rw [hu]; rfl)
    have hnil := hv.isNil
    subst hnil
    refine ⟨K, .pointer none, w, ?_, .refl K, h, .val _⟩
    rw [hrun _ rfl]
    have hr : (Builtin.unsafeSliceData_ argTypes o.type #[.slice none 0 0]).run P w = .ok (.pointer none) w := rfl
    simp only [builtin, hu, Sem.run_bind, hr, Sem.run_pure, Result.andThen_ok]
  · -- a string without bytes
    rename_i t1 t2 k n hat
    have hat' : argTypes = #[t1, t2] := by rw [← Array.toArray_toList (xs := argTypes), hat]
    subst hat'
    split
    · rename_i hn
      subst hn
      have hl := leafs_ok hva (vs := [.pointer none, .int k 0]) rfl
      refine ⟨K, .string .empty, w, ?_, .refl K, h, .val _⟩
      rw [hrun _ rfl]
      have hr : (Builtin.unsafeString_ #[t1, t2] o.type #[.pointer none, .int k 0]).run P w = .ok (.string .empty) w := by cases k <;> rfl
      have hl' : args.map a.eval = #[.pointer none, .int k 0] := hl
      simp only [builtin, hl', Sem.run_bind, hr, Sem.run_pure, Result.andThen_ok]
    · trivial
  · -- panic
    rename_i t v
    have hs := hva.1
    obtain ⟨u, hu⟩ : ∃ u, args.map a.eval = #[u] := by
      have : (args.map a.eval).toList.length = 1 := by simpa using hs
      obtain ⟨u, hu⟩ := List.length_eq_one_iff.1 this
      exact ⟨u, by rw [← Array.toArray_toList (xs := args.map a.eval), hu]⟩
    have hv := hva.2 0 _ u rfl (by rw [hu]; rfl)
    refine ⟨u, ?_, hv⟩
    cases hv
    rw [hrun _ rfl]
    simp [builtin, hu, Instr.panic]
  · trivial

end
end Go.Ab
