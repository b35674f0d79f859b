/- Every operation; regions in the order of the text. -/
import Derived.Test.YtchckkcigemajaaGreatDoorGxA9
namespace Go.Ab
set_option linter.unusedVariables false
set_option linter.unusedSimpArgs false
section
variable {P : Program}

theorem ofV_ok {K : Kw} {A : AState} {a : Act} {w : World} {o : Oper} {r : Option AV} (h : ∀ v, r = some v → OResOk P K A a w o (.next v A)) : OResOk P K A a w o (.ofV A r) := by
  cases r with
  | none => trivial
  | some v => exact h v rfl

theorem execV {a : Act} {w w' : World} {o : Oper} {s : Sem Value} {u : Value} (h : execOp a.eval o = (do pure (.value (← s)))) (hr : s.run P w = .ok u w') : (execOp a.eval o).run P w = .ok (.value u) w' := by
  rw [h]; simp only [Sem.run_bind, hr, Result.andThen_ok, Sem.run_pure]

theorem parts_arr (parts : Array (Nat × Operand)) (f : Operand → Value) : parts.map (fun (i, x) => (i, f x)) = (parts.toList.map fun p => (p.1, f p.2)).toArray := by
  apply Array.ext'
  simp

set_option maxHeartbeats 1000000 in
theorem aOp_ok {K : Kw} {A : AState} {w : World} {n : Nat} {env : Env} {a : Act} (h : Sat K A w) (he : EnvR K n env a) (o : Oper) : OResOk P K A a w o (aOp P env A o.op o.type) := by
  obtain ⟨dst, op, ty, pos, after, guard⟩ := o
  simp only
  cases op with
  | move x => exact ⟨K, _, w, rfl, .refl K, h, ev_ok he x⟩
  | assign x => exact ⟨K, _, w, rfl, .refl K, h, ev_ok he x⟩
  | pick c x y =>
    simp only [aOp]
    split
    · rename_i t hc
      have hv := ev_ok he c
      rw [hc] at hv
      generalize hce : a.eval c = cv at hv
      cases hv
      refine ⟨K, if t then a.eval x else a.eval y, w, ?_, .refl K, h, ?_⟩
      · simp only [execOp, hce, asBool, Sem.run_bind, Sem.run_pure, Result.andThen_ok]
      · cases t
        · exact ev_ok he y
        · exact ev_ok he x
    · trivial
  | alloc e =>
    simp only [aOp]
    split
    · rename_i cs hcs
      obtain ⟨z, hz, hc⟩ := Option.bind_eq_some_iff.1 hcs
      obtain ⟨K', u, w', hr, h1, h2, h3⟩ := alloc_ok (P := P) h hz hc
      exact ⟨K', u, w', execV rfl hr, h1, h2, h3⟩
    · trivial
  | box e x =>
    simp only [aOp]
    split
    · rename_i cs hcs
      obtain ⟨K', u, w', hr, h1, h2, h3⟩ := box_ok (P := P) h (ev_ok he x) hcs e
      exact ⟨K', u, w', execV rfl hr, h1, h2, h3⟩
    · trivial
  | build t parts =>
    simp only [aOp]
    split
    · rename_i hw
      refine ofV_ok fun v hv => ?_
      obtain ⟨hl, hp⟩ := parts_rel he parts
      obtain ⟨y, hr, h1⟩ := buildA_ok (P := P) (w := w) hw hl hp hv
      refine ⟨K, y, w, ?_, .refl K, h, h1⟩
      refine execV (s := Instr.build t (parts.map fun (i, x) => (i, a.eval x))) rfl ?_
      rw [parts_arr]; exact hr
    · trivial
  | buildSlice t len parts =>
    simp only [aOp]
    refine ofV_ok fun v hv => ?_
    obtain ⟨hl, hp⟩ := parts_rel he parts
    obtain ⟨K', y, w', hr, h1, h2, h3⟩ := buildSliceA_ok (P := P) h hl hp hv
    refine ⟨K', y, w', ?_, h1, h2, h3⟩
    refine execV (s := Instr.buildSlice t len (parts.map fun (i, x) => (i, a.eval x))) rfl ?_
    rw [parts_arr]; exact hr
  | load t x =>
    simp only [aOp]
    refine ofV_ok fun v hv => ?_
    obtain ⟨y, hr, h1⟩ := loadA_ok (P := P) h (ev_ok he x) hv
    exact ⟨K, y, w, execV rfl hr, .refl K, h, h1⟩
  | store t x y =>
    simp only [aOp]
    split
    · rename_i A' hA
      obtain ⟨w', hr, h1⟩ := storeA_ok (P := P) h (ev_ok he x) (ev_ok he y) hA
      refine ⟨K, w', ?_, .refl K, h1⟩
      simp only [execOp, Sem.run_bind, hr, Result.andThen_ok, Sem.run_pure]
    · trivial
  | nilCheck x =>
    simp only [aOp]
    have hv := ev_ok he x
    split
    · rename_i i off hx
      rw [hx] at hv
      refine ⟨K, a.eval x, w, ?_, .refl K, h, hv⟩
      generalize hxe : a.eval x = u at hv
      cases hv
      simp only [execOp, hxe]; rfl
    · rename_i cs hx
      rw [hx] at hv
      refine ⟨K, a.eval x, w, ?_, .refl K, h, hv⟩
      generalize hxe : a.eval x = u at hv
      cases hv
      simp only [execOp, hxe]; rfl
    · rename_i g k f hx
      rw [hx] at hv
      refine ⟨K, a.eval x, w, ?_, .refl K, h, hv⟩
      generalize hxe : a.eval x = u at hv
      cases hv
      simp only [execOp, hxe]; rfl
    · trivial
  | binOp op t x y yt =>
    simp only [aOp]
    refine ofV_ok fun v hv => ?_
    simp only [Option.map_eq_some_iff] at hv
    obtain ⟨r, hr, rfl⟩ := hv
    have hrun := binA_ok (P := P) (w := w) (ev_ok he x) (ev_ok he y) (fun c hc => by rw [hc]; rfl) hr
    exact ⟨K, r, w, execV rfl hrun, .refl K, h, .val _⟩
  | unOp op t x =>
    simp only [aOp]
    refine ofV_ok fun v hv => ?_
    obtain ⟨v0, hv0, hv⟩ := Option.bind_eq_some_iff.1 hv
    simp only [Option.map_eq_some_iff] at hv
    obtain ⟨r, hr, rfl⟩ := hv
    have hx := toVal_ok (ev_ok he x) hv0
    refine ⟨K, r, w, execV (s := Op.unary op (a.eval x)) rfl ?_, .refl K, h, .val _⟩
    rw [hx]; exact peek_ok hr w
  | convert s d x =>
    simp only [aOp]
    refine ofV_ok fun v hv => ?_
    obtain ⟨K', y, w', hr, h1, h2, h3⟩ := convA_ok (P := P) h (ev_ok he x) hv
    exact ⟨K', y, w', execV rfl hr, h1, h2, h3⟩
  | sliceToArrayPointer => trivial
  | makeInterface t x =>
    simp only [aOp]
    split
    · rename_i d hd
      split
      · trivial
      · rename_i hni
        refine ⟨K, .iface t (a.eval x), w, execV (s := Instr.makeInterface t (a.eval x)) rfl ?_, .refl K, h, .iface (ev_ok he x)⟩
        cases d <;> simp [isIface] at hni <;> simp [Instr.makeInterface, run_underlying hd]
    · trivial
  | makeFunc fn first captured =>
    cases fn with
    | func f =>
      simp only [aOp]
      split
      · rename_i hf
        have hf' : first = #[] := Array.eq_empty_of_size_eq_zero hf
        subst hf'
        refine ⟨K, .func (.func f) #[] (captured.map a.eval), w, execV (s := Instr.makeFunc (.func f) ((#[] : Array Operand).map a.eval) (captured.map a.eval)) rfl (by simp [Instr.makeFunc]), .refl K, h, ?_⟩
        obtain ⟨h1, h2⟩ := vargs_map he captured
        have := Ab.V.func (S := K.S) (Om := K.Om) (ι := K.ι) (f := f) (caps := captured.toList.map (ev env)) (captured.map a.eval).toList (by simp) (fun j c u hc hu => h2 j c u hc (by simpa using hu))
        rw [Array.toArray_toList] at this
        exact this
      · trivial
    | _ => trivial
  | makeMap t r =>
    cases r with
    | none =>
      obtain ⟨K', y, w', hr, h1, h2, h3⟩ := makeMapA_ok (P := P) h t
      exact ⟨K', y, w', execV (s := Instr.makeMap t none) rfl hr, h1, h2, h3⟩
    | some r => trivial
  | makeChan => trivial
  | makeSlice t l c =>
    simp only [aOp]
    split
    · rename_i l' c' hl hc
      have hvl := ev_ok he l
      have hvc := ev_ok he c
      rw [hl] at hvl; rw [hc] at hvc
      generalize hle : a.eval l = lv at hvl
      generalize hce : a.eval c = cv at hvc
      cases hvl; cases hvc
      cases hm : makeSliceA P A t l' c' with
      | none => trivial
      | some r =>
        obtain ⟨v, A'⟩ := r
        obtain ⟨K', y, w', hr, h1, h2, h3⟩ := makeSliceA_ok (P := P) h hm
        exact ⟨K', y, w', execV (s := Instr.makeSlice t (a.eval l) (a.eval c)) rfl (by rw [hle, hce]; exact hr), h1, h2, h3⟩
    · trivial
  | slice t x lo hi mx =>
    cases mx with
    | some m =>
      cases lo with
      | some _ => trivial
      | none => cases hi with
        | none => trivial
        | some hh =>
          simp only [aOp]
          refine ofV_ok fun v hv => ?_
          obtain ⟨y, hr, h1⟩ := sliceNoA_ok (P := P) (w := w) (ev_ok he x) (ev_ok he hh) (ev_ok he m) hv
          exact ⟨K, y, w, execV (s := Instr.sliceAt t (a.eval x) none (some (a.eval hh)) (some (a.eval m))) rfl hr, .refl K, h, h1⟩
    | none =>
      simp only [aOp]
      split
      · rename_i lo' hi' hlo hhi
        refine ofV_ok fun v hv => ?_
        obtain ⟨y, hr, h1⟩ := sliceBoxA_ok (P := P) (w := w) h (ev_ok he x) hv
        refine ⟨K, y, w, execV (s := Instr.sliceAt t (a.eval x) (lo.map a.eval) (hi.map a.eval) none) rfl ?_, .refl K, h, h1⟩
        rw [optVal_ok he hlo, optVal_ok he hhi]; exact hr
      · trivial
  | fieldAddr s x f =>
    simp only [aOp]
    refine ofV_ok fun v hv => ?_
    obtain ⟨y, hr, h1⟩ := fieldA_ok (P := P) (w := w) (ev_ok he x) hv
    exact ⟨K, y, w, execV rfl hr, .refl K, h, h1⟩
  | field t x f =>
    simp only [aOp]
    refine ofV_ok fun v hv => ?_
    obtain ⟨y, hr, h1⟩ := fieldVA_ok (P := P) (w := w) (ev_ok he x) hv
    exact ⟨K, y, w, execV rfl hr, .refl K, h, h1⟩
  | indexAddr t x i =>
    simp only [aOp]
    split
    · rename_i k i' hi
      refine ofV_ok fun v hv => ?_
      have hvi := ev_ok he i
      rw [hi] at hvi
      generalize hie : a.eval i = iv at hvi
      cases hvi
      obtain ⟨y, hr, h1⟩ := indexA_ok (P := P) (w := w) (k := k) h (ev_ok he x) hv
      exact ⟨K, y, w, execV (s := Instr.indexAt t (a.eval x) (a.eval i)) rfl (by rw [hie]; exact hr), .refl K, h, h1⟩
    · trivial
  | index t x i =>
    simp only [aOp]
    split
    · rename_i k i' hi
      refine ofV_ok fun v hv => ?_
      have hvi := ev_ok he i
      rw [hi] at hvi
      generalize hie : a.eval i = iv at hvi
      cases hvi
      obtain ⟨y, hr, h1⟩ := indexVA_ok (P := P) (w := w) (k := k) (ev_ok he x) hv
      exact ⟨K, y, w, execV (s := Instr.index t (a.eval x) (a.eval i)) rfl (by rw [hie]; exact hr), .refl K, h, h1⟩
    · trivial
  | lookup t m k c =>
    simp only [aOp]
    refine ofV_ok fun v hv => ?_
    obtain ⟨y, hr, h1⟩ := lookupA_ok (P := P) h (ev_ok he m) (ev_ok he k) hv
    exact ⟨K, y, w, execV rfl hr, .refl K, h, h1⟩
  | insert => trivial
  | mapUpdate t m k x =>
    simp only [aOp]
    split
    · rename_i A' hA
      obtain ⟨w', hr, h1⟩ := mapUpdateA_ok (P := P) h (ev_ok he m) (ev_ok he k) (ev_ok he x) hA
      refine ⟨K, w', ?_, .refl K, h1⟩
      simp only [execOp, Sem.run_bind, hr, Result.andThen_ok, Sem.run_pure]
    · trivial
  | mapEntry => trivial
  | entryStore => trivial
  | ready => trivial
  | waits => trivial
  | range => trivial
  | next => trivial
  | entry => trivial
  | typeAssert x xt t ok =>
    simp only [aOp]
    refine ofV_ok fun v hv => ?_
    obtain ⟨y, hr, h1⟩ := assertA_ok (P := P) (w := w) (xt := xt) (ev_ok he x) hv
    exact ⟨K, y, w, execV rfl hr, .refl K, h, h1⟩
  | extract x i =>
    simp only [aOp]
    split
    · rename_i vs hx
      refine ofV_ok fun v hv => ?_
      have hvx := ev_ok he x
      rw [hx] at hvx
      generalize hxe : a.eval x = xv at hvx
      cases hvx with
      | tuple us hl hV =>
        have hlt : i < vs.length := (List.getElem?_eq_some_iff.1 hv).1
        have hug := List.getElem?_eq_getElem (l := us) (i := i) (by omega)
        refine ⟨K, us[i], w, execV (s := Instr.extract (a.eval x) i) rfl ?_, .refl K, h, hV i v _ hv hug⟩
        have hug' : us.toArray[i]? = some us[i] := by simp [hl, hlt]
        simp only [hxe, Instr.extract, hug']; rfl
    · trivial
  | panic x =>
    simp only [aOp]
    split
    · rename_i t v hx
      have hvx := ev_ok he x
      rw [hx] at hvx
      refine ⟨a.eval x, ?_, hvx⟩
      generalize hxe : a.eval x = xv at hvx
      cases hvx
      simp [execOp, hxe, Instr.panic]
    · trivial
  | call c =>
    obtain ⟨callee, args, argTypes⟩ := c
    cases callee with
    | builtin b => exact builtinA_ok h he ⟨dst, _, ty, pos, after, guard⟩ b args argTypes rfl
    | invoke r m => trivial
    | value f =>
      simp only [aOp]
      split
      · rename_i k caps hf
        have hvf := ev_ok he f
        rw [hf] at hvf
        generalize hfe : a.eval f = fv at hvf
        cases hvf with
        | func us hl hV =>
          refine ⟨args.map a.eval ++ us.toArray, ?_, ?_⟩
          · unfold execOp
            simp only [resolve, Sem.run_bind, hfe, Deferred.ofValue, Sem.run_pure, Result.andThen_ok, invoke, Array.empty_append]
          · obtain ⟨h1, h2⟩ := vargs_weak he args
            refine ⟨by simp [hl], fun j c u hc hu => ?_⟩
            by_cases hj : j < args.size
            · rw [List.getElem?_append_left (by simpa using hj)] at hc
              rw [Array.getElem?_append_left (by simpa using hj)] at hu
              exact h2 j c u hc hu
            · rw [List.getElem?_append_right (by simp; omega)] at hc
              rw [Array.getElem?_append_right (by simp; omega)] at hu
              simp only [List.length_map, Array.length_toList] at hc
              exact hV _ c u hc (by simpa using hu)
      · trivial
  | go => trivial
  | defer c =>
    obtain ⟨callee, args, argTypes⟩ := c
    cases callee with
    | builtin b => trivial
    | invoke r m => trivial
    | value f =>
      simp only [aOp]
      split
      · rename_i k caps hf
        split
        · rename_i ha
          have ha' : args = #[] := Array.eq_empty_of_size_eq_zero ha
          subst ha'
          have hvf := ev_ok he f
          rw [hf] at hvf
          generalize hfe : a.eval f = fv at hvf
          cases hvf with
          | func us hl hV =>
            refine ⟨{ target := .fn (.func k) us.toArray, args := #[] }, ?_, rfl, fun j x d hx hd => ?_⟩
            · unfold execOp
              simp [resolve, hfe, Deferred.ofValue]
            · cases j with
              | zero =>
                simp at hx hd
                subst hx; subst hd
                exact ⟨us, rfl, rfl, hl, hV⟩
              | succ j => simp at hx
        · trivial
      · trivial
  | send => trivial
  | recv => trivial
  | select => trivial

end

inductive ARes where
  | ret (v : AV)
  | pan (v : AV)

inductive AExit where
  | normal
  | exit (id : Nat)
  | ret
  | panic (v : AV)

def postA (K : Kw) (R : ARes → AState → Prop) : Ending → World → Prop
  | .returned u, w' => ∃ K' A' v, K.le K' ∧ Sat K' A' w' ∧ K'.V v u ∧ R (.ret v) A'
  | .panicked chain, w' => ∃ K' A' v u, K.le K' ∧ Sat K' A' w' ∧ K'.V v u ∧ chain = [{ v := u, recovered := false }] ∧ R (.pan v) A'
  | .outgrown, _ => False

/-- what a call comes to, told by abstract values -/
def CallsA (P : Program) (k : FuncId) (args : List AV) (A : AState) (R : ARes → AState → Prop) : Prop :=
  (hasBody P k = true ∧ ∀ (K : Kw) (w : World) (vals : Array Value), Sat K A w → VArgs K args vals → Calls P k vals w (postA K R)) ∨
  (∀ (K : Kw) (w : World) (vals : Array Value), Sat K A w → VArgs K args vals → ∃ u w', (callFunc k vals).run P w = .ok (.value u) w' ∧ postA K R (.returned u) w')

theorem postA_mono {K : Kw} {R R' : ARes → AState → Prop} (hr : ∀ r A', R r A' → R' r A') {e : Ending} {w' : World} (he : postA K R e w') : postA K R' e w' := by
  cases e with
  | returned u => obtain ⟨K', A', v, h1, h2, h3, h4⟩ := he; exact ⟨K', A', v, h1, h2, h3, hr _ _ h4⟩
  | panicked chain => obtain ⟨K', A', v, u, h1, h2, h3, h4, h5⟩ := he; exact ⟨K', A', v, u, h1, h2, h3, h4, hr _ _ h5⟩
  | outgrown => exact he

theorem CallsA.mono {P : Program} {k : FuncId} {args : List AV} {A : AState} {R R' : ARes → AState → Prop} (h : CallsA P k args A R) (hr : ∀ r A', R r A' → R' r A') : CallsA P k args A R' :=
  h.elim (fun h => .inl ⟨h.1, fun K w vals hs hv => (h.2 K w vals hs hv).mono fun e w' he => postA_mono hr he⟩)
    (fun h => .inr fun K w vals hs hv => by obtain ⟨u, w', h1, h2⟩ := h K w vals hs hv; exact ⟨u, w', h1, postA_mono hr h2⟩)

def liftQ (K0 : Kw) (n : Nat) (Q : AExit → Env → AState → Prop) : Exit → Act → World → Prop
  | .normal, a, w => ∃ K env A, K0.le K ∧ Sat K A w ∧ EnvR K n env a ∧ Q .normal env A
  | .exit id, a, w => ∃ K env A, K0.le K ∧ Sat K A w ∧ EnvR K n env a ∧ Q (.exit id) env A
  | .ret, a, w => ∃ K env A, K0.le K ∧ Sat K A w ∧ EnvR K n env a ∧ Q .ret env A
  | .panic chain, a, w => ∃ K env A v u, K0.le K ∧ Sat K A w ∧ EnvR K n env a ∧ K.V v u ∧ chain = [{ v := u, recovered := false }] ∧ Q (.panic v) env A
  | .goto _, _, _ => False
  | .outgrown, _, _ => False

/-- one operation, then what is behind it -/
def aStep (P : Program) (n : Nat) (o : Oper) (env : Env) (A : AState) (next : Env → AState → Prop) (Q : AExit → Env → AState → Prop) : Prop :=
  dstOk n o.dst = true ∧
  match aOp P env A o.op o.type with
  | .next v A' => next (env.put o.dst v) A'
  | .skip A' => next (env.put o.dst .top) A'
  | .pan v => Q (.panic v) env A
  | .call k args => CallsA P k args A fun r A' => match r with | .ret v => next (env.put o.dst v) A' | .pan v => Q (.panic v) env A'
  | .defer f caps => next ({ env with ds := (f, caps) :: env.ds }.put o.dst .top) A
  | .bad => False

def guardA (full : List Oper) (env : Env) (o : Oper) (yes no : Prop) : Prop :=
  match o.guard with
  | none => yes
  | some (j, want) =>
    match (full[j]?).bind (·.dst) with
    | some d => match env.look d with
      | .val (.bool b) => if b = want then yes else no
      | .val _ => no
      | _ => False
    | none => False

def aOps (P : Program) (n : Nat) (full : List Oper) (Q : AExit → Env → AState → Prop) : List Oper → Env → AState → Prop
  | [], env, A => Q .normal env A
  | o :: rest, env, A => guardA full env o (aStep P n o env A (aOps P n full Q rest) Q) (dstOk n o.dst = true ∧ aOps P n full Q rest (env.put o.dst (.val undef)) A)

section
variable {P : Program}

theorem aStep_sound {n : Nat} {o : Oper} {env : Env} {A : AState} {next : Env → AState → Prop} {Q : AExit → Env → AState → Prop} (hs : aStep P n o env A next Q)
    {K0 K : Kw} {w : World} {a : Act} (hK : K0.le K) (h : Sat K A w) (he : EnvR K n env a) {Kc : Act → World → Prop}
    (hnext : ∀ K' env' A' a' w', K.le K' → Sat K' A' w' → EnvR K' n env' a' → next env' A' → Kc a' w') : o.wp P a w Kc (liftQ K0 n Q) := by
  obtain ⟨hd, hs⟩ := hs
  have hok := aOp_ok (P := P) h he o
  unfold Oper.wp
  generalize aOp P env A o.op o.type = r at hs hok
  cases r with
  | next v A' =>
    obtain ⟨K', u, w', hr, h1, h2, h3⟩ := hok
    rw [hr]
    exact hnext K' _ A' _ w' h1 h2 ((he.mono h1).put hd h3) hs
  | skip A' =>
    obtain ⟨K', w', hr, h1, h2⟩ := hok
    rw [hr]
    exact hnext K' _ A' _ w' h1 h2 ((he.mono h1).put hd (.top _)) hs
  | pan v =>
    obtain ⟨u, hr, h1⟩ := hok
    rw [hr]
    exact ⟨K, env, A, v, u, hK, h, he, h1, rfl, hs⟩
  | call k args =>
    obtain ⟨vals, hr, hv⟩ := hok
    rcases hs with hs | hs
    case inr =>
      obtain ⟨u, w', hrun, hpost⟩ := hs K w vals h hv
      rw [hr, hrun]
      obtain ⟨K', A', v, h1, h2, h3, h4⟩ := hpost
      exact hnext K' _ A' _ w' h1 h2 ((he.mono h1).put hd h3) h4
    rw [hr, run_callFunc_body hs.1]
    refine (hs.2 K w vals h hv).mono fun e w' hpost => ?_
    cases e with
    | returned u =>
      obtain ⟨K', A', v, h1, h2, h3, h4⟩ := hpost
      exact hnext K' _ A' _ w' h1 h2 ((he.mono h1).put hd h3) h4
    | panicked chain =>
      obtain ⟨K', A', v, u, h1, h2, h3, h4, h5⟩ := hpost
      exact ⟨K', env, A', v, u, hK.trans h1, h2, he.mono h1, h3, h4, h5⟩
    | outgrown => exact hpost.elim
  | defer f caps =>
    obtain ⟨d, hr, h1⟩ := hok
    rw [hr]
    have he' : EnvR K n { env with ds := (f, caps) :: env.ds } { a with defers := d :: a.defers } := by
      refine ⟨he.size, he.var, ?_⟩
      refine ⟨by simp [he.defs.1], fun j x dd hx hd' => ?_⟩
      cases j with
      | zero => exact h1.2 0 x dd (by simpa using hx) (by simpa using hd')
      | succ j => exact he.defs.2 j x dd (by simpa using hx) (by simpa using hd')
    exact hnext K _ A _ w (.refl K) h (he'.put hd (.top _)) hs
  | bad => exact hs.elim

theorem guardA_wanted {full : List Oper} {ops : Array Oper} (hf : ops.toList = full) {K : Kw} {n : Nat} {env : Env} {a : Act} (he : EnvR K n env a) {o : Oper} {yes no : Prop} (h : guardA full env o yes no) :
    (Region.wanted o (yielded ops a.tmps) = true ∧ yes) ∨ (Region.wanted o (yielded ops a.tmps) = false ∧ no) := by
  unfold guardA at h
  split at h
  · rename_i hg; exact .inl ⟨by simp [Region.wanted, hg], h⟩
  · rename_i j want hg
    split at h
    · rename_i d hd
      split at h
      · rename_i b hb
        have hv := he.var d
        rw [hb] at hv
        have hops : ops[j]? = full[j]? := by rw [← hf]; simp
        have hy : yielded ops a.tmps j = some b := by
          unfold yielded
          rw [hops]
          cases hfj : full[j]? with
          | none => rw [hfj] at hd; cases hd
          | some oj =>
            rw [hfj] at hd
            simp at hd
            generalize htd : a.tmps.getD d undef = x at hv
            cases hv
            simp only [Array.getD_eq_getD_getElem?] at htd
            cases htd2 : a.tmps[d]? with
            | none => rw [htd2] at htd; simp [undef] at htd
            | some x => rw [htd2] at htd; simp at htd; subst htd; simp [hd, htd2]
        split at h
        · rename_i hbw; subst hbw; exact .inl ⟨by simp [Region.wanted, hg, hy], h⟩
        · rename_i hbw; exact .inr ⟨by simp [Region.wanted, hg, hy, hbw], h⟩
      · rename_i v hnb hb
        have hv := he.var d
        rw [hb] at hv
        have hops : ops[j]? = full[j]? := by rw [← hf]; simp
        refine .inr ⟨?_, h⟩
        have hy : yielded ops a.tmps j = none := by
          unfold yielded
          rw [hops]
          cases hfj : full[j]? with
          | none => rw [hfj] at hd; cases hd
          | some oj =>
            rw [hfj] at hd
            simp at hd
            generalize htd : a.tmps.getD d undef = x at hv
            cases hv
            simp only [Array.getD_eq_getD_getElem?] at htd
            cases htd2 : a.tmps[d]? with
            | none => simp [hd, htd2]
            | some x =>
              rw [htd2] at htd; simp at htd; subst htd
              simp only [Option.bind_some, hd, htd2]
              cases x <;> first | rfl | (exact absurd rfl (hnb _))
        simp [Region.wanted, hg, hy]
      · exact h.elim
    · exact h.elim

theorem aOps_sound {n : Nat} {ops : Array Oper} {full : List Oper} (hf : ops.toList = full) {Q : AExit → Env → AState → Prop} {K0 : Kw} : ∀ (l : List Oper) (env : Env) (A : AState), aOps P n full Q l env A →
    ∀ (K : Kw) (w : World) (a : Act), K0.le K → Sat K A w → EnvR K n env a → wpList P ops (liftQ K0 n Q) l a w
  | [], env, A, hq, K, w, a, hK, h, he => ⟨K, env, A, hK, h, he, hq⟩
  | o :: rest, env, A, hq, K, w, a, hK, h, he => by
    unfold wpList
    rcases guardA_wanted hf he hq with ⟨hw, hy⟩ | ⟨hw, hd, hn⟩
    · rw [if_pos hw]
      exact .inl (aStep_sound hy hK h he fun K' env' A' a' w' h1 h2 h3 h4 => aOps_sound hf rest env' A' h4 K' w' a' (hK.trans h1) h2 h3)
    · rw [if_neg (by simp [hw])]
      exact aOps_sound hf rest _ A hn K w _ hK h (he.put hd (.val _))

/-- a piece of code, told by abstract values -/
def AW (P : Program) (n : Nat) (c : Code) (env : Env) (A : AState) (Q : AExit → Env → AState → Prop) : Prop :=
  ∀ (K : Kw) (w : World) (a : Act), Sat K A w → EnvR K n env a → c.wp P (liftQ K n Q) a w

theorem liftQ_mono {K0 : Kw} {n : Nat} {Q Q' : AExit → Env → AState → Prop} (hq : ∀ e env A, Q e env A → Q' e env A) {e : Exit} {a : Act} {w : World} (h : liftQ K0 n Q e a w) : liftQ K0 n Q' e a w := by
  cases e with
  | normal => obtain ⟨K, env, A, h1, h2, h3, h4⟩ := h; exact ⟨K, env, A, h1, h2, h3, hq _ _ _ h4⟩
  | exit id => obtain ⟨K, env, A, h1, h2, h3, h4⟩ := h; exact ⟨K, env, A, h1, h2, h3, hq _ _ _ h4⟩
  | ret => obtain ⟨K, env, A, h1, h2, h3, h4⟩ := h; exact ⟨K, env, A, h1, h2, h3, hq _ _ _ h4⟩
  | panic ch => obtain ⟨K, env, A, v, u, h1, h2, h3, h4, h5, h6⟩ := h; exact ⟨K, env, A, v, u, h1, h2, h3, h4, h5, hq _ _ _ h6⟩
  | goto l => exact h
  | outgrown => exact h

theorem liftQ_le {K0 K1 : Kw} (hK : K0.le K1) {n : Nat} {Q : AExit → Env → AState → Prop} {e : Exit} {a : Act} {w : World} (h : liftQ K1 n Q e a w) : liftQ K0 n Q e a w := by
  cases e with
  | normal => obtain ⟨K, env, A, h1, h2, h3, h4⟩ := h; exact ⟨K, env, A, hK.trans h1, h2, h3, h4⟩
  | exit id => obtain ⟨K, env, A, h1, h2, h3, h4⟩ := h; exact ⟨K, env, A, hK.trans h1, h2, h3, h4⟩
  | ret => obtain ⟨K, env, A, h1, h2, h3, h4⟩ := h; exact ⟨K, env, A, hK.trans h1, h2, h3, h4⟩
  | panic ch => obtain ⟨K, env, A, v, u, h1, h2, h3, h4, h5, h6⟩ := h; exact ⟨K, env, A, v, u, hK.trans h1, h2, h3, h4, h5, h6⟩
  | goto l => exact h
  | outgrown => exact h

theorem AW.mono {n : Nat} {c : Code} {env : Env} {A : AState} {Q Q' : AExit → Env → AState → Prop} (h : AW P n c env A Q) (hq : ∀ e env A, Q e env A → Q' e env A) : AW P n c env A Q' :=
  fun K w a hs he => Code.wp_mono (fun e a w => liftQ_mono hq) (h K w a hs he)

theorem aw_region {n id : Nat} {ops : Array Oper} {env : Env} {A : AState} {Q : AExit → Env → AState → Prop} (h : aOps P n ops.toList Q ops.toList env A) : AW P n (.region id ops false) env A Q :=
  fun K w a hs he => wp_region_list (aOps_sound rfl _ _ _ h K w a (.refl K) hs he)

def AExit.then (next : Env → AState → Prop) (Q : AExit → Env → AState → Prop) : AExit → Env → AState → Prop
  | .normal, env, A => next env A
  | e, env, A => Q e env A

theorem aw_seq {n : Nat} {x y : Code} {env : Env} {A : AState} {Q : AExit → Env → AState → Prop}
    (h : ∀ N : Env → AState → Prop, (∀ env A, AW P n y env A Q → N env A) → AW P n x env A (AExit.then N Q)) : AW P n (.seq x y) env A Q := by
  intro K w a hs he
  have h' := h (fun env A => AW P n y env A Q) (fun _ _ h => h) K w a hs he
  refine wp_seq (Code.wp_mono (fun e a w hq => ?_) h')
  cases e with
  | normal =>
    obtain ⟨K', env', A', h1, h2, h3, h4⟩ := hq
    exact Code.wp_mono (fun e a w => liftQ_le h1) (h4 K' w a h2 h3)
  | exit id => exact hq
  | ret => exact hq
  | panic ch => exact hq
  | goto l => exact hq
  | outgrown => exact hq

theorem aw_skip {n : Nat} {env : Env} {A : AState} {Q : AExit → Env → AState → Prop} (h : Q .normal env A) : AW P n .skip env A Q :=
  fun K w a hs he => wp_skip ⟨K, env, A, .refl K, hs, he, h⟩
theorem aw_ret {n : Nat} {env : Env} {A : AState} {Q : AExit → Env → AState → Prop} (h : Q .ret env A) : AW P n .ret env A Q :=
  fun K w a hs he => wp_ret ⟨K, env, A, .refl K, hs, he, h⟩
theorem aw_exit {n id : Nat} {env : Env} {A : AState} {Q : AExit → Env → AState → Prop} (h : Q (.exit id) env A) : AW P n (.exit id) env A Q :=
  fun K w a hs he => wp_exit ⟨K, env, A, .refl K, hs, he, h⟩

def condA (v : AV) (x y : Prop) : Prop :=
  match v with
  | .val (.bool t) => if t then x else y
  | _ => False

theorem aw_cond {n : Nat} {c : Operand} {x y : Code} {env : Env} {A : AState} {Q : AExit → Env → AState → Prop} (h : condA (ev env c) (AW P n x env A Q) (AW P n y env A Q)) : AW P n (.cond c x y) env A Q := by
  intro K w a hs he
  unfold condA at h
  split at h
  · rename_i t ht
    have hv := ev_ok he c
    rw [ht] at hv
    generalize hce : a.eval c = cv at hv
    cases hv
    refine wp_cond hce ?_
    cases t
    · exact h K w a hs he
    · exact h K w a hs he
  · exact h.elim

def AExit.inBlock (id : Nat) (Q : AExit → Env → AState → Prop) : AExit → Env → AState → Prop
  | .exit id', env, A => if id' = id then Q .normal env A else Q (.exit id') env A
  | e, env, A => Q e env A

theorem aw_block {n id : Nat} {c : Code} {env : Env} {A : AState} {Q : AExit → Env → AState → Prop} (h : AW P n c env A (AExit.inBlock id Q)) : AW P n (.block id c) env A Q := by
  intro K w a hs he
  refine wp_block (Code.wp_mono (fun e a w hq => ?_) (h K w a hs he))
  cases e with
  | normal => exact hq
  | exit id' =>
    obtain ⟨K', env', A', h1, h2, h3, h4⟩ := hq
    simp only [Exit.inBlock]
    simp only [AExit.inBlock] at h4
    split
    · rename_i hid; rw [if_pos hid] at h4; exact ⟨K', env', A', h1, h2, h3, h4⟩
    · rename_i hid; rw [if_neg hid] at h4; exact ⟨K', env', A', h1, h2, h3, h4⟩
  | ret => exact hq
  | panic ch => exact hq
  | goto l => exact hq
  | outgrown => exact hq

/-- a loop at the head of a round -/
def ALoop (P : Program) (n : Nat) (c : Code) (env : Env) (A : AState) (Q : AExit → Env → AState → Prop) : Prop :=
  ∀ (K : Kw) (w : World) (a : Act), Sat K A w → EnvR K n env a → ∀ (b : Frame) (k : List Item) (cs : List Frame),
    ∃ e a' w', liftQ K n Q e a' w' ∧ Arrives P (lone (b.at a (.code c :: .inLoop c :: k)) cs w) b k cs e a' w'

theorem aw_loop {n : Nat} {c : Code} {env : Env} {A : AState} {Q : AExit → Env → AState → Prop} (h : ALoop P n c env A Q) : AW P n (.loop c) env A Q := by
  intro K w a hs he b k cs
  obtain ⟨e, a', w', hq, harr⟩ := h K w a hs he b k cs
  exact ⟨e, a', w', hq, .of_steps (.one step_loop) harr⟩

theorem aloop_step {n : Nat} {c : Code} {env : Env} {A : AState} {Q : AExit → Env → AState → Prop}
    (h : ∀ N : Env → AState → Prop, (∀ env A, ALoop P n c env A Q → N env A) → AW P n c env A (AExit.then N Q)) : ALoop P n c env A Q := by
  intro K w a hs he b k cs
  obtain ⟨e, a₁, w₁, hq, harr⟩ := h (fun env A => ALoop P n c env A Q) (fun _ _ h => h) K w a hs he b (.inLoop c :: k) cs
  cases e with
  | normal =>
    obtain ⟨K', env', A', h1, h2, h3, h4⟩ := hq
    obtain ⟨e₂, a₂, w₂, hq₂, harr₂⟩ := h4 K' w₁ a₁ h2 h3 b k cs
    exact ⟨e₂, a₂, w₂, liftQ_le h1 hq₂, .of_steps (Steps.trans harr (.one step_inLoop)) harr₂⟩
  | exit id =>
    obtain ⟨K', env', A', h1, h2, h3, h4⟩ := hq
    exact ⟨.exit id, a₁, w₁, ⟨K', env', A', h1, h2, h3, h4⟩, .pass (x := .inLoop c) rfl (fun _ _ => .inl (by simp)) harr⟩
  | goto l => exact hq.elim
  | ret =>
    obtain ⟨K', env', A', h1, h2, h3, h4⟩ := hq
    exact ⟨.ret, a₁, w₁, ⟨K', env', A', h1, h2, h3, h4⟩, .pass (x := .inLoop c) rfl (fun _ _ => .inl (by simp)) harr⟩
  | panic ch =>
    obtain ⟨K', env', A', v, u, h1, h2, h3, h4, h5, h6⟩ := hq
    exact ⟨.panic ch, a₁, w₁, ⟨K', env', A', v, u, h1, h2, h3, h4, h5, h6⟩, .pass (x := .inLoop c) rfl (fun _ _ => .inl (by simp)) harr⟩
  | outgrown => exact hq.elim

theorem aloop_keep {n : Nat} {c : Code} {env env' : Env} {A : AState} {Q : AExit → Env → AState → Prop} (hd : env'.ds = env.ds) (hl : ∀ t, env'.look t = env.look t ∨ env'.look t = .top) (h : ALoop P n c env' A Q) : ALoop P n c env A Q :=
  fun K w a hs he => h K w a hs ⟨he.size, fun t => by
    rcases hl t with h1 | h1
    · rw [h1]; exact he.var t
    · rw [h1]; exact .top _, by rw [hd]; exact he.defs⟩

/-- values that are forgotten -/
theorem aw_keep {n : Nat} {c : Code} {env env' : Env} {A : AState} {Q : AExit → Env → AState → Prop} (hd : env'.ds = env.ds) (hl : ∀ t, env'.look t = env.look t ∨ env'.look t = .top) (h : AW P n c env' A Q) : AW P n c env A Q :=
  fun K w a hs he => h K w a hs ⟨he.size, fun t => by
    rcases hl t with h1 | h1
    · rw [h1]; exact he.var t
    · rw [h1]; exact .top _, by rw [hd]; exact he.defs⟩

end
end Go.Ab
