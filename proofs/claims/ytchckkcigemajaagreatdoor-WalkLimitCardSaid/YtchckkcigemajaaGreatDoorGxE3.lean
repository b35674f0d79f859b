/- Code and calls, run. -/
import Derived.Test.YtchckkcigemajaaGreatDoorGxE2
namespace Go.Ab
set_option linter.unusedVariables false
set_option linter.unusedSimpArgs false

def keysOf : List (Nat × AV) → List Nat → List Nat
  | [], acc => acc
  | (t, _) :: r, acc => keysOf r (if acc.contains t = true then acc else t :: acc)
def trimEnv (ks : List Nat) (env : Env) : Env := ⟨ks.map fun t => (t, env.look t), env.ds⟩

theorem trim_look (ks : List Nat) (env : Env) (t : Nat) : (trimEnv ks env).look t = env.look t ∨ (trimEnv ks env).look t = .top := by
  unfold trimEnv Env.look
  simp only
  induction ks with
  | nil => exact .inr rfl
  | cons k ks ih =>
    simp only [List.map_cons, lookL]
    split
    · rename_i hk; subst hk; exact .inl rfl
    · exact ih

def runLoop (body : Env → AState → Out) (ks : List Nat) : Nat → Env → AState → Out
  | 0, _, _ => none
  | g + 1, env, A =>
    match body env A with
    | some (.normal, env', A', o) => addObs o (runLoop body ks g (trimEnv ks env') A')
    | r => r

def drawAll (n : Nat) (full : List Oper) (louds fl lags : List Nat) : Bool := drawOk full louds lags && edgesBack full && floatsOk full louds fl && lagsOk n full louds fl lags

def runCode (P : Program) (call : Caller) (ro rl : Nat) (hs : List (Nat × AV)) (n : Nat) : Nat → Code → Env → AState → Out
  | 0, _, _, _ => none
  | f + 1, c, env, A =>
    match c with
    | .skip => some (.normal, env, A, [])
    | .ret => some (.ret, env, A, [])
    | .exit id => some (.exit id, env, A, [])
    | .region _ ops false => runOps P call ro rl hs n ops.toList ops.toList env A
    | .region _ ops true => if drawAll n ops.toList (loudIdx2 ops.toList (floatIdx ops.toList)) (floatIdx ops.toList) (lagIdx ops.toList (loudIdx2 ops.toList (floatIdx ops.toList))) = true then runDraw P call ro rl hs n ops.toList (loudIdx2 ops.toList (floatIdx ops.toList)) (floatIdx ops.toList) (lagIdx ops.toList (loudIdx2 ops.toList (floatIdx ops.toList))) 0 [] ops.toList (lagEnv ops.toList (lagIdx ops.toList (loudIdx2 ops.toList (floatIdx ops.toList))) env) A else none
    | .seq x y => match runCode P call ro rl hs n f x env A with
      | some (.normal, env', A', o) => addObs o (runCode P call ro rl hs n f y env' A')
      | r => r
    | .cond x a b => match ev env x with
      | .val (.bool true) => runCode P call ro rl hs n f a env A
      | .val (.bool false) => runCode P call ro rl hs n f b env A
      | _ => none
    | .block id c => match runCode P call ro rl hs n f c env A with
      | some (.exit id', env', A', o) => if id' = id then some (.normal, env', A', o) else some (.exit id', env', A', o)
      | r => r
    | .loop c => runLoop (runCode P call ro rl hs n f c) (keysOf env.vars []) f env A
    | _ => none

section
variable {P : Program}

theorem then_of {e : AExit} {env : Env} {A : AState} {N : Env → AState → Prop} {Q : AExit → Env → AState → Prop} (h1 : e = .normal → N env A) (h2 : e ≠ .normal → Q e env A) : ∀ e0 env0 A0, is e env A e0 env0 A0 → AExit.then N Q e0 env0 A0 := by
  rintro e0 env0 A0 ⟨rfl, rfl, rfl⟩
  cases e0 with
  | normal => exact h1 rfl
  | exit id => exact h2 (by simp)
  | ret => exact h2 (by simp)
  | panic v => exact h2 (by simp)

theorem runLoop_ok {ro rl n : Nat} {c : Code} {body : Env → AState → Out} (hb : ∀ env A e env' A' obs, body env A = some (e, env', A', obs) → ro ≤ A.boxes.length → rl ≤ A.lens.length → ObsOk obs → AW P n c env A (is e env' A') ∧ Keep ro rl A A') {ks : List Nat} :
    ∀ (g : Nat) (env : Env) (A : AState) (e : AExit) (env' : Env) (A' : AState) (obs : Obs), runLoop body ks g env A = some (e, env', A', obs) → ro ≤ A.boxes.length → rl ≤ A.lens.length → ObsOk obs → ALoop P n c env A (is e env' A') ∧ Keep ro rl A A'
  | 0, env, A, e, env', A', obs, h, h1, h2, ho => by cases h
  | g + 1, env, A, e, env', A', obs, h, h1, h2, ho => by
    unfold runLoop at h
    split at h
    · rename_i env1 A1 o1 hbd
      obtain ⟨o2, h3, rfl⟩ := addObs_some h
      obtain ⟨ho1, ho2⟩ := ObsOk.append.1 ho
      obtain ⟨g1, k1⟩ := hb _ _ _ _ _ _ hbd h1 h2 ho1
      obtain ⟨g2, k2⟩ := runLoop_ok hb g _ A1 e env' A' o2 h3 k1.nb k1.nl ho2
      refine ⟨aloop_step fun N hN => g1.mono (then_of (fun _ => hN _ _ ?_) (fun hne => absurd rfl hne)), k1.trans k2⟩
      exact aloop_keep (env' := trimEnv ks env1) rfl (trim_look ks env1) g2
    · rename_i hr hne
      obtain ⟨g1, k1⟩ := hb _ _ _ _ _ _ h h1 h2 ho
      refine ⟨aloop_step fun N hN => g1.mono (then_of (fun heq => ?_) (fun _ => ⟨rfl, rfl, rfl⟩)), k1⟩
      subst heq
      exact absurd h (hne _ _ _)

theorem runCode_ok (hm : P.follows .mixedOrders = true) {call : Caller} (hc : CallOk P call) {ro rl : Nat} {hs : List (Nat × AV)} {n : Nat} : ∀ (f : Nat) (c : Code) (env : Env) (A : AState) (e : AExit) (env' : Env) (A' : AState) (obs : Obs),
    runCode P call ro rl hs n f c env A = some (e, env', A', obs) → ro ≤ A.boxes.length → rl ≤ A.lens.length → ObsOk obs → AW P n c env A (is e env' A') ∧ Keep ro rl A A'
  | 0, c, env, A, e, env', A', obs, h, h1, h2, ho => by cases h
  | f + 1, c, env, A, e, env', A', obs, h, h1, h2, ho => by
    unfold runCode at h
    split at h
    · simp only [Option.some.injEq, Prod.mk.injEq] at h
      obtain ⟨rfl, rfl, rfl, rfl⟩ := h
      exact ⟨aw_skip ⟨rfl, rfl, rfl⟩, .refl h1 h2⟩
    · simp only [Option.some.injEq, Prod.mk.injEq] at h
      obtain ⟨rfl, rfl, rfl, rfl⟩ := h
      exact ⟨aw_ret ⟨rfl, rfl, rfl⟩, .refl h1 h2⟩
    · simp only [Option.some.injEq, Prod.mk.injEq] at h
      obtain ⟨rfl, rfl, rfl, rfl⟩ := h
      exact ⟨aw_exit ⟨rfl, rfl, rfl⟩, .refl h1 h2⟩
    · obtain ⟨g1, g2⟩ := runOps_ok hc _ _ _ _ _ _ _ h h1 h2 ho
      exact ⟨aw_region g1, g2⟩
    · split at h
      · rename_i hok
        obtain ⟨g1, g2⟩ := runDraw_ok hc _ _ _ _ _ _ _ _ _ h h1 h2 ho
        exact ⟨aw_draw _ _ _ hm hok g1, g2⟩
      · cases h
    · rename_i x y
      split at h
      · rename_i env1 A1 o1 hx
        obtain ⟨o2, h3, rfl⟩ := addObs_some h
        obtain ⟨ho1, ho2⟩ := ObsOk.append.1 ho
        obtain ⟨g1, k1⟩ := runCode_ok hm hc f _ _ _ _ _ _ _ hx h1 h2 ho1
        obtain ⟨g2, k2⟩ := runCode_ok hm hc f _ _ _ _ _ _ _ h3 k1.nb k1.nl ho2
        exact ⟨aw_seq fun N hN => g1.mono (then_of (fun _ => hN _ _ g2) (fun hne => absurd rfl hne)), k1.trans k2⟩
      · rename_i hne
        obtain ⟨g1, k1⟩ := runCode_ok hm hc f _ _ _ _ _ _ _ h h1 h2 ho
        refine ⟨aw_seq fun N hN => g1.mono (then_of (fun heq => ?_) (fun _ => ⟨rfl, rfl, rfl⟩)), k1⟩
        subst heq
        exact absurd h (hne _ _ _)
    · rename_i x a b
      split at h
      · rename_i hx
        obtain ⟨g1, k1⟩ := runCode_ok hm hc f _ _ _ _ _ _ _ h h1 h2 ho
        exact ⟨aw_cond (by rw [hx]; exact g1), k1⟩
      · rename_i hx
        obtain ⟨g1, k1⟩ := runCode_ok hm hc f _ _ _ _ _ _ _ h h1 h2 ho
        exact ⟨aw_cond (by rw [hx]; exact g1), k1⟩
      · cases h
    · rename_i id c
      split at h
      · rename_i id' env1 A1 o1 hx
        split at h
        · rename_i hid
          simp only [Option.some.injEq, Prod.mk.injEq] at h
          obtain ⟨rfl, rfl, rfl, rfl⟩ := h
          obtain ⟨g1, k1⟩ := runCode_ok hm hc f _ _ _ _ _ _ _ hx h1 h2 ho
          refine ⟨aw_block (g1.mono ?_), k1⟩
          rintro e0 env0 A0 ⟨rfl, rfl, rfl⟩
          simp only [AExit.inBlock, if_pos hid]
          exact ⟨rfl, rfl, rfl⟩
        · rename_i hid
          simp only [Option.some.injEq, Prod.mk.injEq] at h
          obtain ⟨rfl, rfl, rfl, rfl⟩ := h
          obtain ⟨g1, k1⟩ := runCode_ok hm hc f _ _ _ _ _ _ _ hx h1 h2 ho
          refine ⟨aw_block (g1.mono ?_), k1⟩
          rintro e0 env0 A0 ⟨rfl, rfl, rfl⟩
          simp only [AExit.inBlock, if_neg hid]
          exact ⟨rfl, rfl, rfl⟩
      · rename_i hne
        obtain ⟨g1, k1⟩ := runCode_ok hm hc f _ _ _ _ _ _ _ h h1 h2 ho
        refine ⟨aw_block (g1.mono ?_), k1⟩
        rintro e0 env0 A0 ⟨rfl, rfl, rfl⟩
        cases e0 with
        | exit id' => exact absurd h (hne _ _ _ _)
        | _ => exact ⟨rfl, rfl, rfl⟩
    · obtain ⟨g1, k1⟩ := runLoop_ok (fun env A e env' A' obs hb h1 h2 ho => runCode_ok hm hc f _ env A e env' A' obs hb h1 h2 ho) _ _ _ _ _ _ _ h h1 h2 ho
      exact ⟨aw_loop g1, k1⟩
    · cases h

end

/-- a deferred closure's form: recover ahead, then the rest -/
def recForm (c : Code) : Option (Tmp × Tmp × Code) :=
  match c with
  | .seq (.region _ ops false) rest =>
    match ops.toList with
    | [⟨some d, .call ⟨.builtin .recover, as, _⟩, _, _, _, none⟩, ⟨some d2, .assign (.tmp d'), _, _, _, none⟩] => if as.size = 0 ∧ d' = d then some (d, d2, rest) else none
    | _ => none
  | _ => none

theorem recForm_some {c : Code} {d d2 : Tmp} {rest : Code} (h : recForm c = some (d, d2, rest)) : ∃ (id : Nat) (at1 : Array TypeId) (ty ty2 : TypeId) (p1 p2 : String) (f1 f2 : Array Edge),
    c = .seq (.region id #[⟨some d, .call ⟨.builtin .recover, #[], at1⟩, ty, p1, f1, none⟩, ⟨some d2, .assign (.tmp d), ty2, p2, f2, none⟩] false) rest := by
  unfold recForm at h
  split at h
  · rename_i id ops rest'
    split at h
    · rename_i d0 as at1 ty p1 f1 d02 d' ty2 p2 f2 hops
      split at h
      · rename_i hc
        obtain ⟨has, rfl⟩ := hc
        simp only [Option.some.injEq, Prod.mk.injEq] at h
        obtain ⟨rfl, rfl, rfl⟩ := h
        have has' : as = #[] := Array.eq_empty_of_size_eq_zero has
        subst has'
        refine ⟨id, at1, ty, ty2, p1, p2, f1, f2, ?_⟩
        have : ops = #[⟨some d', .call ⟨.builtin .recover, #[], at1⟩, ty, p1, f1, none⟩, ⟨some d02, .assign (.tmp d'), ty2, p2, f2, none⟩] := by
          rw [← Array.toArray_toList (xs := ops), hops]
        rw [this]
      · cases h
    · cases h
  · cases h

abbrev Hook := Nat → Nat → List AV → AState → Option (AV × AState)

def takeB (nb : Nat) (A : AState) : AState := { A with boxes := A.boxes.take nb }

/-- how many boxes stay that a result needs -/
def stay (nb : Nat) (v : AV) (A : AState) : Nat := if belowB nb v = true then nb else Nat.max nb A.boxes.length

def runDef (P : Program) (tbl : FuncId → Option Func) (hint : FuncId → List (Nat × AV)) (call : Caller) (F ro rl : Nat) (k : FuncId) (caps : List AV) (A : AState) (pv : Option AV) : Option (AState × Obs) :=
  match tbl k with
  | none => none
  | some fn =>
    match fn.body with
    | none => none
    | some c => match recForm c with
      | none => none
      | some (d, d2, rest) =>
        if (decide (caps.length ≤ fn.ntmps) && (dstOk fn.ntmps (some d) && dstOk fn.ntmps (some d2)) && fn.results.toList.isEmpty) = true then
          match runCode P call ro rl (hint k) fn.ntmps F rest ⟨(d2, recVal pv) :: (d, recVal pv) :: envOf 0 caps, []⟩ A with
          | some (.normal, ⟨_, []⟩, A', o) => some (takeB A.boxes.length A', o)
          | some (.ret, ⟨_, []⟩, A', o) => some (takeB A.boxes.length A', o)
          | _ => none
        else none

def endRes (P : Program) (nb : Nat) (A : AState) (env : Env) (rs : List ResultVar) (o : Obs) : COut :=
  match resA P A env rs with
  | some vs => if belowB (stay nb (packA vs) A) (packA vs) = true then some (.ret (packA vs), takeB (stay nb (packA vs) A) A, o) else none
  | none => none

def runCall (P : Program) (tbl : FuncId → Option Func) (hook : FuncId → Option Hook) (hint : FuncId → List (Nat × AV)) (F : Nat) : Nat → Caller
  | 0, _, _, _, _, _ => none
  | f + 1, ro, rl, k, args, A =>
    match hook k with
    | some h => match h ro rl args A with | some (v, A') => some (.ret v, A', []) | none => none
    | none =>
      match tbl k with
      | none => none
      | some fn =>
        match fn.body with
        | none => none
        | some c =>
          if decide (args.length ≤ fn.ntmps) = true then
            match runCode P (runCall P tbl hook hint F f) ro rl (hint k) fn.ntmps F c ⟨envOf 0 args, []⟩ A with
            | some (.exit _, _, _, _) => none
            | some (.panic v, env, A', o) =>
              match env.ds with
              | [] => if belowB (stay A.boxes.length v A') v = true then some (.pan v, takeB (stay A.boxes.length v A') A', o) else none
              | [(kd, caps)] => match runDef P tbl hint (runCall P tbl hook hint F f) F ro rl kd caps A' (some v) with
                | some (A2, o2) => endRes P A.boxes.length A2 env fn.results.toList (o ++ o2)
                | none => none
              | _ => none
            | some (_, env, A', o) =>
              match env.ds with
              | [] => endRes P A.boxes.length A' env fn.results.toList o
              | [(kd, caps)] => match runDef P tbl hint (runCall P tbl hook hint F f) F ro rl kd caps A' none with
                | some (A2, o2) => endRes P A.boxes.length A2 env fn.results.toList (o ++ o2)
                | none => none
              | _ => none
            | none => none
          else none

def TblOk (P : Program) (tbl : FuncId → Option Func) : Prop := ∀ k fn, tbl k = some fn → P.funcs[k]? = some fn ∧ hasBody P k = true
def HookOk (P : Program) (hook : FuncId → Option Hook) : Prop := ∀ k h, hook k = some h → ∀ ro rl args A v A', h ro rl args A = some (v, A') → ro ≤ A.boxes.length → rl ≤ A.lens.length →
  CallsA P k args A (fun r0 A0 => r0 = .ret v ∧ A0 = A') ∧ Keep ro rl A A'

section
variable {P : Program}

theorem DefA.mono {k : FuncId} {caps : List AV} {A : AState} {pv : Option AV} {R R' : AState → Prop} (h : DefA P k caps A pv R) (hr : ∀ A', R A' → R' A') : DefA P k caps A pv R' :=
  ⟨h.1, fun K w vals u hs hv hu => (h.2 K w vals u hs hv hu).mono (by
    rintro e u' w' ⟨x, h1, h2, K', A', h3, h4, h5, h6⟩
    exact ⟨x, h1, h2, K', A', h3, h4, h5, hr _ h6⟩)⟩

theorem keep_take {ro rl nb : Nat} {A A' : AState} (h : Keep ro rl A A') (hn : ro ≤ nb) : Keep ro rl A (takeB nb A') :=
  ⟨by simp only [takeB, List.take_take]; rw [Nat.min_eq_left hn]; exact h.boxes, h.lens, h.rows, by have := h.nb; simp [takeB]; omega, h.nl⟩

theorem stay_ge (nb : Nat) (v : AV) (A : AState) : nb ≤ stay nb v A := by
  unfold stay
  split
  · exact Nat.le_refl _
  · exact Nat.le_max_left _ _

theorem runDef_ok (hm : P.follows .mixedOrders = true) {tbl : FuncId → Option Func} {hint : FuncId → List (Nat × AV)} {call : Caller} (ht : TblOk P tbl) (hc : CallOk P call) {F ro rl : Nat} {k : FuncId} {caps : List AV} {A A' : AState} {pv : Option AV} {o : Obs}
    (h : runDef P tbl hint call F ro rl k caps A pv = some (A', o)) (h1 : ro ≤ A.boxes.length) (h2 : rl ≤ A.lens.length) (ho : ObsOk o) : DefA P k caps A pv (fun A0 => A0 = A') ∧ Keep ro rl A A' := by
  unfold runDef at h
  split at h
  · cases h
  rename_i fn hfn
  obtain ⟨hf, hbody⟩ := ht k fn hfn
  split at h
  · cases h
  rename_i c hb
  split at h
  · cases h
  rename_i d d2 rest hform
  obtain ⟨id, at1, ty, ty2, p1, p2, f1, f2, rfl⟩ := recForm_some hform
  split at h
  case isFalse => cases h
  rename_i hcond
  simp only [Bool.and_eq_true] at hcond
  obtain ⟨⟨hcaps, hds⟩, hres⟩ := hcond
  have hrs : fn.results = #[] := by
    have : fn.results.toList = [] := by simpa using hres
    rw [← Array.toArray_toList (xs := fn.results), this]
  have fin : ∀ (e : AExit) (vars : List (Nat × AV)) (A1 : AState), (e = .normal ∨ e = .ret) → runCode P call ro rl (hint k) fn.ntmps F rest ⟨(d2, recVal pv) :: (d, recVal pv) :: envOf 0 caps, []⟩ A = some (e, ⟨vars, []⟩, A1, o) → DefA P k caps A pv (fun A0 => A0 = takeB A.boxes.length A1) ∧ Keep ro rl A (takeB A.boxes.length A1) := by
    intro e vars A1 he hr
    obtain ⟨g1, k1⟩ := runCode_ok hm hc _ _ _ _ _ _ _ _ hr h1 h2 ho
    refine ⟨defA_of hf hb rfl hrs hbody hcaps (by simp only [Bool.and_eq_true]; simpa using hds) (g1.mono ?_), keep_take k1 h1⟩
    rintro e0 env0 A0 ⟨rfl, rfl, rfl⟩
    rcases he with rfl | rfl
    · exact ⟨rfl, rfl⟩
    · exact ⟨rfl, rfl⟩
  split at h
  · rename_i vars A1 o1 hr
    simp only [Option.some.injEq, Prod.mk.injEq] at h
    obtain ⟨rfl, rfl⟩ := h
    exact fin _ _ _ (.inl rfl) hr
  · rename_i vars A1 o1 hr
    simp only [Option.some.injEq, Prod.mk.injEq] at h
    obtain ⟨rfl, rfl⟩ := h
    exact fin _ _ _ (.inr rfl) hr
  · cases h

theorem endRes_some {nb : Nat} {A A' : AState} {env : Env} {rs : List ResultVar} {o o' : Obs} {r : ARes} (h : endRes P nb A env rs o = some (r, A', o')) :
    ∃ vs, resA P A env rs = some vs ∧ belowB (stay nb (packA vs) A) (packA vs) = true ∧ r = .ret (packA vs) ∧ A' = takeB (stay nb (packA vs) A) A ∧ o' = o := by
  unfold endRes at h
  split at h
  · rename_i vs hvs
    split at h
    · rename_i hb
      simp only [Option.some.injEq, Prod.mk.injEq] at h
      obtain ⟨rfl, rfl, rfl⟩ := h
      exact ⟨vs, hvs, hb, rfl, rfl, rfl⟩
    · cases h
  · cases h

theorem runCall_ok (hm : P.follows .mixedOrders = true) {tbl : FuncId → Option Func} {hook : FuncId → Option Hook} {hint : FuncId → List (Nat × AV)} {F : Nat} (ht : TblOk P tbl) (hh : HookOk P hook) : ∀ f : Nat, CallOk P (runCall P tbl hook hint F f)
  | 0 => by intro ro rl k args A r A' obs h; cases h
  | f + 1 => by
    intro ro rl k args A r A' obs h h1 h2 ho
    have hc := runCall_ok hm ht hh (hint := hint) (F := F) f
    unfold runCall at h
    split at h
    · rename_i hk hhk
      split at h
      · rename_i v A2 hv
        simp only [Option.some.injEq, Prod.mk.injEq] at h
        obtain ⟨rfl, rfl, rfl⟩ := h
        exact hh k _ hhk ro rl args A v A2 hv h1 h2
      · cases h
    · split at h
      · cases h
      rename_i fn hfn
      obtain ⟨hf, hbody⟩ := ht k fn hfn
      split at h
      · cases h
      rename_i c hb
      split at h
      case isFalse => cases h
      rename_i hargs
      split at h
      · cases h
      · rename_i v env A1 o hr
        split at h
        · rename_i hds
          split at h
          · rename_i hbel
            simp only [Option.some.injEq, Prod.mk.injEq] at h
            obtain ⟨rfl, rfl, rfl⟩ := h
            obtain ⟨g1, k1⟩ := runCode_ok hm hc _ _ _ _ _ _ _ _ hr h1 h2 ho
            refine ⟨callsA_ofD (stay A.boxes.length v A1) hf hb rfl rfl hbody hargs (stay_ge _ _ _) (g1.mono ?_), keep_take k1 (Nat.le_trans h1 (stay_ge _ _ _))⟩
            rintro e0 env0 A0 ⟨rfl, rfl, rfl⟩
            simp only [bodyQD, hds]
            exact ⟨hbel, trivial, rfl⟩
          · cases h
        · rename_i kd caps hds
          split at h
          · rename_i A2 o2 hdef
            obtain ⟨vs, hvs, hbel, rfl, rfl, rfl⟩ := endRes_some h
            obtain ⟨ho1, ho2⟩ := ObsOk.append.1 ho
            obtain ⟨g1, k1⟩ := runCode_ok hm hc _ _ _ _ _ _ _ _ hr h1 h2 ho1
            obtain ⟨g2, k2⟩ := runDef_ok hm ht hc hdef k1.nb k1.nl ho2
            refine ⟨callsA_ofD (stay A.boxes.length (packA vs) A2) hf hb rfl rfl hbody hargs (stay_ge _ _ _) (g1.mono ?_), keep_take (k1.trans k2) (Nat.le_trans h1 (stay_ge _ _ _))⟩
            rintro e0 env0 A0 ⟨rfl, rfl, rfl⟩
            simp only [bodyQD, hds]
            refine g2.mono ?_
            rintro A3 rfl
            exact ⟨vs, hvs, hbel, rfl, rfl⟩
          · cases h
        · cases h
      · rename_i e env A1 o hne1 hne2 hr
        split at h
        · rename_i hds
          obtain ⟨vs, hvs, hbel, rfl, rfl, rfl⟩ := endRes_some h
          obtain ⟨g1, k1⟩ := runCode_ok hm hc _ _ _ _ _ _ _ _ hr h1 h2 ho
          refine ⟨callsA_ofD (stay A.boxes.length (packA vs) A1) hf hb rfl rfl hbody hargs (stay_ge _ _ _) (g1.mono ?_), keep_take k1 (Nat.le_trans h1 (stay_ge _ _ _))⟩
          rintro e0 env0 A0 ⟨rfl, rfl, rfl⟩
          cases e0 with
          | exit id => exact absurd rfl (hne1 _)
          | panic v => exact absurd rfl (hne2 _)
          | normal => simp only [bodyQD, hds]; exact ⟨vs, hvs, hbel, rfl, rfl⟩
          | ret => simp only [bodyQD, hds]; exact ⟨vs, hvs, hbel, rfl, rfl⟩
        · rename_i kd caps hds
          split at h
          · rename_i A2 o2 hdef
            obtain ⟨vs, hvs, hbel, rfl, rfl, rfl⟩ := endRes_some h
            obtain ⟨ho1, ho2⟩ := ObsOk.append.1 ho
            obtain ⟨g1, k1⟩ := runCode_ok hm hc _ _ _ _ _ _ _ _ hr h1 h2 ho1
            obtain ⟨g2, k2⟩ := runDef_ok hm ht hc hdef k1.nb k1.nl ho2
            refine ⟨callsA_ofD (stay A.boxes.length (packA vs) A2) hf hb rfl rfl hbody hargs (stay_ge _ _ _) (g1.mono ?_), keep_take (k1.trans k2) (Nat.le_trans h1 (stay_ge _ _ _))⟩
            rintro e0 env0 A0 ⟨rfl, rfl, rfl⟩
            have g4 := g2.mono (R' := fun A' => ∃ vs', resA P A' env0 fn.results.toList = some vs' ∧ belowB (stay A.boxes.length (packA vs) A2) (packA vs') = true ∧ (ARes.ret (packA vs') = .ret (packA vs) ∧ ({ A' with boxes := A'.boxes.take (stay A.boxes.length (packA vs) A2) } : AState) = takeB (stay A.boxes.length (packA vs) A2) A2)) (by
              rintro A3 rfl
              exact ⟨vs, hvs, hbel, rfl, rfl⟩)
            cases e0 with
            | exit id => exact absurd rfl (hne1 _)
            | panic v => exact absurd rfl (hne2 _)
            | normal => simp only [bodyQD, hds]; exact g4
            | ret => simp only [bodyQD, hds]; exact g4
          · cases h
        · cases h
      · cases h

end
end Go.Ab
