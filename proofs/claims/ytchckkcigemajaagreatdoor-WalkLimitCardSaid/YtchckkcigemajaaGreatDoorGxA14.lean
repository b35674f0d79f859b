/- Deferred closures that recover. -/
import Derived.Test.YtchckkcigemajaaGreatDoorGxA13
namespace Go.Ab
set_option linter.unusedVariables false
set_option linter.unusedSimpArgs false
section
variable {P : Program}

/-- how a frame stands at its deferred calls -/
def modeIs (K : Kw) (pv : Option AV) (u : FrameMode) : Prop :=
  match pv with
  | none => u = .returning
  | some v => ∃ x, K.V v x ∧ u = .panicking [{ v := x, recovered := false }]

def modeThen : FrameMode → FrameMode
  | .panicking ({ v, .. } :: older) => .panicking ({ v, recovered := true } :: older)
  | u => u

/-- what a deferred closure comes to that recovers -/
def DefA (P : Program) (k : FuncId) (caps : List AV) (A : AState) (pv : Option AV) (R : AState → Prop) : Prop :=
  hasBody P k = true ∧ ∀ (K : Kw) (w : World) (vals : Array Value) (u : FrameMode), Sat K A w → VArgs K caps vals → modeIs K pv u →
    CallsD P k vals u w fun e u' w' => ∃ x, e = .returned x ∧ u' = modeThen u ∧ ∃ K' A', K.le K' ∧ Sat K' A' w' ∧ K'.ι.length = K.ι.length ∧ R A'

def recVal : Option AV → AV
  | none => .val .nilIface
  | some v => v

def defQ (nb : Nat) (R : AState → Prop) : AExit → Env → AState → Prop
  | .normal, env, A | .ret, env, A => env.ds = [] ∧ R { A with boxes := A.boxes.take nb }
  | _, _, _ => False

theorem step_rec {ops : Array Oper} {Q : Exit → Act → List Frame → World → Prop} {j : Nat} {js : List Nat} {a : Act} {cs : List Frame} {w : World} {d : Tmp} {at1 : Array TypeId} {ty : TypeId} {p1 : String} {f1 : Array Edge}
    (hop : ops[j]? = some ⟨some d, .call ⟨.builtin .recover, #[], at1⟩, ty, p1, f1, none⟩)
    (hex : (execOp a.eval ⟨some d, .call ⟨.builtin .recover, #[], at1⟩, ty, p1, f1, none⟩).run P w = .ok .recover w) :
    wpOpsS P ops Q (j :: js) a cs w = (match recoverD cs with
      | some (v, cs') => wpOpsS P ops Q js (a.put (some d) v) cs' w
      | none => wpOpsS P ops Q js (a.put (some d) .nilIface) cs w) := by
  rw [wpOpsS, hop]
  simp only
  rw [if_pos (by simp [Region.wanted]), hex]
  rfl

theorem defA_of {k : FuncId} {fn : Func} {id n : Nat} {d d2 : Tmp} {at1 : Array TypeId} {ty ty2 : TypeId} {p1 p2 : String} {f1 f2 : Array Edge} {rest : Code} {caps : List AV} {A : AState} {pv : Option AV} {R : AState → Prop}
    (hf : P.funcs[k]? = some fn)
    (hb : fn.body = some (.seq (.region id #[⟨some d, .call ⟨.builtin .recover, #[], at1⟩, ty, p1, f1, none⟩, ⟨some d2, .assign (.tmp d), ty2, p2, f2, none⟩] false) rest))
    (hn' : fn.ntmps = n) (hrs : fn.results = #[]) (hbody : hasBody P k = true) (hn : decide (caps.length ≤ n) = true) (hd : (dstOk n (some d) && dstOk n (some d2)) = true)
    (h : AW P n rest ⟨(d2, recVal pv) :: (d, recVal pv) :: envOf 0 caps, []⟩ A (defQ A.boxes.length R)) : DefA P k caps A pv R := by
  subst hn'
  replace hn := of_decide_eq_true hn
  simp only [Bool.and_eq_true] at hd
  refine ⟨hbody, fun K w vals u hs hv hu => callsD_of_wpS hf hb fun c₀ cs hc => ?_⟩
  refine wpS_seq (wpS_region ?_)
  have henv := enter_env (fn := fn) hv hn
  -- recover
  have hrec : ∃ x cs', K.V (recVal pv) x ∧ cs' = { c₀ with mode := modeThen u } :: cs ∧ (match recoverD (c₀ :: cs) with | some (v, cs'') => v = x ∧ cs'' = cs' | none => x = .nilIface ∧ cs' = c₀ :: cs) := by
    cases pv with
    | none =>
      simp only [modeIs] at hu
      subst hu
      refine ⟨.nilIface, _, .val _, rfl, ?_⟩
      have : recoverD (c₀ :: cs) = none := by simp [recoverD, hc]
      rw [this]
      refine ⟨rfl, ?_⟩
      have : ({ c₀ with mode := modeThen .returning } : Frame) = c₀ := by cases c₀; simp_all [modeThen]
      rw [this]
    | some v =>
      obtain ⟨x, hx, hu⟩ := hu
      refine ⟨x, _, hx, rfl, ?_⟩
      have : recoverD (c₀ :: cs) = some (x, { c₀ with mode := modeThen u } :: cs) := by
        simp [recoverD, hc, hu, modeThen]
      rw [this]
      exact ⟨rfl, rfl⟩
  obtain ⟨x, cs', hx, hcs', hrec⟩ := hrec
  have hex : ∀ (a : Act) (w : World), (execOp a.eval ⟨some d, .call ⟨.builtin .recover, #[], at1⟩, ty, p1, f1, none⟩).run P w = .ok .recover w := by
    intro a w; rfl
  have hlist : List.range (#[(⟨some d, .call ⟨.builtin .recover, #[], at1⟩, ty, p1, f1, none⟩ : Oper), ⟨some d2, .assign (.tmp d), ty2, p2, f2, none⟩] : Array Oper).size = [0, 1] := rfl
  rw [hlist]
  have env1 := henv.put hd.1 hx
  have env2 := env1.put (d := some d2) hd.2 (u := (Act.put { tmps := vals ++ Array.replicate (fn.ntmps - vals.size) undef, defers := [] } (some d) x).eval (.tmp d)) (v := recVal pv) (by
    have := ev_ok env1 (.tmp d)
    simpa [ev, Env.look, Env.put, lookL] using this)
  have fin : rest.wpS P (bodyPostS P fn c₀ cs fun e u' w' => ∃ x, e = .returned x ∧ u' = modeThen u ∧ ∃ K' A', K.le K' ∧ Sat K' A' w' ∧ K'.ι.length = K.ι.length ∧ R A')
      (Act.put (Act.put { tmps := vals ++ Array.replicate (fn.ntmps - vals.size) undef, defers := [] } (some d) x) (some d2) ((Act.put { tmps := vals ++ Array.replicate (fn.ntmps - vals.size) undef, defers := [] } (some d) x).eval (.tmp d))) cs' w := by
    refine wpS_of_wp (Code.wp_mono (fun e a w' hq => ?_) (h K w _ hs env2))
    have done : ∀ (K' : Kw) (env : Env) (A' : AState), K.le K' → Sat K' A' w' → EnvR K' fn.ntmps env a → env.ds = [] ∧ R { A' with boxes := A'.boxes.take A.boxes.length } →
        a.defers = [] ∧ ∃ u', cs' = { c₀ with mode := u' } :: cs ∧ ∃ v, (results fn a.tmps).run P w' = .ok v w' ∧ ∃ x, Ending.returned v = .returned x ∧ u' = modeThen u ∧ ∃ K' A', K.le K' ∧ Sat K' A' w' ∧ K'.ι.length = K.ι.length ∧ R A' := by
      rintro K' env A' h1 h2 h3 ⟨h4, h5⟩
      have hιn : K.ι.length = A.boxes.length := hs.nbox
      refine ⟨List.eq_nil_of_length_eq_zero (by rw [h3.defs.1, h4]; rfl), _, hcs', .tuple #[], ?_, _, rfl, rfl, { K' with ι := K'.ι.take A.boxes.length }, _, ⟨h1.ext, prefix_take h1.pre (by omega), h1.base⟩, h2.drop _, ?_, h5⟩
      · simp [results, hrs]
      · have := h1.pre.length_le
        simp; omega
    cases e with
    | normal => obtain ⟨K', env, A', h1, h2, h3, h4⟩ := hq; exact done K' env A' h1 h2 h3 h4
    | ret => obtain ⟨K', env, A', h1, h2, h3, h4⟩ := hq; exact done K' env A' h1 h2 h3 h4
    | exit id => obtain ⟨K', env, A', h1, h2, h3, h4⟩ := hq; exact h4.elim
    | goto l => exact hq.elim
    | panic ch => obtain ⟨K', env, A', v, u, h1, h2, h3, h4, h5, h6⟩ := hq; exact h6.elim
    | outgrown => exact hq.elim
  have second : ∀ (a : Act), a = Act.put { tmps := vals ++ Array.replicate (fn.ntmps - vals.size) undef, defers := [] } (some d) x →
      wpOpsS P #[(⟨some d, .call ⟨.builtin .recover, #[], at1⟩, ty, p1, f1, none⟩ : Oper), ⟨some d2, .assign (.tmp d), ty2, p2, f2, none⟩]
        (Exit.thenS (rest.wpS P (bodyPostS P fn c₀ cs fun e u' w' => ∃ x, e = .returned x ∧ u' = modeThen u ∧ ∃ K' A', K.le K' ∧ Sat K' A' w' ∧ K'.ι.length = K.ι.length ∧ R A')) (bodyPostS P fn c₀ cs fun e u' w' => ∃ x, e = .returned x ∧ u' = modeThen u ∧ ∃ K' A', K.le K' ∧ Sat K' A' w' ∧ K'.ι.length = K.ι.length ∧ R A')) [1] a cs' w := by
    rintro a rfl
    simp only [wpOpsS]
    exact fin
  have hop : (#[(⟨some d, .call ⟨.builtin .recover, #[], at1⟩, ty, p1, f1, none⟩ : Oper), ⟨some d2, .assign (.tmp d), ty2, p2, f2, none⟩] : Array Oper)[0]? = some ⟨some d, .call ⟨.builtin .recover, #[], at1⟩, ty, p1, f1, none⟩ := rfl
  rw [step_rec hop (hex _ _)]
  cases hr : recoverD (c₀ :: cs) with
  | none =>
    rw [hr] at hrec
    obtain ⟨rfl, h2⟩ := hrec
    rw [← h2]
    exact second _ rfl
  | some p =>
    obtain ⟨v, cs''⟩ := p
    rw [hr] at hrec
    obtain ⟨rfl, rfl⟩ := hrec
    exact second _ rfl

/-- what stands at the end of a function that may have one deferred closure -/
def bodyQD (P : Program) (rs : List ResultVar) (nb : Nat) (R : ARes → AState → Prop) : AExit → Env → AState → Prop
  | .normal, env, A | .ret, env, A =>
    match env.ds with
    | [] => ∃ vs, resA P A env rs = some vs ∧ belowB nb (packA vs) = true ∧ R (.ret (packA vs)) { A with boxes := A.boxes.take nb }
    | [(k, caps)] => DefA P k caps A none fun A' => ∃ vs, resA P A' env rs = some vs ∧ belowB nb (packA vs) = true ∧ R (.ret (packA vs)) { A' with boxes := A'.boxes.take nb }
    | _ => False
  | .panic v, env, A =>
    match env.ds with
    | [] => belowB nb v = true ∧ R (.pan v) { A with boxes := A.boxes.take nb }
    | [(k, caps)] => DefA P k caps A (some v) fun A' => ∃ vs, resA P A' env rs = some vs ∧ belowB nb (packA vs) = true ∧ R (.ret (packA vs)) { A' with boxes := A'.boxes.take nb }
    | _ => False
  | .exit _, _, _ => False

theorem callsA_ofD {k : FuncId} {fn : Func} {c : Code} {n : Nat} {rs : List ResultVar} {args : List AV} {A : AState} {R : ARes → AState → Prop} (nb : Nat) (hf : P.funcs[k]? = some fn) (hb : fn.body = some c) (hn' : fn.ntmps = n) (hrs : fn.results.toList = rs) (hbody : hasBody P k = true)
    (hn : decide (args.length ≤ n) = true) (hnb : A.boxes.length ≤ nb) (h : AW P n c ⟨envOf 0 args, []⟩ A (bodyQD P rs nb R)) : CallsA P k args A R := by
  subst hn'; subst hrs
  replace hn := of_decide_eq_true hn
  refine .inl ⟨hbody, fun K w vals hs hv => calls_of_wp_defers hf hb (Code.wp_mono (fun e a w' hq => ?_) (h K w _ hs (enter_env hv hn)))⟩
  have hιn : K.ι.length ≤ nb := by rw [hs.nbox]; exact hnb
  -- the results, behind all
  have res : ∀ (K' K2 : Kw) (env : Env) (A2 : AState) (w2 : World), K.le K' → EnvR K' fn.ntmps env a → K'.le K2 → Sat K2 A2 w2 → (∃ vs, resA P A2 env fn.results.toList = some vs ∧ belowB nb (packA vs) = true ∧ R (.ret (packA vs)) { A2 with boxes := A2.boxes.take nb }) →
      ∃ v, (results fn a.tmps).run P w2 = .ok v w2 ∧ postA K R (.returned v) w2 := by
    rintro K' K2 env A2 w2 h1 h3 h5 h6 ⟨vs, hvs, hbel, hR⟩
    obtain ⟨u, hu, hv⟩ := results_ok (P := P) h6 (h3.mono h5) hvs
    have h7 := h1.trans h5
    exact ⟨u, hu, { K2 with ι := K2.ι.take nb }, _, _, ⟨h7.ext, prefix_take h7.pre hιn, h7.base⟩, h6.drop nb, Ab.V.take hv (below_of hbel), hR⟩
  -- the deferred call
  have deferred : ∀ (K' : Kw) (env : Env) (A' : AState) (kd : FuncId) (caps : List AV) (pv : Option AV) (u : FrameMode), u ≠ .run → settle (modeThen u) = .returning → K.le K' → Sat K' A' w' → EnvR K' fn.ntmps env a → env.ds = [(kd, caps)] → modeIs K' pv u →
      (DefA P kd caps A' pv fun A' => ∃ vs, resA P A' env fn.results.toList = some vs ∧ belowB nb (packA vs) = true ∧ R (.ret (packA vs)) { A' with boxes := A'.boxes.take nb }) → Leaves P fn a.tmps (postA K R) a.defers u w' := by
    intro K' env A' kd caps pv u hur hset h1 h2 h3 hds hm hdef
    have hl := h3.defs.1
    rw [hds] at hl
    obtain ⟨dd, hdd⟩ := List.length_eq_one_iff.1 hl
    obtain ⟨cv, ht, ha, hcl, hcV⟩ := h3.defs.2 0 (kd, caps) dd (by rw [hds]; rfl) (by rw [hdd]; rfl)
    rw [hdd]
    refine ⟨hur, .func kd, cv.toArray, kd, cv.toArray, ht, ?_, ?_⟩
    · rw [ht, ha]
      simp only [invoke, Array.empty_append]
      exact run_callFunc_body hdef.1 _ _
    · refine (hdef.2 K' w' cv.toArray u h2 ⟨by simpa using hcl, fun j c x hc hx => hcV j c x hc (by simpa using hx)⟩ hm).mono ?_
      rintro e u' w2 ⟨x, rfl, rfl, K2, A2, g1, g2, g3, g4⟩
      simp only [hset]
      exact res K' K2 env A2 w2 h1 h3 g1 g2 g4
  have plain : ∀ (K' : Kw) (env : Env) (A' : AState), K.le K' → Sat K' A' w' → EnvR K' fn.ntmps env a → env.ds = [] → (∃ vs, resA P A' env fn.results.toList = some vs ∧ belowB nb (packA vs) = true ∧ R (.ret (packA vs)) { A' with boxes := A'.boxes.take nb }) → Leaves P fn a.tmps (postA K R) a.defers .returning w' := by
    intro K' env A' h1 h2 h3 hds hr
    have hl : a.defers = [] := List.eq_nil_of_length_eq_zero (by rw [h3.defs.1, hds]; rfl)
    rw [hl]
    exact res K' K' env A' w' h1 h3 (.refl _) h2 hr
  have ret : ∀ (K' : Kw) (env : Env) (A' : AState), K.le K' → Sat K' A' w' → EnvR K' fn.ntmps env a → bodyQD P fn.results.toList nb R .ret env A' → Leaves P fn a.tmps (postA K R) a.defers .returning w' := by
    intro K' env A' h1 h2 h3 h4
    simp only [bodyQD] at h4
    split at h4
    · rename_i hds; exact plain K' env A' h1 h2 h3 hds h4
    · rename_i kd caps hds; exact deferred K' env A' kd caps none .returning (by simp) rfl h1 h2 h3 hds rfl h4
    · exact h4.elim
  cases e with
  | normal => obtain ⟨K', env, A', h1, h2, h3, h4⟩ := hq; exact ret K' env A' h1 h2 h3 h4
  | ret => obtain ⟨K', env, A', h1, h2, h3, h4⟩ := hq; exact ret K' env A' h1 h2 h3 h4
  | exit id => obtain ⟨K', env, A', h1, h2, h3, h4⟩ := hq; exact h4.elim
  | goto l => exact hq.elim
  | panic ch =>
    obtain ⟨K', env, A', v, u, h1, h2, h3, h4, rfl, h6⟩ := hq
    simp only [bodyQD] at h6
    split at h6
    · rename_i hds
      have hl : a.defers = [] := List.eq_nil_of_length_eq_zero (by rw [h3.defs.1, hds]; rfl)
      show Leaves P fn a.tmps (postA K R) a.defers _ w'
      rw [hl]
      exact ⟨{ K' with ι := K'.ι.take nb }, _, v, u, ⟨h1.ext, prefix_take h1.pre hιn, h1.base⟩, h2.drop nb, Ab.V.take h4 (below_of h6.1), rfl, h6.2⟩
    · rename_i kd caps hds
      exact deferred K' env A' kd caps (some v) _ (by simp) rfl h1 h2 h3 hds ⟨u, h4, rfl⟩ h6
    · exact h6.elim
  | outgrown => exact hq.elim

end
end Go.Ab
