/- A function's contract out of its body. -/
import Derived.Test.YtchckkcigemajaaGreatDoorGxA10
namespace Go.Ab
set_option linter.unusedVariables false
set_option linter.unusedSimpArgs false

def envOf : Nat → List AV → List (Nat × AV)
  | _, [] => []
  | i, a :: r => (i, a) :: envOf (i + 1) r

theorem lookL_envOf : ∀ (l : List AV) (i t : Nat), lookL (envOf i l) t = if i ≤ t then (l[t - i]?).getD .top else .top
  | [], i, t => by simp [envOf, lookL]
  | a :: r, i, t => by
    simp only [envOf, lookL]
    by_cases h : i = t
    · subst h; simp
    · rw [if_neg h, lookL_envOf r (i + 1) t]
      by_cases h2 : i ≤ t
      · rw [if_pos h2, if_pos (by omega)]
        have : t - i = (t - (i + 1)) + 1 := by omega
        rw [this]; simp
      · rw [if_neg h2, if_neg (by omega)]

/-- what a function's results read as -/
def resA (P : Program) (A : AState) (env : Env) : List ResultVar → Option (List AV)
  | [] => some []
  | .tmp t :: r => (resA P A env r).map (env.look t :: ·)
  | .cell a ty :: r =>
    match loadA P A ty (env.look a), resA P A env r with
    | some v, some vs => some (v :: vs)
    | _, _ => none

def packA : List AV → AV
  | [v] => v
  | vs => .tuple vs

section
variable {P : Program}

theorem resA_ok {K : Kw} {A : AState} {w : World} {n : Nat} {env : Env} {a : Act} (h : Sat K A w) (he : EnvR K n env a) : ∀ (rs : List ResultVar) (vs : List AV), resA P A env rs = some vs →
    ∃ us : List Value, (rs.mapM fun | .tmp t => pure (a.tmps.getD t undef) | .cell x t => do loadVar t (← asAddr (a.tmps.getD x undef)) : Sem (List Value)).run P w = .ok us w ∧ us.length = vs.length ∧
      ∀ (j : Nat) (v : AV) (u : Value), vs[j]? = some v → us[j]? = some u → K.V v u
  | [], vs, hr => by
    simp [resA] at hr
    subst hr
    exact ⟨[], rfl, rfl, by simp⟩
  | .tmp t :: r, vs, hr => by
    simp only [resA, Option.map_eq_some_iff] at hr
    obtain ⟨vs', hvs, rfl⟩ := hr
    obtain ⟨us, h1, h2, h3⟩ := resA_ok h he r vs' hvs
    refine ⟨a.tmps.getD t undef :: us, ?_, by simp [h2], fun j v u hv hu => ?_⟩
    · simp only [List.mapM_cons, Sem.run_bind, Sem.run_pure, Result.andThen_ok, h1]
    · cases j with
      | zero => simp at hv hu; subst hv; subst hu; simpa using he.var t
      | succ j => exact h3 j v u (by simpa using hv) (by simpa using hu)
  | .cell x t :: r, vs, hr => by
    simp only [resA] at hr
    split at hr
    · rename_i v vs' hv hvs
      injection hr with hr
      subst hr
      obtain ⟨us, h1, h2, h3⟩ := resA_ok h he r vs' hvs
      have hx := he.var x
      obtain ⟨y, hy, hyv⟩ := loadA_ok (P := P) h hx hv
      have hy' : (do loadVar t (← asAddr (a.tmps.getD x undef)) : Sem Value).run P w = .ok y w := by
        generalize a.tmps.getD x undef = u at hx hy
        have : (asAddr u).run P w = (Instr.sureAddr u).run P w ∨ ∃ hh, (Instr.sureAddr u).run P w = .halt hh w := by
          cases u with
          | pointer p => cases p with
            | none => exact .inr ⟨_, rfl⟩
            | some p => exact .inl rfl
          | _ => exact .inr ⟨_, rfl⟩
        rcases this with h' | ⟨hh, h'⟩
        · simp only [Sem.run_bind, h']
          simpa only [Instr.loadAt, Sem.run_bind] using hy
        · simp only [Instr.loadAt, Sem.run_bind, h', Result.andThen_halt] at hy
          cases hy
      refine ⟨y :: us, ?_, by simp [h2], fun j v u hv hu => ?_⟩
      · simp only [List.mapM_cons, Sem.run_bind, Sem.run_pure, Result.andThen_ok] at hy' ⊢
        simp only [hy', Result.andThen_ok, h1, Sem.run_pure]
      · cases j with
        | zero => simp at hv hu; subst hv; subst hu; exact hyv
        | succ j => exact h3 j v u (by simpa using hv) (by simpa using hu)
    · cases hr

theorem results_ok {K : Kw} {A : AState} {w : World} {n : Nat} {env : Env} {a : Act} (h : Sat K A w) (he : EnvR K n env a) {fn : Func} {vs : List AV} (hr : resA P A env fn.results.toList = some vs) :
    ∃ u, (results fn a.tmps).run P w = .ok u w ∧ K.V (packA vs) u := by
  obtain ⟨us, h1, h2, h3⟩ := resA_ok (P := P) h he _ _ hr
  refine ⟨if hs : us.length = 1 then us[0] else .tuple us.toArray, ?_, ?_⟩
  · have hm : (fn.results.mapM (fun | .tmp t => pure (a.tmps.getD t undef) | .cell x t => do loadVar t (← asAddr (a.tmps.getD x undef))) : Sem (Array Value)).run P w = .ok us.toArray w := by
      rw [Array.mapM_eq_mapM_toList, Sem.run_map]
      rw [h1]; rfl
    unfold results
    simp only [Sem.run_bind]
    have hm' : ∀ f : ResultVar → Sem Value, f = (fun | .tmp t => pure (a.tmps.getD t undef) | .cell x t => do loadVar t (← asAddr (a.tmps.getD x undef))) → (fn.results.mapM f).run P w = .ok us.toArray w := by rintro f rfl; exact hm
    rw [hm' _ (by funext r; cases r <;> rfl)]
    simp
  · split
    · rename_i hs
      obtain ⟨u, rfl⟩ := List.length_eq_one_iff.1 hs
      obtain ⟨v, rfl⟩ := List.length_eq_one_iff.1 (h2.symm.trans hs)
      exact h3 0 v u rfl rfl
    · rename_i hs
      have : packA vs = .tuple vs := by
        cases vs with
        | nil => rfl
        | cons v r => cases r with
          | nil => exact absurd h2 hs
          | cons _ _ => rfl
      rw [this]
      exact .tuple us h2 h3

/-- what stands at a function's end: nb boxes stay -/
def bodyQ (P : Program) (rs : List ResultVar) (nb : Nat) (R : ARes → AState → Prop) : AExit → Env → AState → Prop
  | .normal, env, A | .ret, env, A => env.ds = [] ∧ ∃ vs, resA P A env rs = some vs ∧ belowB nb (packA vs) = true ∧ R (.ret (packA vs)) { A with boxes := A.boxes.take nb }
  | .panic v, env, A => env.ds = [] ∧ belowB nb v = true ∧ R (.pan v) { A with boxes := A.boxes.take nb }
  | .exit _, _, _ => False

theorem prefix_take {l l' : List Nat} {n : Nat} (h : l <+: l') (hn : l.length ≤ n) : l <+: l'.take n := by
  obtain ⟨t, rfl⟩ := h
  exact ⟨t.take (n - l.length), by rw [List.take_append, List.take_of_length_le hn]⟩

theorem enter_env {K : Kw} {fn : Func} {args : List AV} {vals : Array Value} (hv : VArgs K args vals) (hn : args.length ≤ fn.ntmps) :
    EnvR K fn.ntmps ⟨envOf 0 args, []⟩ { tmps := vals ++ Array.replicate (fn.ntmps - vals.size) undef, defers := [] } := by
  refine ⟨by simp [hv.1]; omega, fun t => ?_, ⟨rfl, by simp⟩⟩
  simp only [Env.look, lookL_envOf, Nat.zero_le, if_true, Nat.sub_zero]
  by_cases ht : t < args.length
  · have hc := List.getElem?_eq_getElem ht
    rw [hc]
    simp only [Option.getD_some]
    have hlt : t < vals.size := by rw [hv.1]; exact ht
    have : (vals ++ Array.replicate (fn.ntmps - vals.size) undef).getD t undef = vals[t] := by
      simp [Array.getD_eq_getD_getElem?, Array.getElem?_append_left hlt, hlt]
    rw [this]
    exact hv.2 t _ _ hc (by simp [hlt])
  · rw [List.getElem?_eq_none (by omega)]
    exact .top _

theorem callsA_of {k : FuncId} {fn : Func} {c : Code} {n : Nat} {rs : List ResultVar} {args : List AV} {A : AState} {R : ARes → AState → Prop} (nb : Nat) (hf : P.funcs[k]? = some fn) (hb : fn.body = some c) (hn' : fn.ntmps = n) (hrs : fn.results.toList = rs) (hbody : hasBody P k = true)
    (hn : decide (args.length ≤ n) = true) (hnb : A.boxes.length ≤ nb) (h : AW P n c ⟨envOf 0 args, []⟩ A (bodyQ P rs nb R)) : CallsA P k args A R := by
  subst hn'; subst hrs
  replace hn := of_decide_eq_true hn
  refine .inl ⟨hbody, fun K w vals hs hv => calls_of_wp hf hb (Code.wp_mono (fun e a w' hq => ?_) (h K w _ hs (enter_env hv hn)))⟩
  have hιn : K.ι.length ≤ nb := by rw [hs.nbox]; exact hnb
  have key : ∀ (K' : Kw) (env : Env) (A' : AState), K.le K' → Sat K' A' w' → K.le { K' with ι := K'.ι.take nb } ∧ Sat { K' with ι := K'.ι.take nb } { A' with boxes := A'.boxes.take nb } w' :=
    fun K' env A' h1 h2 => ⟨⟨h1.ext, prefix_take h1.pre hιn, h1.base⟩, h2.drop nb⟩
  have fin : ∀ (K' : Kw) (env : Env) (A' : AState), K.le K' → Sat K' A' w' → EnvR K' fn.ntmps env a → (env.ds = [] ∧ ∃ vs, resA P A' env fn.results.toList = some vs ∧ belowB nb (packA vs) = true ∧ R (.ret (packA vs)) { A' with boxes := A'.boxes.take nb }) →
      a.defers = [] ∧ ∃ v, (results fn a.tmps).run P w' = .ok v w' ∧ postA K R (.returned v) w' := by
    rintro K' env A' h1 h2 h3 ⟨hds, vs, hvs, hbel, hR⟩
    refine ⟨List.eq_nil_of_length_eq_zero (by rw [h3.defs.1, hds]; rfl), ?_⟩
    obtain ⟨u, hu, hv⟩ := results_ok (P := P) h2 h3 hvs
    obtain ⟨k1, k2⟩ := key K' env A' h1 h2
    exact ⟨u, hu, _, _, _, k1, k2, Ab.V.take hv (below_of hbel), hR⟩
  cases e with
  | normal => obtain ⟨K', env, A', h1, h2, h3, h4⟩ := hq; exact fin K' env A' h1 h2 h3 h4
  | ret => obtain ⟨K', env, A', h1, h2, h3, h4⟩ := hq; exact fin K' env A' h1 h2 h3 h4
  | exit id => obtain ⟨K', env, A', h1, h2, h3, h4⟩ := hq; exact h4.elim
  | goto l => exact hq.elim
  | panic ch =>
    obtain ⟨K', env, A', v, u, h1, h2, h3, h4, rfl, hds, hbel, hR⟩ := hq
    obtain ⟨k1, k2⟩ := key K' env A' h1 h2
    exact ⟨List.eq_nil_of_length_eq_zero (by rw [h3.defs.1, hds]; rfl), _, _, _, u, k1, k2, Ab.V.take h4 (below_of hbel), rfl, hR⟩
  | outgrown => exact hq.elim

end
end Go.Ab
