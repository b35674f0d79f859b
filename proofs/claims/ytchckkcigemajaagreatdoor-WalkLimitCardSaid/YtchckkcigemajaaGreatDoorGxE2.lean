/- The run itself, and that it tells the truth. -/
import Derived.Test.YtchckkcigemajaaGreatDoorGxE1
namespace Go.Ab
set_option linter.unusedVariables false
set_option linter.unusedSimpArgs false

abbrev Obs := List (AV × AV)
def ObsOk (l : Obs) : Prop := ∀ p ∈ l, p.1 = p.2

theorem ObsOk.append {a b : Obs} : ObsOk (a ++ b) ↔ ObsOk a ∧ ObsOk b := by
  simp only [ObsOk, List.mem_append]
  exact ⟨fun h => ⟨fun p hp => h p (.inl hp), fun p hp => h p (.inr hp)⟩, fun h p hp => hp.elim (h.1 p) (h.2 p)⟩

abbrev Out := Option (AExit × Env × AState × Obs)
abbrev COut := Option (ARes × AState × Obs)
abbrev Caller := Nat → Nat → FuncId → List AV → AState → COut

def addObs (obs : Obs) (r : Out) : Out :=
  match obs with
  | [] => r
  | o :: os => match r with
    | some (e, env, A, o2) => some (e, env, A, o :: os ++ o2)
    | none => none

theorem addObs_some {obs : Obs} {r : Out} {e : AExit} {env : Env} {A : AState} {o : Obs} (h : addObs obs r = some (e, env, A, o)) : ∃ o2, r = some (e, env, A, o2) ∧ o = obs ++ o2 := by
  unfold addObs at h
  split at h
  · exact ⟨o, h, rfl⟩
  · split at h
    · simp only [Option.some.injEq, Prod.mk.injEq] at h
      obtain ⟨rfl, rfl, rfl, rfl⟩ := h
      exact ⟨_, rfl, rfl⟩
    · cases h

def hintOf : List (Nat × AV) → Option Tmp → Option AV
  | [], _ => none
  | (t, b) :: r, some d => if t = d then some b else hintOf r (some d)
  | _, none => none

/-- is an operation wanted? -/
def guardB (full : List Oper) (env : Env) (o : Oper) : Option Bool :=
  match o.guard with
  | none => some true
  | some (j, want) =>
    match (full[j]?).bind (·.dst) with
    | some d => match env.look d with
      | .val (.bool b) => some (b == want)
      | .val _ => some false
      | _ => none
    | none => none

theorem guardB_true {full : List Oper} {env : Env} {o : Oper} {yes no : Prop} (h : guardB full env o = some true) (hy : yes) : guardA full env o yes no := by
  unfold guardB at h
  unfold guardA
  split at h
  · rename_i hg; rw [hg]; exact hy
  · rename_i j want hg
    rw [hg]
    simp only
    split at h
    · rename_i d hd
      rw [hd]
      simp only
      split at h
      · rename_i b hb
        simp at h
        rw [hb]; simp only; rw [if_pos h]; exact hy
      · cases h
      · cases h
    · cases h
theorem guardB_false {full : List Oper} {env : Env} {o : Oper} {yes no : Prop} (h : guardB full env o = some false) (hn : no) : guardA full env o yes no := by
  unfold guardB at h
  unfold guardA
  split at h
  · cases h
  · rename_i j want hg
    rw [hg]
    simp only
    split at h
    · rename_i d hd
      rw [hd]
      simp only
      split at h
      · rename_i b hb
        simp at h
        rw [hb]; simp only; rw [if_neg h]; exact hn
      · rename_i v hnb hb
        rw [hb]
        split
        · rename_i b hq; injection hq with hq; subst hq; exact absurd rfl (hnb _)
        · exact hn
        · rename_i h1 h2; exact absurd rfl (h2 _)
      · cases h
    · cases h

/-- the value of an operation, or what is told of it -/
def told (hs : List (Nat × AV)) (d : Option Tmp) (v : AV) : AV × Obs :=
  match hs with
  | [] => (v, [])
  | h :: hs => match hintOf (h :: hs) d with
    | none => (v, [])
    | some b => (b, [(v, b)])

theorem told_ok {hs : List (Nat × AV)} {d : Option Tmp} {v : AV} (h : ObsOk (told hs d v).2) : (told hs d v).1 = v := by
  cases hs with
  | nil => rfl
  | cons x hs =>
    simp only [told] at h ⊢
    cases hb : hintOf (x :: hs) d with
    | none => rfl
    | some b =>
      rw [hb] at h
      exact (h (v, b) (by simp)).symm

def runOps (P : Program) (call : Caller) (ro rl : Nat) (hs : List (Nat × AV)) (n : Nat) (full : List Oper) : List Oper → Env → AState → Out
  | [], env, A => some (.normal, env, A, [])
  | o :: rest, env, A =>
    match guardB full env o with
    | none => none
    | some false => if dstOk n o.dst = true then runOps P call ro rl hs n full rest (env.put o.dst (.val undef)) A else none
    | some true =>
      if (dstOk n o.dst && roOk ro rl env o.op) = true then
        match aOp P env A o.op o.type with
        | .next v A' => addObs (told hs o.dst v).2 (runOps P call ro rl hs n full rest (env.put o.dst (told hs o.dst v).1) A')
        | .skip A' => runOps P call ro rl hs n full rest (env.put o.dst .top) A'
        | .pan v => some (.panic v, env, A, [])
        | .call k args => match call ro rl k args A with
          | some (.ret v, A', obs) => addObs obs (runOps P call ro rl hs n full rest (env.put o.dst v) A')
          | some (.pan v, A', obs) => some (.panic v, env, A', obs)
          | none => none
        | .defer f caps => runOps P call ro rl hs n full rest ({ env with ds := (f, caps) :: env.ds }.put o.dst .top) A
        | .bad => none
      else none

def fixTag (m : Nat) : Tag → Tag
  | .own g => if g < m then .own g else .any
  | t => t
/-- names a value rows below m alone? (looked at to a depth) -/
def okB (m : Nat) : Nat → AV → Bool
  | 0, _ => false
  | _ + 1, .val _ | _ + 1, .top | _ + 1, .ptr _ _ | _ + 1, .mslice _ _ _ _ => true
  | d + 1, .eptr cs => cs.all (okB m d)
  | d + 1, .slice es tag => (match tag with | .own g => decide (g < m) | _ => true) && es.all fun e => e.all (okB m d)
  | _ + 1, .row g _ _ | _ + 1, .rptr g _ _ | _ + 1, .mapr g => decide (g < m)
  | d + 1, .func _ cs => cs.all (okB m d)
  | d + 1, .iface _ a => okB m d a
  | d + 1, .agg cs => cs.all (okB m d)
  | d + 1, .tuple cs => cs.all (okB m d)

theorem okB_ok {m : Nat} : ∀ {d : Nat} {a : AV}, okB m d a = true → OwnB m a
  | 0, _, h => by simp [okB] at h
  | d + 1, a, h => by
    cases a with
    | val v => exact .val v
    | top => exact .top
    | ptr i o => exact .ptr i o
    | mslice a b c d => exact .mslice a b c d
    | eptr cs => simp only [okB] at h; exact .eptr fun c hc => okB_ok (List.all_eq_true.1 h c hc)
    | slice es tag =>
      simp only [okB, Bool.and_eq_true] at h
      refine .slice ?_ fun e he c hc => okB_ok (List.all_eq_true.1 (List.all_eq_true.1 h.2 e he) c hc)
      cases tag <;> first | trivial | (have := h.1; simp only [decide_eq_true_eq] at this; exact this)
    | row g o n => simp only [okB] at h; exact .row (of_decide_eq_true h)
    | rptr g o n => simp only [okB] at h; exact .rptr (of_decide_eq_true h)
    | mapr g => simp only [okB] at h; exact .mapr (of_decide_eq_true h)
    | func f cs => simp only [okB] at h; exact .func fun c hc => okB_ok (List.all_eq_true.1 h c hc)
    | iface t a => simp only [okB] at h; exact .iface (okB_ok h)
    | agg cs => simp only [okB] at h; exact .agg fun c hc => okB_ok (List.all_eq_true.1 h c hc)
    | tuple cs => simp only [okB] at h; exact .tuple fun c hc => okB_ok (List.all_eq_true.1 h c hc)

def fixL (m : Nat) : AV → AV
  | .slice es tag => .slice es (fixTag m tag)
  | a => a
def fixC (m : Nat) : AV → AV
  | .agg cs => .agg (cs.map (fixL m))
  | a => fixL m a
def fixA (m : Nat) : AV → AV
  | .tuple vs => .tuple (vs.map (fixC m))
  | a => fixC m a

theorem fixL_ok {m : Nat} {S : Snap} {Om : List OwnE} {ι : List Nat} {a : AV} {u : Value} (h : V S Om ι a u) : V S Om ι (fixL m a) u := by
  have hw := h.weakL
  cases a with
  | slice es tag =>
    simp only [fixL]
    cases tag with
    | own g =>
      simp only [fixTag]
      split
      · exact h
      · exact hw
    | _ => exact h
  | _ => exact h
theorem map_ok {f : AV → AV} {S : Snap} {Om : List OwnE} {ι : List Nat} (hf : ∀ {a u}, V S Om ι a u → V S Om ι (f a) u) {cs : List AV} {us : List Value} (hV : ∀ (j : Nat) (c : AV) (u : Value), cs[j]? = some c → us[j]? = some u → V S Om ι c u) :
    ∀ (j : Nat) (c : AV) (u : Value), (cs.map f)[j]? = some c → us[j]? = some u → V S Om ι c u := by
  intro j c u hc hu
  rw [List.getElem?_map] at hc
  cases hcj : cs[j]? with
  | none => simp [hcj] at hc
  | some c' => simp [hcj] at hc; subst hc; exact hf (hV j c' u hcj hu)
theorem fixC_ok {m : Nat} {S : Snap} {Om : List OwnE} {ι : List Nat} {a : AV} {u : Value} (h : V S Om ι a u) : V S Om ι (fixC m a) u := by
  cases a with
  | agg cs => cases h with | agg us hl hV => exact .agg us (by simp [hl]) (map_ok fixL_ok hV)
  | _ => exact fixL_ok (m := m) h
theorem fixA_ok {m : Nat} {S : Snap} {Om : List OwnE} {ι : List Nat} {a : AV} {u : Value} (h : V S Om ι a u) : V S Om ι (fixA m a) u := by
  cases a with
  | tuple cs => cases h with | tuple us hl hV => exact .tuple us (by simp [hl]) (map_ok fixC_ok hV)
  | _ => exact fixC_ok (m := m) h

/-- which boxes are put off: those that are not ordered with all -/
def floatIdx (full : List Oper) : List Nat :=
  let b := beforeL full
  (List.range full.length).filter fun i => match full[i]? with
    | some x => (match x.op with | .alloc _ | .box _ _ => true | _ => false) && x.guard.isNone && x.dst.isSome &&
        (List.range full.length).any fun j => !(j == i) && (if i < j then !(b.getD j 0).testBit i else !(b.getD i 0).testBit j)
    | none => false
def loudIdx2 (full : List Oper) (fl : List Nat) : List Nat := match fl with
  | [] => loudIdx 0 full
  | fl => (loudIdx 0 full).filter fun i => !fl.contains i

/-- which moves may come whenever they like: those that are not ordered with a loud one -/
def lagIdx (full : List Oper) (louds : List Nat) : List Nat :=
  match louds with
  | [] => []
  | louds =>
  let b := beforeL full
  (List.range full.length).filter fun i => match full[i]? with
    | some x => (match x.op with | .move _ => true | _ => false) && x.guard.isNone && x.dst.isSome &&
        louds.any fun j => if i < j then !(b.getD j 0).testBit i else !(b.getD i 0).testBit j
    | none => false

def runDraw (P : Program) (call : Caller) (ro rl : Nat) (hs : List (Nat × AV)) (n : Nat) (full : List Oper) (louds fl lags : List Nat) : Nat → Fls → List Oper → Env → AState → Out
  | _, fs, [], env, A => some (.normal, flushEnv fs A.boxes.length env, flushA fs A, [])
  | i, fs, o :: rest, env0, A0 =>
    if lags.contains i = true then runDraw P call ro rl hs n full louds fl lags (i + 1) fs rest env0 A0
    else if louds.contains i = true then
      match flushEnv fs A0.boxes.length env0, flushA fs A0 with
      | env, A =>
        match guardB full env o with
        | none => none
        | some false => if dstOk n o.dst = true then runDraw P call ro rl hs n full louds fl lags (i + 1) [] rest (env.put o.dst (.val undef)) A else none
        | some true =>
          if (dstOk n o.dst && roOk ro rl env o.op) = true then
            match aOp P env A o.op o.type with
            | .next v A' => addObs (told hs o.dst v).2 (runDraw P call ro rl hs n full louds fl lags (i + 1) [] rest (env.put o.dst (told hs o.dst v).1) A')
            | .skip A' => runDraw P call ro rl hs n full louds fl lags (i + 1) [] rest (env.put o.dst .top) A'
            | .pan v => some (.panic v, maskE (lags.map (dOf full)) env, A, [])
            | .call k args => match call ro rl k args A with
              | some (.ret v, A', obs) => addObs obs (runDraw P call ro rl hs n full louds fl lags (i + 1) [] rest (env.put o.dst v) A')
              | some (.pan v, A', obs) => some (.panic v, maskE (lags.map (dOf full)) env, A', obs)
              | none => none
            | .defer f caps => runDraw P call ro rl hs n full louds fl lags (i + 1) [] rest ({ env with ds := (f, caps) :: env.ds }.put o.dst .top) A
            | .bad => none
          else none
    else if fl.contains i = true then
      match o.dst, o.op with
      | some d, .alloc e => match (tyZero P e).bind fun z => cellsOf (ofVal z) with
        | some cs => if dstOk n (some d) = true then runDraw P call ro rl hs n full louds fl lags (i + 1) (fs ++ [(d, cs)]) rest (env0.put (some d) .top) A0 else none
        | none => none
      | some d, .box e x => match cellsOf (ev env0 x) with
        | some cs => if dstOk n (some d) = true then runDraw P call ro rl hs n full louds fl lags (i + 1) (fs ++ [(d, cs)]) rest (env0.put (some d) .top) A0 else none
        | none => none
      | _, _ => none
    else
      match guardB full env0 o with
      | none => none
      | some false => if dstOk n o.dst = true then runDraw P call ro rl hs n full louds fl lags (i + 1) fs rest (env0.put o.dst (.val undef)) A0 else none
      | some true =>
        if (dstOk n o.dst && roOk ro rl env0 o.op) = true then
          if isLoudOp o.op = true then none else
            match aOp P env0 A0 o.op o.type with
            | .next v _ => addObs (told hs o.dst v).2 (runDraw P call ro rl hs n full louds fl lags (i + 1) fs rest (env0.put o.dst (told hs o.dst v).1) A0)
            | .call k args => match call A0.boxes.length A0.lens.length k args A0 with
              | some (.ret v, A', obs) =>
                if (okB A0.lens.length 8 (fixA A0.lens.length v) && belowB A0.boxes.length (fixA A0.lens.length v)) = true then addObs obs (runDraw P call ro rl hs n full louds fl lags (i + 1) fs rest (env0.put o.dst (fixA A0.lens.length v)) A0)
                else match fixA A0.lens.length (fixR A' A0.lens.length 8 v) with
                  | v2 => if (okB A0.lens.length 8 v2 && belowB A0.boxes.length v2) = true then addObs obs (runDraw P call ro rl hs n full louds fl lags (i + 1) fs rest (env0.put o.dst v2) A0) else none
              | _ => none
            | _ => none
        else none

section
variable {P : Program}

/-- a caller that tells the truth -/
def CallOk (P : Program) (call : Caller) : Prop :=
  ∀ (ro rl : Nat) (k : FuncId) (args : List AV) (A : AState) (r : ARes) (A' : AState) (obs : Obs), call ro rl k args A = some (r, A', obs) → ro ≤ A.boxes.length → rl ≤ A.lens.length → ObsOk obs →
    CallsA P k args A (fun r0 A0 => r0 = r ∧ A0 = A') ∧ Keep ro rl A A'

def is (e : AExit) (env : Env) (A : AState) : AExit → Env → AState → Prop := fun e0 env0 A0 => e0 = e ∧ env0 = env ∧ A0 = A

theorem runOps_ok {call : Caller} (hc : CallOk P call) {ro rl : Nat} {hs : List (Nat × AV)} {n : Nat} {full : List Oper} : ∀ (l : List Oper) (env : Env) (A : AState) (e : AExit) (env' : Env) (A' : AState) (obs : Obs),
    runOps P call ro rl hs n full l env A = some (e, env', A', obs) → ro ≤ A.boxes.length → rl ≤ A.lens.length → ObsOk obs → aOps P n full (is e env' A') l env A ∧ Keep ro rl A A'
  | [], env, A, e, env', A', obs, h, h1, h2, ho => by
    simp only [runOps, Option.some.injEq, Prod.mk.injEq] at h
    obtain ⟨rfl, rfl, rfl, rfl⟩ := h
    exact ⟨⟨rfl, rfl, rfl⟩, .refl h1 h2⟩
  | o :: rest, env, A, e, env', A', obs, h, h1, h2, ho => by
    unfold runOps at h
    split at h
    · cases h
    · rename_i hg
      split at h
      · rename_i hd
        obtain ⟨g1, g2⟩ := runOps_ok hc rest _ A e env' A' obs h h1 h2 ho
        exact ⟨guardB_false hg ⟨hd, g1⟩, g2⟩
      · cases h
    · rename_i hg
      split at h
      · rename_i hdr
        simp only [Bool.and_eq_true] at hdr
        obtain ⟨hd, hro⟩ := hdr
        suffices hstep : aStep P n o env A (aOps P n full (is e env' A') rest) (is e env' A') ∧ Keep ro rl A A' from ⟨guardB_true hg hstep.1, hstep.2⟩
        unfold aStep
        have hk := fun A2 hst => aOp_keep (P := P) (env := env) (A := A) (A' := A2) (op := o.op) (ty := o.type) h1 h2 hro hst
        generalize aOp P env A o.op o.type = r at h hk
        cases r with
        | next v A2 =>
          simp only at h ⊢
          obtain ⟨o2, h3, rfl⟩ := addObs_some h
          obtain ⟨ho1, ho2⟩ := ObsOk.append.1 ho
          have k1 := (hk A2 rfl).1
          obtain ⟨g1, g2⟩ := runOps_ok hc rest _ A2 e env' A' o2 h3 k1.nb k1.nl ho2
          rw [told_ok ho1] at g1
          exact ⟨⟨hd, g1⟩, k1.trans g2⟩
        | skip A2 =>
          simp only at h ⊢
          have k1 := (hk A2 rfl).1
          obtain ⟨g1, g2⟩ := runOps_ok hc rest _ A2 e env' A' obs h k1.nb k1.nl ho
          exact ⟨⟨hd, g1⟩, k1.trans g2⟩
        | pan v =>
          simp only [Option.some.injEq, Prod.mk.injEq] at h
          obtain ⟨rfl, rfl, rfl, rfl⟩ := h
          exact ⟨⟨hd, rfl, rfl, rfl⟩, .refl h1 h2⟩
        | call k args =>
          simp only at h ⊢
          split at h
          · rename_i v A2 ob hcall
            obtain ⟨o2, h3, rfl⟩ := addObs_some h
            obtain ⟨ho1, ho2⟩ := ObsOk.append.1 ho
            obtain ⟨c1, k1⟩ := hc _ _ _ _ _ _ _ _ hcall h1 h2 ho1
            obtain ⟨g1, g2⟩ := runOps_ok hc rest _ A2 e env' A' o2 h3 k1.nb k1.nl ho2
            refine ⟨⟨hd, c1.mono ?_⟩, k1.trans g2⟩
            rintro r0 A0 ⟨rfl, rfl⟩
            exact g1
          · rename_i v A2 ob hcall
            simp only [Option.some.injEq, Prod.mk.injEq] at h
            obtain ⟨rfl, rfl, rfl, rfl⟩ := h
            obtain ⟨c1, k1⟩ := hc _ _ _ _ _ _ _ _ hcall h1 h2 ho
            refine ⟨⟨hd, c1.mono ?_⟩, k1⟩
            rintro r0 A0 ⟨rfl, rfl⟩
            exact ⟨rfl, rfl, rfl⟩
          · cases h
        | defer f caps =>
          simp only at h ⊢
          obtain ⟨g1, g2⟩ := runOps_ok hc rest _ A e env' A' obs h h1 h2 ho
          exact ⟨⟨hd, g1⟩, g2⟩
        | bad => cases h
      · cases h

theorem keep_flush {ro rl : Nat} {A : AState} {fs : Fls} (h1 : ro ≤ A.boxes.length) (h2 : rl ≤ A.lens.length) : Keep ro rl A (flushA fs A) :=
  ⟨take_append_keep h1, rfl, fun _ _ => rfl, by simp [flushA]; omega, h2⟩

theorem runDraw_ok {call : Caller} (hc : CallOk P call) {ro rl : Nat} {hs : List (Nat × AV)} {n : Nat} {full : List Oper} {louds fl lags : List Nat} : ∀ (l : List Oper) (i : Nat) (fs : Fls) (env : Env) (A : AState) (e : AExit) (env' : Env) (A' : AState) (obs : Obs),
    runDraw P call ro rl hs n full louds fl lags i fs l env A = some (e, env', A', obs) → ro ≤ A.boxes.length → rl ≤ A.lens.length → ObsOk obs → aDraw P n full louds fl lags (is e env' A') i fs l env A ∧ Keep ro rl A A'
  | [], i, fs, env, A, e, env', A', obs, h, h1, h2, ho => by
    simp only [runDraw, Option.some.injEq, Prod.mk.injEq] at h
    obtain ⟨rfl, rfl, rfl, rfl⟩ := h
    exact ⟨⟨rfl, rfl, rfl⟩, keep_flush h1 h2⟩
  | o :: rest, i, fs, env0, A0, e, env', A', obs, h, h01, h02, ho => by
    unfold runDraw at h
    unfold aDraw
    split at h
    · rename_i hlag
      rw [if_pos hlag]
      exact runDraw_ok hc rest _ _ _ A0 e env' A' obs h h01 h02 ho
    rename_i hlag
    rw [if_neg hlag]
    split at h
    · rename_i hl
      rw [if_pos hl]
      have k0 := keep_flush (fs := fs) h01 h02
      have h1 := k0.nb
      have h2 := k0.nl
      suffices hh : guardA full (flushEnv fs A0.boxes.length env0) o (aStep P n o (flushEnv fs A0.boxes.length env0) (flushA fs A0) (aDraw P n full louds fl lags (is e env' A') (i + 1) [] rest) (fun e0 env A => is e env' A' e0 (maskE (lags.map (dOf full)) env) A)) (dstOk n o.dst = true ∧ aDraw P n full louds fl lags (is e env' A') (i + 1) [] rest ((flushEnv fs A0.boxes.length env0).put o.dst (.val undef)) (flushA fs A0)) ∧ Keep ro rl (flushA fs A0) A' from ⟨hh.1, k0.trans hh.2⟩
      simp only at h
      generalize flushEnv fs A0.boxes.length env0 = env at h
      generalize flushA fs A0 = A at h h1 h2
      split at h
      · cases h
      · rename_i hg
        split at h
        · rename_i hd
          obtain ⟨g1, g2⟩ := runDraw_ok hc rest _ _ _ A e env' A' obs h h1 h2 ho
          exact ⟨guardB_false hg ⟨hd, g1⟩, g2⟩
        · cases h
      · rename_i hg
        split at h
        · rename_i hdr
          simp only [Bool.and_eq_true] at hdr
          obtain ⟨hd, hro⟩ := hdr
          have hk := fun A2 hst => aOp_keep (P := P) (env := env) (A := A) (A' := A2) (op := o.op) (ty := o.type) h1 h2 hro hst
          suffices hstep : aStep P n o env A (aDraw P n full louds fl lags (is e env' A') (i + 1) [] rest) (fun e0 env A => is e env' A' e0 (maskE (lags.map (dOf full)) env) A) ∧ Keep ro rl A A' from ⟨guardB_true hg hstep.1, hstep.2⟩
          unfold aStep
          generalize aOp P env A o.op o.type = r at h hk
          cases r with
          | next v A2 =>
            simp only at h ⊢
            obtain ⟨o2, h3, rfl⟩ := addObs_some h
            obtain ⟨ho1, ho2⟩ := ObsOk.append.1 ho
            have k1 := (hk A2 rfl).1
            obtain ⟨g1, g2⟩ := runDraw_ok hc rest _ _ _ A2 e env' A' o2 h3 k1.nb k1.nl ho2
            rw [told_ok ho1] at g1
            exact ⟨⟨hd, g1⟩, k1.trans g2⟩
          | skip A2 =>
            simp only at h ⊢
            have k1 := (hk A2 rfl).1
            obtain ⟨g1, g2⟩ := runDraw_ok hc rest _ _ _ A2 e env' A' obs h k1.nb k1.nl ho
            exact ⟨⟨hd, g1⟩, k1.trans g2⟩
          | pan v =>
            simp only [Option.some.injEq, Prod.mk.injEq] at h
            obtain ⟨rfl, rfl, rfl, rfl⟩ := h
            exact ⟨⟨hd, rfl, rfl, rfl⟩, .refl h1 h2⟩
          | call k args =>
            simp only at h ⊢
            split at h
            · rename_i v A2 ob hcall
              obtain ⟨o2, h3, rfl⟩ := addObs_some h
              obtain ⟨ho1, ho2⟩ := ObsOk.append.1 ho
              obtain ⟨c1, k1⟩ := hc _ _ _ _ _ _ _ _ hcall h1 h2 ho1
              obtain ⟨g1, g2⟩ := runDraw_ok hc rest _ _ _ A2 e env' A' o2 h3 k1.nb k1.nl ho2
              refine ⟨⟨hd, c1.mono ?_⟩, k1.trans g2⟩
              rintro r0 A3 ⟨rfl, rfl⟩
              exact g1
            · rename_i v A2 ob hcall
              simp only [Option.some.injEq, Prod.mk.injEq] at h
              obtain ⟨rfl, rfl, rfl, rfl⟩ := h
              obtain ⟨c1, k1⟩ := hc _ _ _ _ _ _ _ _ hcall h1 h2 ho
              refine ⟨⟨hd, c1.mono ?_⟩, k1⟩
              rintro r0 A3 ⟨rfl, rfl⟩
              exact ⟨rfl, rfl, rfl⟩
            · cases h
          | defer f caps =>
            simp only at h ⊢
            obtain ⟨g1, g2⟩ := runDraw_ok hc rest _ _ _ A e env' A' obs h h1 h2 ho
            exact ⟨⟨hd, g1⟩, g2⟩
          | bad => cases h
        · cases h
    · rename_i hl
      rw [if_neg hl]
      split at h
      · rename_i hfl
        rw [if_pos hfl]
        split at h
        · rename_i d e0 hdst hop
          split at h
          · rename_i cs hcs
            split at h
            · rename_i hd
              obtain ⟨g1, g2⟩ := runDraw_ok hc rest _ _ _ A0 e env' A' obs h h01 h02 ho
              exact ⟨⟨cs, d, hdst, ⟨by rw [hdst]; exact hd, by rw [hop]; simp only [aOp, hcs]⟩, by rw [hdst]; exact g1⟩, g2⟩
            · cases h
          · cases h
        · rename_i d e0 x hdst hop
          split at h
          · rename_i cs hcs
            split at h
            · rename_i hd
              obtain ⟨g1, g2⟩ := runDraw_ok hc rest _ _ _ A0 e env' A' obs h h01 h02 ho
              exact ⟨⟨cs, d, hdst, ⟨by rw [hdst]; exact hd, by rw [hop]; simp only [aOp, hcs]⟩, by rw [hdst]; exact g1⟩, g2⟩
            · cases h
          · cases h
        · cases h
      · rename_i hfl
        rw [if_neg hfl]
        split at h
        · cases h
        · rename_i hg
          split at h
          · rename_i hd
            obtain ⟨g1, g2⟩ := runDraw_ok hc rest _ _ _ A0 e env' A' obs h h01 h02 ho
            exact ⟨guardB_false hg ⟨hd, g1⟩, g2⟩
          · cases h
        · rename_i hg
          split at h
          · rename_i hdr
            simp only [Bool.and_eq_true] at hdr
            obtain ⟨hd, hro⟩ := hdr
            have hk := fun A2 hst => aOp_keep (P := P) (env := env0) (A := A0) (A' := A2) (op := o.op) (ty := o.type) h01 h02 hro hst
            split at h
            · cases h
            · rename_i hlo
              have hlo' : isLoudOp o.op = false := by simpa using hlo
              suffices hstep : (∃ v, opRes P n o env0 A0 v ∧ aDraw P n full louds fl lags (is e env' A') (i + 1) fs rest (env0.put o.dst v) A0) ∧ Keep ro rl A0 A' from ⟨guardB_true hg hstep.1, hstep.2⟩
              unfold opRes
              generalize aOp P env0 A0 o.op o.type = r at h hk
              cases r with
              | next v A2 =>
                simp only at h ⊢
                obtain ⟨o2, h3, rfl⟩ := addObs_some h
                obtain ⟨ho1, ho2⟩ := ObsOk.append.1 ho
                have hq := (hk A2 rfl).2 hlo'
                obtain ⟨g1, g2⟩ := runDraw_ok hc rest _ _ _ A0 e env' A' o2 h3 h01 h02 ho2
                rw [told_ok ho1] at g1
                exact ⟨⟨v, ⟨hd, rfl, hq⟩, g1⟩, g2⟩
              | call k args =>
                simp only at h ⊢
                split at h
                · rename_i v A2 ob hcall
                  split at h
                  · rename_i hb
                    simp only [Bool.and_eq_true] at hb
                    obtain ⟨o2, h3, rfl⟩ := addObs_some h
                    obtain ⟨ho1, ho2⟩ := ObsOk.append.1 ho
                    obtain ⟨c1, k1⟩ := hc _ _ _ _ _ _ _ _ hcall (Nat.le_refl _) (Nat.le_refl _) ho1
                    obtain ⟨g1, g2⟩ := runDraw_ok hc rest _ _ _ A0 e env' A' o2 h3 h01 h02 ho2
                    refine ⟨⟨_, ⟨hd, c1.restore ?_⟩, g1⟩, g2⟩
                    rintro r0 A3 ⟨rfl, rfl⟩
                    exact ⟨v, fixA A0.lens.length v, rfl, k1, fun S Om ι u hv => fixA_ok hv, okB_ok hb.1, below_of hb.2, rfl, rfl⟩
                  · split at h
                    · rename_i hb
                      simp only [Bool.and_eq_true] at hb
                      obtain ⟨o2, h3, rfl⟩ := addObs_some h
                      obtain ⟨ho1, ho2⟩ := ObsOk.append.1 ho
                      obtain ⟨c1, k1⟩ := hc _ _ _ _ _ _ _ _ hcall (Nat.le_refl _) (Nat.le_refl _) ho1
                      obtain ⟨g1, g2⟩ := runDraw_ok hc rest _ _ _ A0 e env' A' o2 h3 h01 h02 ho2
                      refine ⟨⟨_, ⟨hd, c1.restoreR 8 ?_⟩, g1⟩, g2⟩
                      rintro r0 A3 ⟨rfl, rfl⟩
                      exact ⟨v, fixA A0.lens.length (fixR A3 A0.lens.length 8 v), rfl, k1, fun S Om ι u hv => fixA_ok hv, okB_ok hb.1, below_of hb.2, rfl, rfl⟩
                    · cases h
                · cases h
              | _ => cases h
          · cases h

end
end Go.Ab
