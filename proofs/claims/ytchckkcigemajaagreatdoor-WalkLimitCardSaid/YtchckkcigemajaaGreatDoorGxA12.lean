/- Regions whose order is open: whatever order is drawn, all comes to what the text's order gives. -/
import Derived.Test.YtchckkcigemajaaGreatDoorGxB3
import Derived.Orders
namespace Go.Ab
set_option linter.unusedVariables false
set_option linter.unusedSimpArgs false

/-- the bits of an operation's own edges -/
def foldEdges (acc : Array Nat) (l : List Edge) (s : Nat) : Nat :=
  l.foldl (fun s e => if Region.binds .any e then s ||| 2 ^ e.on ||| acc.getD e.on 0 else s) s

theorem foldEdges_bit (acc : Array Nat) : ∀ (l : List Edge) (s j : Nat), (foldEdges acc l s).testBit j = true → s.testBit j = true ∨ ∃ e ∈ l, Region.binds .any e = true ∧ (e.on = j ∨ (acc.getD e.on 0).testBit j = true)
  | [], s, j, h => .inl h
  | e :: l, s, j, h => by
    simp only [foldEdges, List.foldl_cons] at h
    rcases foldEdges_bit acc l _ j h with h' | ⟨e', he', hb⟩
    · split at h'
      · rename_i hb
        simp only [Nat.testBit_or, Bool.or_eq_true] at h'
        rcases h' with (h' | h') | h'
        · exact .inl h'
        · rw [Nat.testBit_two_pow] at h'
          exact .inr ⟨e, by simp, hb, .inl (by simpa using h')⟩
        · exact .inr ⟨e, by simp, hb, .inr h'⟩
      · exact .inl h'
    · exact .inr ⟨e', by simp [he'], hb⟩

def beforeL (l : List Oper) : Array Nat := l.foldl (fun acc o => acc.push (foldEdges acc o.after.toList 0)) #[]

theorem beforeL_snoc (l : List Oper) (o : Oper) : beforeL (l ++ [o]) = (beforeL l).push (foldEdges (beforeL l) o.after.toList 0) := by simp [beforeL, List.foldl_append]

theorem beforeL_size : ∀ (l : List Oper), (beforeL l).size = l.length := by
  intro l
  have : ∀ (l : List Oper) (acc : Array Nat), (l.foldl (fun acc o => acc.push (foldEdges acc o.after.toList 0)) acc).size = acc.size + l.length := by
    intro l
    induction l with
    | nil => simp
    | cons o l ih => intro acc; rw [List.foldl_cons, ih]; simp; omega
  simpa [beforeL] using this l #[]

/-- what is listed with an operation is all that stands ahead of it -/
theorem before_listed (l : List Oper) (S : Nat → Bool) (hS : ∀ (i : Nat) (o : Oper), l[i]? = some o → S i = true → ∀ e ∈ o.after.toList, Region.binds .any e = true → S e.on = true) :
    ∀ (i j : Nat), S i = true → ((beforeL l).getD i 0).testBit j = true → S j = true := by
  have key : ∀ (m : Nat), m ≤ l.length → ∀ i, i < m → ∀ j, S i = true → ((beforeL (l.take m)).getD i 0).testBit j = true → S j = true := by
    intro m
    induction m with
    | zero => intro _ i hi; omega
    | succ m ih =>
      intro hm i hi j hSi hb
      have hlt : m < l.length := by omega
      have htake : l.take (m + 1) = l.take m ++ [l[m]] := by rw [List.take_succ_eq_append_getElem hlt]
      rw [htake, beforeL_snoc] at hb
      have hsz : (beforeL (l.take m)).size = m := by rw [beforeL_size]; simp; omega
      by_cases him : i < m
      · have : ((beforeL (l.take m)).push (foldEdges (beforeL (l.take m)) (l[m]).after.toList 0)).getD i 0 = (beforeL (l.take m)).getD i 0 := by
          simp only [Array.getD_eq_getD_getElem?, Array.getElem?_push]
          rw [if_neg (by omega)]
        rw [this] at hb
        exact ih (by omega) i him j hSi hb
      · have hie : i = m := by omega
        subst hie
        have : ((beforeL (l.take i)).push (foldEdges (beforeL (l.take i)) (l[i]).after.toList 0)).getD i 0 = foldEdges (beforeL (l.take i)) (l[i]).after.toList 0 := by
          simp only [Array.getD_eq_getD_getElem?, Array.getElem?_push]
          rw [if_pos hsz.symm]; rfl
        rw [this] at hb
        rcases foldEdges_bit _ _ _ _ hb with h0 | ⟨e, he, hbind, h1⟩
        · simp at h0
        · have hSe := hS i _ (List.getElem?_eq_getElem hlt) hSi e he hbind
          rcases h1 with rfl | h1
          · exact hSe
          · have hel : e.on < i := by
              rcases Nat.lt_or_ge e.on i with h | h
              · exact h
              · have : (beforeL (l.take i)).getD e.on 0 = 0 := by
                  simp only [Array.getD_eq_getD_getElem?]
                  rw [Array.getElem?_eq_none (by omega)]; rfl
                rw [this] at h1
                simp at h1
            exact ih (by omega) e.on hel j hSe h1
  intro i j hSi hb
  have hi : i < l.length := by
    rcases Nat.lt_or_ge i l.length with h | h
    · exact h
    · have : (beforeL l).getD i 0 = 0 := by
        simp only [Array.getD_eq_getD_getElem?]
        rw [Array.getElem?_eq_none (by rw [beforeL_size]; exact h)]; rfl
      rw [this] at hb
      simp at hb
  have := key l.length (Nat.le_refl _) i hi j hSi
  rw [List.take_length] at this
  exact this hb

def looksAt (full : List Oper) (o : Oper) : List Tmp :=
  (o.op.operands.toList.filterMap fun | .tmp t => some t | _ => none) ++
  (match o.guard with
   | some (g, _) => ((full[g]?).bind (·.dst)).toList
   | none => [])

def touches (full : List Oper) (x y : Oper) : Bool :=
  match x.dst with
  | some d => (looksAt full y).contains d || y.dst == some d
  | none => false

/-- may a region's operations come in any order that its edges allow? (louds: those that all others are ordered with) -/
def drawOk (full : List Oper) (louds lags : List Nat) : Bool :=
  let b := beforeL full
  (List.range full.length).all fun j =>
    match full[j]? with
    | none => true
    | some y => (List.range j).all fun i =>
      match full[i]? with
      | none => true
      | some x => ((b.getD j 0).testBit i) || lags.contains i || lags.contains j || (!touches full x y && !touches full y x && !louds.contains i && !louds.contains j)

def edgesBack (full : List Oper) : Bool :=
  (List.range full.length).all fun j => match full[j]? with | none => true | some y => y.after.toList.all fun e => !Region.binds .any e || e.on < j

def opRes (P : Program) (n : Nat) (o : Oper) (env : Env) (A : AState) (v : AV) : Prop :=
  dstOk n o.dst = true ∧
  match aOp P env A o.op o.type with
  | .next v' A' => v' = v ∧ A' = A
  | .call k args => CallsA P k args A fun r A' => r = .ret v ∧ A' = A
  | _ => False

/-- .. and those that are put off to the end of their stretch: nobody but the loud looks at what they make -/
def floatsOk (full : List Oper) (louds fl : List Nat) : Bool :=
  fl.all fun i => match full[i]? with
    | none => false
    | some x => x.guard.isNone && x.dst.isSome && !louds.contains i && (List.range full.length).all fun j => j == i || louds.contains j || (match full[j]? with | none => true | some y => !touches full x y)

theorem floatsOk_spec {full : List Oper} {louds fl : List Nat} (h : floatsOk full louds fl = true) {i : Nat} (hi : fl.contains i = true) {x : Oper} (hx : full[i]? = some x) :
    x.guard = none ∧ (∃ d, x.dst = some d) ∧ louds.contains i = false ∧ ∀ (j : Nat) (y : Oper), full[j]? = some y → j ≠ i → louds.contains j = false → touches full x y = false := by
  have h1 := List.all_eq_true.1 h i (by simpa using hi)
  rw [hx] at h1
  simp only [Bool.and_eq_true, Bool.not_eq_true'] at h1
  obtain ⟨⟨⟨h2, h3⟩, h4⟩, h5⟩ := h1
  refine ⟨by simpa using h2, Option.isSome_iff_exists.1 h3, h4, fun j y hy hne hl => ?_⟩
  have h6 := List.all_eq_true.1 h5 j (List.mem_range.2 (List.getElem?_eq_some_iff.1 hy).1)
  rw [hy] at h6
  simp only [Bool.or_eq_true, beq_iff_eq, Bool.not_eq_true'] at h6
  rcases h6 with (h6 | h6) | h6
  · exact absurd h6 hne
  · rw [hl] at h6; cases h6
  · exact h6

/-- .. and moves of what nobody in the region writes: they may come whenever they like -/
def lagsOk (n : Nat) (full : List Oper) (louds fl lags : List Nat) : Bool :=
  let b := beforeL full
  lags.all fun i => match full[i]? with
    | none => false
    | some x => x.guard.isNone && !louds.contains i && !fl.contains i && (match x.dst, x.op with
      | some d, .move z => Nat.blt d n && (match z with | .tmp t => t != d | _ => true) && (List.range full.length).all fun j => j == i || (match full[j]? with
        | none => true
        | some y => y.dst != some d && (match z with | .tmp t => y.dst != some t | _ => true) && (!(looksAt full y).contains d || (b.getD j 0).testBit i))
      | _, _ => false)

structure LagIs (n : Nat) (full : List Oper) (louds fl : List Nat) (i : Nat) (x : Oper) (d : Tmp) (z : Operand) : Prop where
  at_ : full[i]? = some x
  dn : d < n
  dst : x.dst = some d
  op : x.op = .move z
  guard : x.guard = none
  loud : louds.contains i = false
  float : fl.contains i = false
  self : ∀ t, z = .tmp t → t ≠ d
  other : ∀ (j : Nat) (y : Oper), full[j]? = some y → j ≠ i → y.dst ≠ some d ∧ (∀ t, z = .tmp t → y.dst ≠ some t) ∧ (d ∈ looksAt full y → ((beforeL full).getD j 0).testBit i = true)

theorem lagsOk_spec {n : Nat} {full : List Oper} {louds fl lags : List Nat} (h : lagsOk n full louds fl lags = true) {i : Nat} (hi : i ∈ lags) : ∃ x d z, LagIs n full louds fl i x d z := by
  have h1 := List.all_eq_true.1 h i hi
  split at h1
  · cases h1
  rename_i x hx
  simp only [Bool.and_eq_true, Bool.not_eq_true'] at h1
  obtain ⟨⟨⟨h2, h3⟩, h4⟩, h5⟩ := h1
  split at h5
  · rename_i d z hd hz
    simp only [Bool.and_eq_true] at h5
    obtain ⟨⟨h60, h6⟩, h7⟩ := h5
    refine ⟨x, d, z, hx, by simpa [Nat.blt_eq] using h60, hd, hz, by simpa using h2, h3, h4, ?_, fun j y hy hne => ?_⟩
    · rintro t rfl
      simpa using h6
    · have h8 := List.all_eq_true.1 h7 j (List.mem_range.2 (List.getElem?_eq_some_iff.1 hy).1)
      rw [hy] at h8
      simp only [Bool.or_eq_true, beq_iff_eq, Bool.and_eq_true, bne_iff_ne, ne_eq, Bool.not_eq_true'] at h8
      rcases h8 with h8 | ⟨⟨h8, h9⟩, h10⟩
      · exact absurd h8 hne
      · refine ⟨h8, ?_, fun hm => ?_⟩
        · rintro t rfl
          simpa using h9
        · rcases h10 with h10 | h10
          · have : (looksAt full y).contains d = true := by simpa using hm
            rw [this] at h10; cases h10
          · exact h10
  · cases h5

def lagEnv (full : List Oper) : List Nat → Env → Env
  | [], env => env
  | i :: r, env => lagEnv full r (match full[i]? with
    | some x => match x.dst, x.op with
      | some d, .move z => env.put (some d) (ev env z)
      | _, _ => env
    | none => env)

def dOf (full : List Oper) (i : Nat) : Tmp := ((full[i]?).bind (·.dst)).getD 0
/-- temporaries of which nothing is said -/
def maskE (U : List Tmp) (env : Env) : Env := ⟨U.map (fun t => (t, AV.top)) ++ env.vars, env.ds⟩
abbrev Fls := List (Tmp × List AV)
def flushEnv : Fls → Nat → Env → Env
  | [], _, env => env
  | (d, _) :: r, m, env => flushEnv r (m + 1) (env.put (some d) (.ptr m 0))
def flushA (fs : Fls) (A : AState) : AState := { A with boxes := A.boxes ++ fs.map (·.2) }

def floatRes (P : Program) (n : Nat) (o : Oper) (env : Env) (A : AState) (cs : List AV) : Prop :=
  dstOk n o.dst = true ∧ aOp P env A o.op o.type = .next (.ptr A.boxes.length 0) { A with boxes := A.boxes ++ [cs] }

/-- the operations in the text's order: quiet ones, and loud ones -/
def aDraw (P : Program) (n : Nat) (full : List Oper) (louds fl lags : List Nat) (Q : AExit → Env → AState → Prop) : Nat → Fls → List Oper → Env → AState → Prop
  | _, fs, [], env, A => Q .normal (flushEnv fs A.boxes.length env) (flushA fs A)
  | i, fs, o :: rest, env, A =>
    if lags.contains i then aDraw P n full louds fl lags Q (i + 1) fs rest env A
    else if louds.contains i then guardA full (flushEnv fs A.boxes.length env) o (aStep P n o (flushEnv fs A.boxes.length env) (flushA fs A) (aDraw P n full louds fl lags Q (i + 1) [] rest) (fun e env A => Q e (maskE (lags.map (dOf full)) env) A)) (dstOk n o.dst = true ∧ aDraw P n full louds fl lags Q (i + 1) [] rest ((flushEnv fs A.boxes.length env).put o.dst (.val undef)) (flushA fs A))
    else if fl.contains i then ∃ cs d, o.dst = some d ∧ floatRes P n o env A cs ∧ aDraw P n full louds fl lags Q (i + 1) (fs ++ [(d, cs)]) rest (env.put o.dst .top) A
    else guardA full env o (∃ v, opRes P n o env A v ∧ aDraw P n full louds fl lags Q (i + 1) fs rest (env.put o.dst v) A) (dstOk n o.dst = true ∧ aDraw P n full louds fl lags Q (i + 1) fs rest (env.put o.dst (.val undef)) A)

section
variable {P : Program}

theorem ev_congr {e1 e2 : Env} {x : Operand} (h : ∀ t, x = .tmp t → e1.look t = e2.look t) : ev e1 x = ev e2 x := by
  cases x with
  | tmp t => exact h t rfl
  | _ => rfl

theorem aOp_congr {e1 e2 : Env} {A : AState} {op : Op} {ty : TypeId} (h : ∀ x ∈ op.operands.toList, ev e1 x = ev e2 x) : aOp P e1 A op ty = aOp P e2 A op ty := by
  cases op with
  | move x => simp only [aOp]; rw [h x (by simp [Op.operands])]
  | assign x => simp only [aOp]; rw [h x (by simp [Op.operands])]
  | pick c a b => simp only [aOp]; rw [h c (by simp [Op.operands]), h a (by simp [Op.operands]), h b (by simp [Op.operands])]
  | box e x => simp only [aOp]; rw [h x (by simp [Op.operands])]
  | build t parts =>
    have : (parts.toList.map fun p => (p.1, ev e1 p.2)) = (parts.toList.map fun p => (p.1, ev e2 p.2)) := by
      apply List.map_congr_left
      intro p hp
      rw [h p.2 (by simp only [Op.operands]; simp; exact ⟨p.1, by simpa using hp⟩)]
    simp only [aOp, this]
  | buildSlice t l parts =>
    have : (parts.toList.map fun p => (p.1, ev e1 p.2)) = (parts.toList.map fun p => (p.1, ev e2 p.2)) := by
      apply List.map_congr_left
      intro p hp
      rw [h p.2 (by simp only [Op.operands]; simp; exact ⟨p.1, by simpa using hp⟩)]
    simp only [aOp, this]
  | load t x => simp only [aOp]; rw [h x (by simp [Op.operands])]
  | store t x y => simp only [aOp]; rw [h x (by simp [Op.operands]), h y (by simp [Op.operands])]
  | nilCheck x => simp only [aOp]; rw [h x (by simp [Op.operands])]
  | binOp op t x y yt => simp only [aOp]; rw [h x (by simp [Op.operands]), h y (by simp [Op.operands])]
  | unOp op t x => simp only [aOp]; rw [h x (by simp [Op.operands])]
  | convert s d x => simp only [aOp]; rw [h x (by simp [Op.operands])]
  | makeInterface t x => simp only [aOp]; rw [h x (by simp [Op.operands])]
  | makeFunc fn first captured =>
    cases fn with
    | func f =>
      have : captured.toList.map (ev e1) = captured.toList.map (ev e2) := List.map_congr_left fun x hx => h x (by simp [Op.operands]; exact .inr (by simpa using hx))
      simp only [aOp, this]
    | _ => rfl
  | makeSlice t l c => simp only [aOp]; rw [h l (by simp [Op.operands]), h c (by simp [Op.operands])]
  | slice t x lo hi mx =>
    cases mx with
    | some m =>
      cases lo with
      | some _ => rfl
      | none => cases hi with
        | none => rfl
        | some hh => simp only [aOp]; rw [h x (by simp [Op.operands]), h hh (by simp [Op.operands]), h m (by simp [Op.operands])]
    | none =>
      have h1 : lo.map (ev e1) = lo.map (ev e2) := by cases lo with | none => rfl | some y => simp [h y (by simp [Op.operands])]
      have h2 : hi.map (ev e1) = hi.map (ev e2) := by cases hi with | none => rfl | some y => simp [h y (by simp [Op.operands])]
      simp only [aOp, h1, h2]
      rw [h x (by simp [Op.operands])]
  | fieldAddr s x f => simp only [aOp]; rw [h x (by simp [Op.operands])]
  | field s x f => simp only [aOp]; rw [h x (by simp [Op.operands])]
  | indexAddr t x i => simp only [aOp]; rw [h x (by simp [Op.operands]), h i (by simp [Op.operands])]
  | index t x i => simp only [aOp]; rw [h x (by simp [Op.operands]), h i (by simp [Op.operands])]
  | typeAssert x xt t ok => simp only [aOp]; rw [h x (by simp [Op.operands])]
  | makeMap t r => cases r <;> rfl
  | lookup t m k c => simp only [aOp]; rw [h m (by simp [Op.operands]), h k (by simp [Op.operands])]
  | mapUpdate t m k x => simp only [aOp]; rw [h m (by simp [Op.operands]), h k (by simp [Op.operands]), h x (by simp [Op.operands])]
  | extract x i => simp only [aOp]; rw [h x (by simp [Op.operands])]
  | panic x => simp only [aOp]; rw [h x (by simp [Op.operands])]
  | call c =>
    obtain ⟨callee, args, argTypes⟩ := c
    have ha : ∀ x ∈ args.toList, ev e1 x = ev e2 x := fun x hx => h x (by simp only [Op.operands, Call.operands]; simp; exact .inr (by simpa using hx))
    have hm : args.toList.map (ev e1) = args.toList.map (ev e2) := List.map_congr_left ha
    have hw : (args.toList.map fun x => weakA (ev e1 x)) = (args.toList.map fun x => weakA (ev e2 x)) := List.map_congr_left fun x hx => by rw [ha x hx]
    cases callee with
    | builtin b => 
      simp only [aOp, hm]
      unfold builtinA
      rfl
    | invoke r m => rfl
    | value f =>
      simp only [aOp, hw]
      rw [h f (by simp [Op.operands, Call.operands])]
  | defer c =>
    obtain ⟨callee, args, argTypes⟩ := c
    cases callee with
    | value f => simp only [aOp]; rw [h f (by simp [Op.operands, Call.operands])]
    | _ => rfl
  | _ => rfl

theorem EnvR.congr {K : Kw} {n : Nat} {e1 e2 : Env} {a : Act} (h : EnvR K n e1 a) (hl : ∀ t, e2.look t = e1.look t) (hd : e2.ds = e1.ds) : EnvR K n e2 a :=
  ⟨h.size, fun t => by rw [hl t]; exact h.var t, by rw [hd]; exact h.defs⟩

def putsTo (full : List Oper) (vals : Nat → AV) (S : Nat → Bool) (env : Env) : Nat → Env
  | 0 => env
  | m + 1 => if S m then (putsTo full vals S env m).put ((full[m]?).bind (·.dst)) (vals m) else putsTo full vals S env m

theorem put_ds (env : Env) (d : Option Tmp) (v : AV) : (env.put d v).ds = env.ds := by cases d <;> rfl
theorem put_look (env : Env) (d : Option Tmp) (v : AV) (t : Nat) : (env.put d v).look t = if d = some t then v else env.look t := by
  cases d with
  | none => simp [Env.put]
  | some d => simp only [Env.put, Env.look, lookL, Option.some.injEq]

theorem putsTo_ds (full : List Oper) (vals : Nat → AV) (S : Nat → Bool) (env : Env) : ∀ m, (putsTo full vals S env m).ds = env.ds
  | 0 => rfl
  | m + 1 => by
    simp only [putsTo]
    split
    · rw [put_ds, putsTo_ds full vals S env m]
    · exact putsTo_ds full vals S env m

theorem putsTo_S (full : List Oper) (vals : Nat → AV) (S1 S2 : Nat → Bool) (env : Env) : ∀ m, (∀ j, j < m → S1 j = S2 j) → putsTo full vals S1 env m = putsTo full vals S2 env m
  | 0, _ => rfl
  | m + 1, h => by
    have h1 := h m (by omega)
    have ih := putsTo_S full vals S1 S2 env m (fun j hj => h j (by omega))
    unfold putsTo
    rw [ih]
    by_cases hs : S1 m = true
    · rw [if_pos hs, if_pos (h1 ▸ hs)]
    · rw [if_neg hs, if_neg (h1 ▸ hs)]

theorem putsTo_congr (full : List Oper) (vals : Nat → AV) (S1 S2 : Nat → Bool) (env : Env) (t : Nat) : ∀ m, (∀ j, j < m → (full[j]?).bind (·.dst) = some t → S1 j = S2 j) → (putsTo full vals S1 env m).look t = (putsTo full vals S2 env m).look t
  | 0, _ => rfl
  | m + 1, h => by
    have ih := putsTo_congr full vals S1 S2 env t m (fun j hj hd => h j (by omega) hd)
    simp only [putsTo]
    by_cases hd : (full[m]?).bind (·.dst) = some t
    · rw [h m (by omega) hd]
      split
      · rw [put_look, put_look, if_pos hd, if_pos hd]
      · exact ih
    · have e1 : ∀ e : Env, (e.put ((full[m]?).bind (·.dst)) (vals m)).look t = e.look t := fun e => by rw [put_look, if_neg hd]
      split <;> split <;> simp only [e1, ih]

/-- what is known of a quiet operation -/
def QFact (P : Program) (n : Nat) (full : List Oper) (A : AState) (o : Oper) (env : Env) (v : AV) : Prop :=
  guardA full env o (opRes P n o env A v) (dstOk n o.dst = true ∧ v = .val undef)

theorem guardA_congr {full : List Oper} {e1 e2 : Env} {o : Oper} {y1 n1 y2 n2 : Prop} (hl : ∀ t ∈ looksAt full o, e1.look t = e2.look t) (hy : y1 → y2) (hn : n1 → n2) (h : guardA full e1 o y1 n1) : guardA full e2 o y2 n2 := by
  unfold guardA at h ⊢
  split at h
  · exact hy h
  · rename_i j want hg
    split at h
    · rename_i d hd
      have : e1.look d = e2.look d := hl d (by simp [looksAt, hg, hd])
      rw [← this]
      split at h
      · split at h
        · rename_i hbw; simp only [if_pos hbw]; exact hy h
        · rename_i hbw; simp only [if_neg hbw]; exact hn h
      · exact hn h
      · exact h.elim
    · exact h.elim

theorem QFact.congr {n : Nat} {full : List Oper} {A : AState} {o : Oper} {e1 e2 : Env} {v : AV} (hl : ∀ t ∈ looksAt full o, e1.look t = e2.look t) (h : QFact P n full A o e1 v) : QFact P n full A o e2 v := by
  refine guardA_congr hl ?_ id h
  intro h1
  unfold opRes at h1 ⊢
  have : aOp P e1 A o.op o.type = aOp P e2 A o.op o.type := aOp_congr fun x hx => ev_congr fun t ht => hl t (by
    subst ht
    simp only [looksAt, List.mem_append, List.mem_filterMap]
    exact .inl ⟨_, hx, rfl⟩)
  rw [← this]
  exact h1

theorem QFact.wpOp {n : Nat} {ops : Array Oper} {full : List Oper} (hf : ops.toList = full) {A : AState} {i : Nat} {o : Oper} (ho : full[i]? = some o) {env : Env} {v : AV} (h : QFact P n full A o env v)
    {Q : Exit → Act → World → Prop} {Kc : Act → World → Prop} {K : Kw} {w : World} {a : Act} (hs : Sat K A w) (he : EnvR K n env a)
    (hnext : ∀ K' w' a', K.le K' → Sat K' A w' → EnvR K' n (env.put o.dst v) a' → Kc a' w') : Go.wpOp P ops Q i Kc a w := by
  have ho' : ops[i]? = some o := by rw [← ho, ← hf]; simp
  unfold Go.wpOp
  rw [ho']
  simp only
  rcases guardA_wanted hf he h with ⟨hw, hd, hr⟩ | ⟨hw, hd, rfl⟩
  · rw [if_pos hw]
    refine .inl ?_
    have hok := aOp_ok (P := P) hs he o
    unfold Oper.wp
    generalize aOp P env A o.op o.type = r at hr hok
    cases r with
    | next v' A' =>
      obtain ⟨rfl, rfl⟩ := hr
      obtain ⟨K', u, w', hrun, h1, h2, h3⟩ := hok
      rw [hrun]
      exact hnext K' w' _ h1 h2 ((he.mono h1).put hd h3)
    | call k args =>
      obtain ⟨vals, hrun, hv⟩ := hok
      simp only at hr
      rcases hr with hr | hr
      case inr =>
        obtain ⟨u, w', hrun2, hpost⟩ := hr K w vals hs hv
        rw [hrun, hrun2]
        obtain ⟨K', A', v', h1, h2, h3, h4, rfl⟩ := hpost
        injection h4 with h4
        subst h4
        exact hnext K' w' _ h1 h2 ((he.mono h1).put hd h3)
      rw [hrun, run_callFunc_body hr.1]
      refine (hr.2 K w vals hs hv).mono fun e w' hpost => ?_
      cases e with
      | returned u =>
        obtain ⟨K', A', v', h1, h2, h3, h4, rfl⟩ := hpost
        injection h4 with h4
        subst h4
        exact hnext K' w' _ h1 h2 ((he.mono h1).put hd h3)
      | panicked chain =>
        obtain ⟨K', A', v', u, h1, h2, h3, h4, h5, _⟩ := hpost
        cases h5
      | outgrown => exact hpost.elim
    | _ => exact hr.elim
  · rw [if_neg (by simp [hw])]
    exact hnext K w _ (.refl K) hs (he.put hd (.val _))

theorem putsTo_congr2 (full : List Oper) (v1 v2 : Nat → AV) (S1 S2 : Nat → Bool) (env : Env) (t : Nat) : ∀ m, (∀ j, j < m → (full[j]?).bind (·.dst) = some t → S1 j = S2 j ∧ (S1 j = true → v1 j = v2 j)) → (putsTo full v1 S1 env m).look t = (putsTo full v2 S2 env m).look t
  | 0, _ => rfl
  | m + 1, h => by
    have ih := putsTo_congr2 full v1 v2 S1 S2 env t m (fun j hj hd => h j (by omega) hd)
    simp only [putsTo]
    by_cases hd : (full[m]?).bind (·.dst) = some t
    · obtain ⟨h1, h2⟩ := h m (by omega) hd
      rw [← h1]
      split
      · rename_i hs; rw [put_look, put_look, if_pos hd, if_pos hd, h2 hs]
      · exact ih
    · have e1 : ∀ (e : Env) (v : AV), (e.put ((full[m]?).bind (·.dst)) v).look t = e.look t := fun e v => by rw [put_look, if_neg hd]
      split <;> split <;> simp only [e1, ih]

/-- what is known of one that is put off -/
theorem floatRes.congr {n : Nat} {full : List Oper} {A : AState} {o : Oper} {e1 e2 : Env} {cs : List AV} (hl : ∀ t ∈ looksAt full o, e1.look t = e2.look t) (h : floatRes P n o e1 A cs) : floatRes P n o e2 A cs := by
  have : aOp P e1 A o.op o.type = aOp P e2 A o.op o.type := aOp_congr fun x hx => ev_congr fun t ht => hl t (by
    subst ht
    simp only [looksAt, List.mem_append, List.mem_filterMap]
    exact .inl ⟨_, hx, rfl⟩)
  exact ⟨h.1, by rw [← this]; exact h.2⟩

def fidx (fl : List Nat) (s b : Nat) : List Nat := (List.range' s (b - s)).filter (fl.contains ·)

theorem fidx_cons {fl : List Nat} {s b : Nat} (h : s < b) : fidx fl s b = if fl.contains s = true then s :: fidx fl (s + 1) b else fidx fl (s + 1) b := by
  unfold fidx
  have : b - s = (b - (s + 1)) + 1 := by omega
  rw [this, List.range'_succ, List.filter_cons]
theorem fidx_self {fl : List Nat} {s : Nat} : fidx fl s s = [] := by simp [fidx]
theorem mem_fidx {fl : List Nat} {s b i : Nat} : i ∈ fidx fl s b ↔ s ≤ i ∧ i < b ∧ fl.contains i = true := by
  unfold fidx
  rw [List.mem_filter, List.mem_range'_1]
  constructor
  · rintro ⟨⟨h1, h2⟩, h3⟩; exact ⟨h1, by omega, h3⟩
  · rintro ⟨h1, h2, h3⟩; exact ⟨⟨h1, by omega⟩, h3⟩

/-- a run of quiet operations out of the text's order -/
theorem seg_extract {n : Nat} {full : List Oper} {louds fl lags : List Nat} (hlg : ∀ i, lags.contains i = true → louds.contains i = false ∧ fl.contains i = false) {Q : AExit → Env → AState → Prop} {A : AState} : ∀ (l : List Oper) (s : Nat) (fs : Fls) (env : Env), l = full.drop s → s ≤ full.length → aDraw P n full louds fl lags Q s fs l env A →
    ∃ b, s ≤ b ∧ b ≤ full.length ∧ (b = full.length ∨ (louds.contains b = true ∧ lags.contains b = false)) ∧ (∀ i, s ≤ i → i < b → louds.contains i = false) ∧ ∃ (vals : Nat → AV) (css : Nat → List AV),
      (∀ (i : Nat) (o : Oper), s ≤ i → i < b → full[i]? = some o → lags.contains i = false → (fl.contains i = false → QFact P n full A o (putsTo full vals (fun j => decide (s ≤ j) && !lags.contains j) env i) (vals i)) ∧
        (fl.contains i = true → floatRes P n o (putsTo full vals (fun j => decide (s ≤ j) && !lags.contains j) env i) A (css i))) ∧
      aDraw P n full louds fl lags Q b (fs ++ (fidx fl s b).map fun i => (dOf full i, css i)) (full.drop b) (putsTo full vals (fun j => decide (s ≤ j) && !lags.contains j) env b) A
  | [], s, fs, env, hl, hs, h => by
    have hse : s = full.length := by
      have := congrArg List.length hl
      simp at this; omega
    subst hse
    refine ⟨full.length, Nat.le_refl _, Nat.le_refl _, .inl rfl, fun i h1 h2 => by omega, fun _ => .top, fun _ => [], fun i o h1 h2 => by omega, ?_⟩
    have hput : ∀ m, m ≤ full.length → putsTo full (fun _ => .top) (fun j => decide (full.length ≤ j) && !lags.contains j) env m = env := by
      intro m
      induction m with
      | zero => intro _; rfl
      | succ m ih =>
        intro hm
        simp only [putsTo]
        rw [if_neg (by simp only [Bool.and_eq_true, decide_eq_true_eq]; omega)]
        exact ih (by omega)
    rw [hput _ (Nat.le_refl _), ← hl, fidx_self]
    simpa using h
  | o :: l, s, fs, env, hl, hs, h => by
    have hslt : s < full.length := by
      have := congrArg List.length hl
      simp at this; omega
    have hdrop : full.drop s = full[s] :: full.drop (s + 1) := List.drop_eq_getElem_cons hslt
    rw [hdrop] at hl
    injection hl with ho hl'
    have hos : full[s]? = some o := by rw [List.getElem?_eq_getElem hslt, ho]
    have hput0 : ∀ vals : Nat → AV, ∀ m, m ≤ s → putsTo full vals (fun j => decide (s ≤ j) && !lags.contains j) env m = env := by
      intro vals m
      induction m with
      | zero => intro _; rfl
      | succ m ih =>
        intro hm
        simp only [putsTo]
        rw [if_neg (by simp only [Bool.and_eq_true, decide_eq_true_eq]; omega)]
        exact ih (by omega)
    by_cases hlag : lags.contains s = true
    · simp only [aDraw, hlag, if_true] at h
      obtain ⟨b, h1, h2, h3, h4, vals, css, h5, h6⟩ := seg_extract hlg l (s + 1) fs env hl' (by omega) h
      have hputs : ∀ m, putsTo full vals (fun j => decide (s ≤ j) && !lags.contains j) env m = putsTo full vals (fun j => decide (s + 1 ≤ j) && !lags.contains j) env m := by
        intro m
        refine putsTo_S full vals _ _ env m fun j hj => ?_
        by_cases hms : j = s
        · subst hms; rw [hlag]; simp
        · have : (decide (s ≤ j)) = decide (s + 1 ≤ j) := by rw [decide_eq_decide]; omega
          rw [this]
      refine ⟨b, by omega, h2, h3, fun i hi1 hi2 => ?_, vals, css, fun i o' hi1 hi2 ho' hli => ?_, ?_⟩
      · by_cases his : i = s
        · subst his; exact (hlg _ hlag).1
        · exact h4 i (by omega) hi2
      · have his : i ≠ s := fun hq => by subst hq; rw [hlag] at hli; cases hli
        rw [hputs]
        exact h5 i o' (by omega) hi2 ho' hli
      · rw [hputs, fidx_cons (by omega), if_neg (by rw [(hlg _ hlag).2]; simp)]
        exact h6
    have hlagf : lags.contains s = false := by simpa using hlag
    by_cases hld : louds.contains s = true
    · refine ⟨s, Nat.le_refl _, hs, .inr ⟨hld, hlagf⟩, fun i h1 h2 => by omega, fun _ => .top, fun _ => [], fun i o h1 h2 => by omega, ?_⟩
      rw [hput0 _ s (Nat.le_refl _), hdrop, ← ho, ← hl', fidx_self]
      simpa using h
    · have hldf : louds.contains s = false := by simpa using hld
      simp only [aDraw, hlagf, hldf, Bool.false_eq_true, if_false] at h
      -- the value of this one
      have hval : ∃ v cs, ((fl.contains s = false → QFact P n full A o env v) ∧ (fl.contains s = true → floatRes P n o env A cs)) ∧
          aDraw P n full louds fl lags Q (s + 1) (fs ++ if fl.contains s = true then [(dOf full s, cs)] else []) l (env.put o.dst v) A := by
        by_cases hfl : fl.contains s = true
        · rw [if_pos hfl] at h
          obtain ⟨cs, d, hd, h1, h2⟩ := h
          refine ⟨.top, cs, ⟨fun hq => (by rw [hfl] at hq; cases hq), fun _ => h1⟩, ?_⟩
          rw [if_pos hfl]
          have : dOf full s = d := by simp [dOf, hos, hd]
          rw [this]; exact h2
        · rw [if_neg hfl] at h
          suffices hq : ∃ v, QFact P n full A o env v ∧ aDraw P n full louds fl lags Q (s + 1) fs l (env.put o.dst v) A by
            obtain ⟨v, h1, h2⟩ := hq
            exact ⟨v, [], ⟨fun _ => h1, fun hq => absurd hq hfl⟩, by rw [if_neg hfl, List.append_nil]; exact h2⟩
          unfold QFact
          unfold guardA at h ⊢
          cases hg : o.guard with
          | none =>
            rw [hg] at h
            simp only at h ⊢
            obtain ⟨v, h1, h2⟩ := h
            exact ⟨v, h1, h2⟩
          | some jw =>
            obtain ⟨j, want⟩ := jw
            rw [hg] at h
            simp only at h ⊢
            split at h
            · split at h
              · split at h
                · rename_i hbw
                  obtain ⟨v, h1, h2⟩ := h
                  exact ⟨v, by rw [if_pos hbw]; exact h1, h2⟩
                · rename_i hbw
                  exact ⟨.val undef, by rw [if_neg hbw]; exact ⟨h.1, rfl⟩, h.2⟩
              · exact ⟨.val undef, ⟨h.1, rfl⟩, h.2⟩
              · exact h.elim
            · exact h.elim
      obtain ⟨v, cs, hq, hrest⟩ := hval
      obtain ⟨b, h1, h2, h3, h4, vals, css, h5, h6⟩ := seg_extract hlg l (s + 1) _ (env.put o.dst v) hl' (by omega) hrest
      let vals' : Nat → AV := fun i => if i = s then v else vals i
      let css' : Nat → List AV := fun i => if i = s then cs else css i
      have hputs : ∀ m, s + 1 ≤ m → putsTo full vals' (fun j => decide (s ≤ j) && !lags.contains j) env m = putsTo full vals (fun j => decide (s + 1 ≤ j) && !lags.contains j) (env.put o.dst v) m := by
        intro m
        induction m with
        | zero => intro hm; omega
        | succ m ih =>
          intro hm
          simp only [putsTo]
          by_cases hms : m = s
          · subst hms
            rw [if_pos (by rw [hlagf]; simp), if_neg (by simp only [Bool.and_eq_true, decide_eq_true_eq]; omega), hput0 vals' m (Nat.le_refl _), hos]
            have hz : ∀ k, k ≤ m → putsTo full vals (fun j => decide (m + 1 ≤ j) && !lags.contains j) (env.put o.dst v) k = env.put o.dst v := by
              intro k
              induction k with
              | zero => intro _; rfl
              | succ k ihk => intro hk; simp only [putsTo]; rw [if_neg (by simp only [Bool.and_eq_true, decide_eq_true_eq]; omega)]; exact ihk (by omega)
            rw [hz m (Nat.le_refl _)]
            simp [vals']
          · have hsm : (decide (s ≤ m) && !lags.contains m) = (decide (s + 1 ≤ m) && !lags.contains m) := by
              have : (decide (s ≤ m)) = decide (s + 1 ≤ m) := by rw [decide_eq_decide]; omega
              rw [this]
            have hv : vals' m = vals m := by simp only [vals', if_neg hms]
            by_cases hS : (decide (s + 1 ≤ m) && !lags.contains m) = true
            · rw [if_pos hS, if_pos (hsm ▸ hS), ih (by omega), hv]
            · rw [if_neg hS, if_neg (hsm ▸ hS), ih (by omega)]
      refine ⟨b, by omega, h2, h3, fun i hi1 hi2 => ?_, vals', css', fun i o' hi1 hi2 ho' hli => ?_, ?_⟩
      · by_cases his : i = s
        · subst his; exact hldf
        · exact h4 i (by omega) hi2
      · by_cases his : i = s
        · subst his
          rw [hos] at ho'
          injection ho' with ho'
          subst ho'
          rw [hput0 vals' i (Nat.le_refl _)]
          simpa [vals', css'] using hq
        · rw [hputs i (by omega)]
          have := h5 i o' (by omega) hi2 ho' hli
          simpa [vals', css', his] using this
      · rw [hputs b (by omega)]
        have hmap : (fidx fl s b).map (fun i => (dOf full i, css' i)) = (if fl.contains s = true then [(dOf full s, cs)] else []) ++ (fidx fl (s + 1) b).map (fun i => (dOf full i, css i)) := by
          have htail : (fidx fl (s + 1) b).map (fun i => (dOf full i, css' i)) = (fidx fl (s + 1) b).map (fun i => (dOf full i, css i)) := by
            apply List.map_congr_left
            intro i hi
            have := (mem_fidx.1 hi).1
            have hne : i ≠ s := by omega
            simp [css', hne]
          rw [fidx_cons (by omega)]
          split
          · rw [List.map_cons, htail]; simp [css']
          · simpa using htail
        rw [hmap, ← List.append_assoc]
        exact h6

end
end Go.Ab
