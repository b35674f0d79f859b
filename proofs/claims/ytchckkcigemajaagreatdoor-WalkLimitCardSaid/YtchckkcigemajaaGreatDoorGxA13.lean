/- .. the theorem: a region that draws its order comes to what its operations give in the text's order. -/
import Derived.Test.YtchckkcigemajaaGreatDoorGxA12
namespace Go.Ab
set_option linter.unusedVariables false
set_option linter.unusedSimpArgs false
section
variable {P : Program}

theorem putsTo_bound (full : List Oper) (vals : Nat → AV) (S : Nat → Bool) (env : Env) (i : Nat) : ∀ m, i ≤ m → putsTo full vals (fun j => S j && decide (j < i)) env m = putsTo full vals S env i
  | 0, h => by
    have : i = 0 := by omega
    subst this; rfl
  | m + 1, h => by
    by_cases him : i = m + 1
    · subst him
      have : ∀ k, k ≤ m + 1 → putsTo full vals (fun j => S j && decide (j < m + 1)) env k = putsTo full vals S env k := by
        intro k
        induction k with
        | zero => intro _; rfl
        | succ k ih =>
          intro hk
          simp only [putsTo]
          have e1 : (S k && decide (k < m + 1)) = S k := by simp; omega
          simp only [e1, ih (by omega)]
      exact this _ (Nat.le_refl _)
    · simp only [putsTo]
      rw [if_neg (by simp; omega)]
      exact putsTo_bound full vals S env i m (by omega)

theorem putsTo_last (full : List Oper) (vals : Nat → AV) (S : Nat → Bool) (env : Env) {i : Nat} {t : Tmp} (hS : S i = true) (hd : (full[i]?).bind (·.dst) = some t) : ∀ m, i < m → (∀ j, i < j → j < m → (full[j]?).bind (·.dst) = some t → S j = false) →
    (putsTo full vals S env m).look t = vals i
  | 0, h, _ => by omega
  | m + 1, h, hn => by
    simp only [putsTo]
    by_cases him : i = m
    · subst him
      rw [if_pos hS, hd, put_look, if_pos rfl]
    · have ih := putsTo_last full vals S env hS hd m (by omega) (fun j h1 h2 h3 => hn j h1 (by omega) h3)
      by_cases hdm : (full[m]?).bind (·.dst) = some t
      · rw [hn m (by omega) (by omega) hdm]; simpa using ih
      · split
        · rw [put_look, if_neg hdm]; exact ih
        · exact ih

def unl (N : Nat) (listed : Array Bool) : Nat := (List.range N).countP fun i => !listed.getD i false

theorem unl_set {N : Nat} {listed : Array Bool} (hs : listed.size = N) {i : Nat} (hi : i < N) (hu : listed.getD i false = false) : unl N (listed.setIfInBounds i true) + 1 = unl N listed := by
  unfold unl
  have key : ∀ (l : List Nat), l.Nodup → i ∈ l → l.countP (fun j => !(listed.setIfInBounds i true).getD j false) + 1 = l.countP (fun j => !listed.getD j false) := by
    intro l
    induction l with
    | nil => intro _ h; cases h
    | cons x l ih =>
      intro hn hm
      have hset : ∀ j, j ≠ i → (listed.setIfInBounds i true).getD j false = listed.getD j false := by
        intro j hj
        simp only [Array.getD_eq_getD_getElem?, Array.getElem?_setIfInBounds_ne (Ne.symm hj)]
      have hself : (listed.setIfInBounds i true).getD i false = true := by
        simp [Array.getD_eq_getD_getElem?, hs, hi]
      rw [List.countP_cons, List.countP_cons]
      by_cases hx : x = i
      · subst hx
        have hnot : x ∉ l := (List.nodup_cons.1 hn).1
        have : l.countP (fun j => !(listed.setIfInBounds x true).getD j false) = l.countP (fun j => !listed.getD j false) := by
          apply List.countP_congr
          intro j hj
          rw [hset j (fun h => hnot (h ▸ hj))]
        rw [this, hself, hu]
        simp
      · have hm' : i ∈ l := by
          cases hm with
          | head => exact absurd rfl hx
          | tail _ h => exact h
        have := ih (List.nodup_cons.1 hn).2 hm'
        rw [hset x hx]
        omega
  exact key _ List.nodup_range (List.mem_range.2 hi)

theorem unl_zero {N : Nat} {listed : Array Bool} (h : unl N listed = 0) {i : Nat} (hi : i < N) : listed.getD i false = true := by
  unfold unl at h
  rw [List.countP_eq_zero] at h
  have := h i (List.mem_range.2 hi)
  simpa using this

theorem mem_ready {ops : Array Oper} {listed : Array Bool} {i : Nat} (hs : listed.size = ops.size) (h : i ∈ Region.ready .any ops listed) : i < ops.size ∧ listed.getD i false = false ∧
    ∀ o, ops[i]? = some o → ∀ e ∈ o.after.toList, Region.binds .any e = true → listed.getD e.on false = true := by
  unfold Region.ready at h
  obtain ⟨h1, h2⟩ := List.mem_filter.1 h
  have hi := List.mem_range.1 h1
  simp only [Bool.and_eq_true, Bool.not_eq_true'] at h2
  obtain ⟨h3, h4⟩ := h2
  refine ⟨hi, ?_, fun o ho e he hb => ?_⟩
  · simp only [Array.getD_eq_getD_getElem?] at h3 ⊢
    have : i < listed.size := by omega
    simp only [Array.getElem?_eq_getElem this, Option.getD_some] at h3 ⊢
    exact h3
  · rw [ho] at h4
    simp only [Option.map_some, Option.getD_some] at h4
    have := Array.all_eq_true'.1 h4 e (by simpa using he)
    simp only [Bool.or_eq_true, Bool.not_eq_true'] at this
    rcases this with h5 | h5
    · rw [hb] at h5; cases h5
    · exact h5

theorem ready_least {ops : Array Oper} {full : List Oper} (hf : ops.toList = full) (heb : edgesBack full = true) {listed : Array Bool} (hs : listed.size = ops.size) (h : Region.ready .any ops listed = []) : ∀ i, i < ops.size → listed.getD i false = true := by
  intro i
  induction i using Nat.strongRecOn with
  | _ i ih =>
    intro hi
    by_cases hl : listed.getD i false = true
    · exact hl
    · exfalso
      have hl' : listed.getD i true = false := by
        simp only [Array.getD_eq_getD_getElem?] at hl ⊢
        have : i < listed.size := by omega
        simp only [Array.getElem?_eq_getElem this, Option.getD_some] at hl ⊢
        simpa using hl
      have hmem : i ∈ Region.ready .any ops listed := by
        unfold Region.ready
        refine List.mem_filter.2 ⟨List.mem_range.2 hi, ?_⟩
        have ho : ops[i]? = some ops[i] := Array.getElem?_eq_getElem hi
        rw [hl', ho]
        simp only [Bool.not_false, Option.map_some, Option.getD_some, Bool.true_and]
        rw [Array.all_eq_true']
        intro e he
        by_cases hb : Region.binds .any e = true
        · have hfi : full[i]? = some ops[i] := by rw [← hf]; simp
          have hlt : i < full.length := (List.getElem?_eq_some_iff.1 hfi).1
          have h1 := List.all_eq_true.1 heb i (List.mem_range.2 hlt)
          rw [hfi] at h1
          have h2 := List.all_eq_true.1 h1 e (by simpa using he)
          rw [hb] at h2
          simp only [Bool.not_true, Bool.false_or, decide_eq_true_eq] at h2
          rw [ih e.on h2 (by omega)]
          simp
        · simp [hb]
      rw [h] at hmem
      cases hmem

theorem drawOk_spec {full : List Oper} {louds lags : List Nat} (h : drawOk full louds lags = true) {i j : Nat} {x y : Oper} (hij : i < j) (hx : full[i]? = some x) (hy : full[j]? = some y) (hli : lags.contains i = false) (hlj : lags.contains j = false) :
    ((beforeL full).getD j 0).testBit i = true ∨ (touches full x y = false ∧ touches full y x = false ∧ louds.contains i = false ∧ louds.contains j = false) := by
  have hjl : j < full.length := (List.getElem?_eq_some_iff.1 hy).1
  have h1 := List.all_eq_true.1 h j (List.mem_range.2 hjl)
  simp only [hy] at h1
  have h2 := List.all_eq_true.1 h1 i (List.mem_range.2 hij)
  simp only [hx, Bool.or_eq_true, Bool.and_eq_true, Bool.not_eq_true'] at h2
  rcases h2 with ((h2 | h2) | h2) | ⟨⟨⟨h3, h4⟩, h5⟩, h6⟩
  · exact .inl h2
  · rw [hli] at h2; cases h2
  · rw [hlj] at h2; cases h2
  · exact .inr ⟨h3, h4, h5, h6⟩

theorem maskE_look (U : List Tmp) (env : Env) (t : Tmp) : (maskE U env).look t = if t ∈ U then .top else env.look t := by
  unfold maskE Env.look
  simp only
  induction U with
  | nil => simp
  | cons u U ih =>
    simp only [List.map_cons, List.cons_append, lookL, ih, List.mem_cons]
    by_cases h : u = t
    · subst h; simp
    · have : ¬ t = u := fun hq => h hq.symm
      simp [h, this]
theorem maskE_ds (U : List Tmp) (env : Env) : (maskE U env).ds = env.ds := rfl

/-- those that have not come yet -/
def unLag (full : List Oper) (lags : List Nat) (listed : Nat → Bool) : List Tmp := (lags.filter fun i => !listed i).map (dOf full)
theorem mem_unLag {full : List Oper} {lags : List Nat} {listed : Nat → Bool} {t : Tmp} : t ∈ unLag full lags listed ↔ ∃ i ∈ lags, listed i = false ∧ dOf full i = t := by
  unfold unLag
  simp only [List.mem_map, List.mem_filter, Bool.not_eq_true']
  constructor
  · rintro ⟨i, ⟨h1, h2⟩, h3⟩; exact ⟨i, h1, h2, h3⟩
  · rintro ⟨i, h1, h2, h3⟩; exact ⟨i, ⟨h1, h2⟩, h3⟩

/-- each move that may come whenever it likes: what it gives -/
def LagEnv (full : List Oper) (lags : List Nat) (env : Env) : Prop :=
  ∀ i ∈ lags, ∀ (x : Oper) (d : Tmp) (z : Operand), full[i]? = some x → x.dst = some d → x.op = .move z → env.look d = ev env z

theorem dOf_some {full : List Oper} {i : Nat} {x : Oper} {d : Tmp} (h : full[i]? = some x) (hd : x.dst = some d) : dOf full i = d := by simp [dOf, h, hd]

/-- the blocks of those that are put off -/
def FInv (fl : List Nat) (s b : Nat) (vals : Nat → AV) (css : Nat → List AV) (B0 : Base) (listed : Nat → Bool) (K : Kw) (vS : Nat → AV) : Prop :=
  (∀ i, fl.contains i = false → vS i = vals i) ∧ ∃ blk : Nat → Nat,
    (∀ i, i ∈ fidx fl s b → listed i = true → vS i = .val (.pointer (some ⟨blk i, 0, none⟩)) ∧ B0 (blk i) = none ∧ ∃ (arr : Array Value) (ty : TypeId), K.base (blk i) = some (.cells arr ty (0, 0), true) ∧ (css i).length ≤ arr.size ∧
      ∀ (j : Nat) (c : AV) (u : Value), (css i)[j]? = some c → arr[j]? = some u → V K.S K.Om K.ι c u) ∧
    (∀ i j, i ∈ fidx fl s b → j ∈ fidx fl s b → listed i = true → listed j = true → blk i = blk j → i = j) ∧
    (∀ b', (∀ i, i ∈ fidx fl s b → listed i = true → blk i ≠ b') → K.base b' = B0 b') ∧ K.base.os = B0.os ∧ K.base.out = B0.out

theorem FInv.mono {fl : List Nat} {s b : Nat} {vals : Nat → AV} {css : Nat → List AV} {B0 : Base} {l1 l2 : Nat → Bool} {K K' : Kw} {vS : Nat → AV} (h : FInv fl s b vals css B0 l1 K vS) (hK : K.le K') (hl : ∀ i, i ∈ fidx fl s b → l2 i = l1 i) : FInv fl s b vals css B0 l2 K' vS := by
  obtain ⟨h0, blk, h1, h2, h3, h4⟩ := h
  refine ⟨h0, blk, fun i hi hli => ?_, fun i j hi hj hli hlj => h2 i j hi hj (by rw [← hl i hi]; exact hli) (by rw [← hl j hj]; exact hlj), fun b' hb' => ?_, by rw [← hK.base]; exact h4⟩
  · obtain ⟨g1, g2, arr, ty, g3, g4, g5⟩ := h1 i hi (by rw [← hl i hi]; exact hli)
    exact ⟨g1, g2, arr, ty, by rw [← hK.base]; exact g3, g4, fun j c u hc hu => V.mono hK.ext (g5 j c u hc hu) hK.pre⟩
  · rw [← hK.base]
    exact h3 b' fun i hi hli => hb' i hi (by rw [hl i hi]; exact hli)

theorem thawAll {w : World} {blk : Nat → Nat} {css : Nat → List AV} : ∀ (l : List Nat) (K : Kw) (A : AState), Sat K A w → l.Nodup →
    (∀ i ∈ l, ∃ (arr : Array Value) (ty : TypeId), K.base (blk i) = some (.cells arr ty (0, 0), true) ∧ (css i).length ≤ arr.size ∧ ∀ (j : Nat) (c : AV) (u : Value), (css i)[j]? = some c → arr[j]? = some u → V K.S K.Om K.ι c u) →
    (∀ i ∈ l, ∀ j ∈ l, blk i = blk j → i = j) →
    Sat { K with ι := K.ι ++ l.map blk, base := { K.base with obj := fun b' => if b' ∈ l.map blk then none else K.base b' } } { A with boxes := A.boxes ++ l.map css } w
  | [], K, A, h, _, _, _ => by simpa using h
  | i :: l, K, A, h, hn, hb, hi => by
    obtain ⟨arr, ty, h1, h2, h3⟩ := hb i (by simp)
    have hne : ∀ j ∈ l, blk j ≠ blk i := fun j hj hq => by
      have := hi j (by simp [hj]) i (by simp) hq
      subst this
      exact (List.nodup_cons.1 hn).1 hj
    have ih := thawAll (w := w) (blk := blk) (css := css) l _ _ (h.thaw h1 h2 h3) (List.nodup_cons.1 hn).2 (fun j hj => by
      obtain ⟨arr', ty', g1, g2, g3⟩ := hb j (by simp [hj])
      refine ⟨arr', ty', ?_, g2, fun k c u hc hu => V.mono (.refl _ _) (g3 k c u hc hu) (List.prefix_append _ _)⟩
      simp only
      rw [baseSet_ne _ _ (hne j hj)]
      exact g1) (fun j hj k hk => hi j (by simp [hj]) k (by simp [hk]))
    have e1 : (fun b' => if b' ∈ (i :: l).map blk then none else K.base b') = (fun b' => if b' ∈ l.map blk then none else (baseSet K.base (blk i) none) b') := by
      funext b'
      simp only [List.map_cons, List.mem_cons, baseSet]
      by_cases hq : b' = blk i
      · simp [hq]
      · simp [hq]
    rw [e1]
    simpa [show (baseSet K.base (blk i) none).os = K.base.os from rfl, show (baseSet K.base (blk i) none).out = K.base.out from rfl] using ih

theorem Base.eq_of {x y : Base} (h1 : x.obj = y.obj) (h2 : x.os = y.os) (h3 : x.out = y.out) : x = y := by
  cases x; cases y; simp only at h1 h2 h3; subst h1; subst h2; subst h3; rfl

theorem flushEnv_ds : ∀ (fs : Fls) (m : Nat) (env : Env), (flushEnv fs m env).ds = env.ds
  | [], _, _ => rfl
  | (d, cs) :: r, m, env => by simp only [flushEnv]; rw [flushEnv_ds r]; rfl

theorem flushEnv_ok {K : Kw} {n : Nat} {a : Act} {dst : Nat → Tmp} {css : Nat → List AV} {U : List Tmp} : ∀ (l : List Nat) (m : Nat) (env : Env), a.tmps.size = n → DefR K env.ds a.defers →
    (∀ t, (∀ i ∈ l, dst i ≠ t) → t ∉ U → K.V (env.look t) (a.tmps.getD t undef)) → (∀ (k i : Nat), l[k]? = some i → K.V (.ptr (m + k) 0) (a.tmps.getD (dst i) undef)) →
    EnvR K n (maskE U (flushEnv (l.map fun i => (dst i, css i)) m env)) a
  | [], m, env, h0, hd, h1, h2 => ⟨h0, fun t => by
    rw [maskE_look]
    split
    · exact .top _
    · rename_i hU; exact h1 t (by simp) hU, hd⟩
  | i :: l, m, env, h0, hd, h1, h2 => by
    simp only [List.map_cons, flushEnv]
    refine flushEnv_ok l (m + 1) _ h0 (by rw [put_ds]; exact hd) (fun t ht hU => ?_) (fun k j hk => ?_)
    · rw [put_look]
      by_cases hdt : dst i = t
      · rw [if_pos (by rw [hdt])]
        have := h2 0 i rfl
        rw [hdt] at this
        simpa using this
      · rw [if_neg (by simpa using hdt)]
        refine h1 t (fun j hj => ?_) hU
        rcases List.mem_cons.1 hj with rfl | hj
        · exact hdt
        · exact ht j hj
    · have := h2 (k + 1) j (by simpa using hk)
      rwa [show m + (k + 1) = m + 1 + k by omega] at this

theorem fidx_nodup (fl : List Nat) (s b : Nat) : (fidx fl s b).Nodup := (List.nodup_range' (n := b - s)).filter _

theorem flushEnv_look : ∀ (fs : Fls) (m : Nat) (env : Env) (t : Tmp), (∀ p ∈ fs, p.1 ≠ t) → (flushEnv fs m env).look t = env.look t
  | [], _, _, _, _ => rfl
  | (d, cs) :: r, m, env, t, h => by
    simp only [flushEnv]
    rw [flushEnv_look r _ _ t (fun p hp => h p (by simp [hp])), put_look, if_neg]
    intro hq
    exact h (d, cs) (by simp) (by simpa using hq)

/-- the end of a stretch: what was put off is there -/
theorem flush_ok {n : Nat} {full : List Oper} {louds fl lags : List Nat} (hfo : floatsOk full louds fl = true) (hla : lagsOk n full louds fl lags = true) {s b : Nat} {vals : Nat → AV} {css : Nat → List AV} {vS : Nat → AV} {listed : Nat → Bool} {K0 K : Kw} {A : AState} {w : World} {env : Env} {a : Act}
    (hbN : b ≤ full.length) (hnl : ∀ i, s ≤ i → i < b → louds.contains i = false) (hall : ∀ i, i < b → lags.contains i = false → listed i = true) (hge : ∀ i, b ≤ i → lags.contains i = false → listed i = false)
    (hK : K0.le { K with base := K0.base }) (hF : FInv fl s b vals css K0.base listed K vS) (hsat : Sat K A w) (henv : EnvR K n (maskE (unLag full lags listed) (putsTo full vS (fun j => decide (s ≤ j) && !lags.contains j && listed j) env full.length)) a) :
    ∃ K2 : Kw, K0.le K2 ∧ Sat K2 (flushA ((fidx fl s b).map fun i => (dOf full i, css i)) A) w ∧
      EnvR K2 n (maskE (unLag full lags listed) (flushEnv ((fidx fl s b).map fun i => (dOf full i, css i)) A.boxes.length (putsTo full vals (fun j => decide (s ≤ j) && !lags.contains j) env b))) a := by
  obtain ⟨hv, blk, h1, h2, h3, h4⟩ := hF
  have hflag : ∀ i, fl.contains i = true → lags.contains i = false := fun i hi => by
    cases hl : lags.contains i with
    | false => rfl
    | true =>
      obtain ⟨x, d, z, hx⟩ := lagsOk_spec hla (by simpa using hl)
      rw [hx.float] at hi; cases hi
  have hlst : ∀ i, i ∈ fidx fl s b → listed i = true := fun i hi => hall i (mem_fidx.1 hi).2.1 (hflag i (mem_fidx.1 hi).2.2)
  have hsat2 := thawAll (blk := blk) (css := css) (fidx fl s b) K A hsat (fidx_nodup fl s b) (fun i hi => by
    obtain ⟨_, _, g⟩ := h1 i hi (hlst i hi)
    exact g) (fun i hi j hj => h2 i j hi hj (hlst i hi) (hlst j hj))
  have hbase : ({ K.base with obj := fun b' => if b' ∈ (fidx fl s b).map blk then none else K.base b' } : Base) = K0.base := by
    have hobj : (fun b' => if b' ∈ (fidx fl s b).map blk then none else K.base b') = K0.base.obj := by
      funext b'
      split
      · rename_i hm
        obtain ⟨i, hi, rfl⟩ := List.mem_map.1 hm
        exact (h1 i hi (hlst i hi)).2.1.symm
      · rename_i hm
        exact h3 b' fun i hi _ hq => hm (List.mem_map.2 ⟨i, hi, hq⟩)
    exact Base.eq_of hobj h4.1 h4.2
  rw [hbase] at hsat2
  refine ⟨{ K with ι := K.ι ++ (fidx fl s b).map blk, base := K0.base }, ⟨hK.ext, hK.pre.trans (List.prefix_append _ _), rfl⟩, ?_, ?_⟩
  · have : (fidx fl s b).map ((·.2) ∘ fun i => (dOf full i, css i)) = (fidx fl s b).map css := rfl
    simp only [flushA, List.map_map, this]
    exact hsat2
  · have hm : ∀ {c : AV} {u : Value}, K.V c u → V K.S K.Om (K.ι ++ (fidx fl s b).map blk) c u := fun hv => V.mono (.refl _ _) hv (List.prefix_append _ _)
    refine flushEnv_ok (fidx fl s b) _ _ henv.size ?_ (fun t ht hU => ?_) (fun k i hk => ?_)
    · have hd := henv.defs
      rw [maskE_ds, putsTo_ds] at hd
      rw [putsTo_ds]
      exact ⟨hd.1, fun j x d hx hl => by
        obtain ⟨caps, g1, g2, g3, g4⟩ := hd.2 j x d hx hl
        exact ⟨caps, g1, g2, g3, fun i c u hc hu => hm (g4 i c u hc hu)⟩⟩
    · have := henv.var t
      rw [maskE_look, if_neg hU] at this
      refine hm ?_
      have heq : (putsTo full vals (fun j => decide (s ≤ j) && !lags.contains j) env b).look t = (putsTo full vS (fun j => decide (s ≤ j) && !lags.contains j && listed j) env full.length).look t := by
        rw [← putsTo_bound full vals (fun j => decide (s ≤ j) && !lags.contains j) env b full.length hbN]
        refine putsTo_congr2 full vals vS _ _ env t _ (fun j hj hd => ?_)
        cases hlj : lags.contains j with
        | true => simp
        | false =>
          by_cases hjb : j < b
          · refine ⟨by rw [hall j hjb hlj]; simp [hjb], fun hS => ?_⟩
            have hsj : s ≤ j := by simp only [Bool.and_eq_true, decide_eq_true_eq] at hS; exact hS.1.1
            refine (hv j ?_).symm
            cases hfj : fl.contains j with
            | false => rfl
            | true =>
              exfalso
              refine ht j (mem_fidx.2 ⟨hsj, hjb, hfj⟩) ?_
              simp [dOf, hd]
          · refine ⟨by rw [hge j (by omega) hlj]; simp [hjb], fun hS => ?_⟩
            simp [hjb] at hS
      rw [heq]
      exact this
    · have hi := List.mem_of_getElem? hk
      obtain ⟨hsi, hib, hfi⟩ := mem_fidx.1 hi
      have hil : i < full.length := by omega
      have hoi := List.getElem?_eq_getElem hil
      have hli := hflag i hfi
      obtain ⟨_, ⟨d, hd⟩, hlo, htch⟩ := floatsOk_spec hfo hfi hoi
      have hdo : dOf full i = d := by simp [dOf, hoi, hd]
      have hlook : (putsTo full vS (fun j => decide (s ≤ j) && !lags.contains j && listed j) env full.length).look d = vS i := by
        refine putsTo_last full vS _ env (i := i) (by simp only [hall i hib hli, hli]; simp [hsi]) (by rw [hoi]; exact hd) full.length hil (fun j hij hjl hdj => ?_)
        cases hlj : lags.contains j with
        | true => simp
        | false =>
          by_cases hjb : j < b
          · exfalso
            cases hfj : full[j]? with
            | none => rw [hfj] at hdj; cases hdj
            | some y =>
              rw [hfj] at hdj
              simp only [Option.bind_some] at hdj
              have := htch j y hfj (by omega) (hnl j (by omega) hjb)
              simp [touches, hd, hdj] at this
          · rw [hge j (by omega) hlj]; simp
      have hdU : d ∉ unLag full lags listed := by
        intro hm
        obtain ⟨j, hj, _, hdj⟩ := mem_unLag.1 hm
        obtain ⟨y, d', z, hy⟩ := lagsOk_spec hla hj
        have hne : i ≠ j := fun hq => by subst hq; rw [hy.float] at hfi; cases hfi
        have := (hy.other i _ hoi hne).1
        rw [dOf_some hy.at_ hy.dst] at hdj
        subst hdj
        exact this hd
      have hvar := henv.var d
      rw [maskE_look, if_neg hdU, hlook, (h1 i hi (hlst i hi)).1] at hvar
      rw [hdo]
      generalize a.tmps.getD d undef = u at hvar
      cases hvar
      refine .ptr ?_
      show (K.ι ++ (fidx fl s b).map blk)[A.boxes.length + k]? = some (blk i)
      rw [← hsat.nbox, List.getElem?_append_right (by omega), Nat.add_sub_cancel_left, List.getElem?_map, hk]; rfl

/-- one operation where something is said of less: the step goes on from both -/
theorem aStep_sound2 {n : Nat} {full : List Oper} {o : Oper} {e1 e2 : Env} {A : AState} {next : Env → AState → Prop} {Q : AExit → Env → AState → Prop} (hs : aStep P n o e1 A next Q) (hl : ∀ t ∈ looksAt full o, e1.look t = e2.look t) (hds : e2.ds = e1.ds)
    {K0 K : Kw} {w : World} {a : Act} (hK : K0.le K) (h : Sat K A w) (he : EnvR K n e2 a) {Kc : Act → World → Prop} {L : Exit → Act → World → Prop}
    (hpan : ∀ K' A' w' v u, K.le K' → Sat K' A' w' → EnvR K' n e2 a → K'.V v u → Q (.panic v) e1 A' → L (.panic [{ v := u, recovered := false }]) a w')
    (hnext : ∀ K' v ds A' a' w', K.le K' → Sat K' A' w' → EnvR K' n ({ e2 with ds := ds }.put o.dst v) a' → next ({ e1 with ds := ds }.put o.dst v) A' → Kc a' w') : o.wp P a w Kc L := by
  obtain ⟨hd, hs⟩ := hs
  have hok := aOp_ok (P := P) h he o
  have hcg : aOp P e1 A o.op o.type = aOp P e2 A o.op o.type := aOp_congr fun x hx => ev_congr fun t ht => hl t (by
    subst ht
    simp only [looksAt, List.mem_append, List.mem_filterMap]
    exact .inl ⟨_, hx, rfl⟩)
  rw [← hcg] at hok
  have e1eq : ({ e1 with ds := e1.ds } : Env) = e1 := rfl
  have e2eq : ({ e2 with ds := e1.ds } : Env) = e2 := by rw [← hds]
  unfold Oper.wp
  generalize aOp P e1 A o.op o.type = r at hs hok
  cases r with
  | next v A' =>
    obtain ⟨K', u, w', hr, h1, h2, h3⟩ := hok
    rw [hr]
    exact hnext K' v e1.ds A' _ w' h1 h2 (by rw [e2eq]; exact (he.mono h1).put hd h3) hs
  | skip A' =>
    obtain ⟨K', w', hr, h1, h2⟩ := hok
    rw [hr]
    exact hnext K' .top e1.ds A' _ w' h1 h2 (by rw [e2eq]; exact (he.mono h1).put hd (.top _)) hs
  | pan v =>
    obtain ⟨u, hr, h1⟩ := hok
    rw [hr]
    exact hpan K A w v u (.refl K) h he h1 hs
  | call k args =>
    obtain ⟨vals, hr, hv⟩ := hok
    rcases hs with hs | hs
    case inr =>
      obtain ⟨u, w', hrun, hpost⟩ := hs K w vals h hv
      rw [hr, hrun]
      obtain ⟨K', A', v, h1, h2, h3, h4⟩ := hpost
      exact hnext K' v e1.ds A' _ w' h1 h2 (by rw [e2eq]; exact (he.mono h1).put hd h3) h4
    rw [hr, run_callFunc_body hs.1]
    refine (hs.2 K w vals h hv).mono fun e w' hpost => ?_
    cases e with
    | returned u =>
      obtain ⟨K', A', v, h1, h2, h3, h4⟩ := hpost
      exact hnext K' v e1.ds A' _ w' h1 h2 (by rw [e2eq]; exact (he.mono h1).put hd h3) h4
    | panicked chain =>
      obtain ⟨K', A', v, u, h1, h2, h3, h4, h5⟩ := hpost
      subst h4
      exact hpan K' A' w' v u h1 h2 (he.mono h1) h3 h5
    | outgrown => exact hpost.elim
  | defer f caps =>
    obtain ⟨d, hr, h1⟩ := hok
    rw [hr]
    have he' : EnvR K n { e2 with ds := (f, caps) :: e1.ds } { a with defers := d :: a.defers } := by
      have hdd := he.defs
      rw [hds] at hdd
      refine ⟨he.size, he.var, ?_⟩
      refine ⟨by simp [hdd.1], fun j x dd hx hd' => ?_⟩
      cases j with
      | zero => exact h1.2 0 x dd (by simpa using hx) (by simpa using hd')
      | succ j => exact hdd.2 j x dd (by simpa using hx) (by simpa using hd')
    exact hnext K .top ((f, caps) :: e1.ds) A _ w (.refl K) h (he'.put hd (.top _)) hs
  | bad => exact hs.elim

theorem EnvR.weak {K : Kw} {n : Nat} {e1 e2 : Env} {a : Act} (h : EnvR K n e1 a) (hl : ∀ t, e2.look t = e1.look t ∨ e2.look t = .top) (hd : e2.ds = e1.ds) : EnvR K n e2 a :=
  ⟨h.size, fun t => by
    rcases hl t with h1 | h1
    · rw [h1]; exact h.var t
    · rw [h1]; exact .top _, by rw [hd]; exact h.defs⟩

theorem unLag_nil {full : List Oper} {lags : List Nat} {listed : Nat → Bool} (h : ∀ i ∈ lags, listed i = true) : unLag full lags listed = [] := by
  unfold unLag
  rw [List.filter_eq_nil_iff.2 (fun i hi => by rw [h i hi]; simp)]
  rfl

theorem maskE_nil (env : Env) : maskE [] env = env := rfl

theorem draw_sound {n : Nat} {ops : Array Oper} {full : List Oper} (hf : ops.toList = full) {louds fl lags : List Nat} (hok : drawOk full louds lags = true) (hfo : floatsOk full louds fl = true) (hla : lagsOk n full louds fl lags = true) (heb : edgesBack full = true) {Q : AExit → Env → AState → Prop} {K0 : Kw} :
    ∀ (fuel : Nat) (listed : Array Bool) (s b : Nat) (vals : Nat → AV) (css : Nat → List AV) (vS : Nat → AV) (env : Env) (A : AState) (K : Kw) (w : World) (a : Act),
      listed.size = ops.size → unl ops.size listed ≤ fuel → s ≤ b → b ≤ full.length → (b = full.length ∨ (louds.contains b = true ∧ lags.contains b = false)) → (∀ i, s ≤ i → i < b → louds.contains i = false) →
      LagEnv full lags env →
      (∀ (i : Nat) (o : Oper), s ≤ i → i < b → full[i]? = some o → lags.contains i = false → (fl.contains i = false → QFact P n full A o (putsTo full vals (fun j => decide (s ≤ j) && !lags.contains j) env i) (vals i)) ∧
        (fl.contains i = true → floatRes P n o (putsTo full vals (fun j => decide (s ≤ j) && !lags.contains j) env i) A (css i))) →
      aDraw P n full louds fl lags Q b ((fidx fl s b).map fun i => (dOf full i, css i)) (full.drop b) (putsTo full vals (fun j => decide (s ≤ j) && !lags.contains j) env b) A →
      (∀ i, i < s → lags.contains i = false → listed.getD i false = true) → (∀ i, b ≤ i → lags.contains i = false → listed.getD i false = false) →
      (∀ (i : Nat) (o : Oper), full[i]? = some o → listed.getD i false = true → ∀ e ∈ o.after.toList, Region.binds .any e = true → listed.getD e.on false = true) →
      K0.le { K with base := K0.base } → FInv fl s b vals css K0.base (fun i => listed.getD i false) K vS → Sat K A w →
      EnvR K n (maskE (unLag full lags fun i => listed.getD i false) (putsTo full vS (fun j => decide (s ≤ j) && !lags.contains j && listed.getD j false) env full.length)) a →
      wpAny P .any ops (liftQ K0 n Q) fuel listed a w := by
  have hN : ops.size = full.length := by rw [← hf]; simp
  have hget : ∀ i : Nat, ops[i]? = full[i]? := fun i => by rw [← hf]; simp
  have hlg : ∀ i, lags.contains i = true → louds.contains i = false ∧ fl.contains i = false := fun i hi => by
    obtain ⟨x, d, z, hx⟩ := lagsOk_spec hla (i := i) (by simpa using hi)
    exact ⟨hx.loud, hx.float⟩
  have hflag : ∀ i, fl.contains i = true → lags.contains i = false := fun i hi => by
    cases hl : lags.contains i with
    | false => rfl
    | true => rw [(hlg i hl).2] at hi; cases hi
  have hllag : ∀ i, i ∈ lags → lags.contains i = true := fun i hi => by simpa using hi
  have hTabu : ∀ (env env' : Env), LagEnv full lags env → (∀ t, (∀ (j : Nat) (y : Oper), full[j]? = some y → lags.contains j = false → y.dst ≠ some t) → env'.look t = env.look t) → LagEnv full lags env' := by
    intro env env' hl hlook i hi x d z hx hd hz
    obtain ⟨x', d', z', hlx⟩ := lagsOk_spec hla hi
    have hxx : x' = x := by have := hlx.at_; rw [hx] at this; injection this with this; exact this.symm
    subst hxx
    have hdd : d' = d := by have := hlx.dst; rw [hd] at this; injection this with this; exact this.symm
    subst hdd
    have hzz : z' = z := by have := hlx.op; rw [hz] at this; injection this with this; exact this.symm
    subst hzz
    have hne : ∀ j, lags.contains j = false → j ≠ i := fun j hj hq => by subst hq; rw [hllag j hi] at hj; cases hj
    rw [hlook d' (fun j y hy hlj => (hlx.other j y hy (hne j hlj)).1), hl i hi x' d' z' hx hd hz]
    cases z' with
    | tmp t =>
      show env.look t = env'.look t
      exact (hlook t (fun j y hy hlj => (hlx.other j y hy (hne j hlj)).2.1 t rfl)).symm
    | _ => rfl
  -- what a move that comes when it likes gives is not written by anybody else
  have hputL : ∀ (vals : Nat → AV) (S : Nat → Bool) (env : Env) (m : Nat), (∀ j, lags.contains j = true → S j = false) → LagEnv full lags env → LagEnv full lags (putsTo full vals S env m) := by
    intro vals S env m hS hl i hi x d z hx hd hz
    obtain ⟨x', d', z', hlx⟩ := lagsOk_spec hla hi
    have hxx : x' = x := by have := hlx.at_; rw [hx] at this; injection this with this; exact this.symm
    subst hxx
    have hdd : d' = d := by have := hlx.dst; rw [hd] at this; injection this with this; exact this.symm
    subst hdd
    have hzz : z' = z := by have := hlx.op; rw [hz] at this; injection this with this; exact this.symm
    subst hzz
    have h1 : ∀ t, (∀ (j : Nat) (y : Oper), full[j]? = some y → j ≠ i → y.dst ≠ some t) → (putsTo full vals S env m).look t = env.look t := by
      intro t ht
      have h2 : (putsTo full vals S env m).look t = (putsTo full vals (fun _ => false) env m).look t := by
        refine putsTo_congr full vals S _ env t m (fun j hj hdj => ?_)
        by_cases hji : j = i
        · subst hji; exact hS j (hllag j hi)
        · exfalso
          cases hfj : full[j]? with
          | none => rw [hfj] at hdj; cases hdj
          | some y => rw [hfj] at hdj; exact ht j y hfj hji hdj
      have h3 : ∀ m, putsTo full vals (fun _ => false) env m = env := by
        intro m
        induction m with
        | zero => rfl
        | succ m ih => simp only [putsTo, ih]; simp
      rw [h2, h3]
    rw [h1 d' (fun j y hy hne => (hlx.other j y hy hne).1), hl i hi x' d' z' hx hd hz]
    cases z' with
    | tmp t =>
      show env.look t = (putsTo full vals S env m).look t
      exact (h1 t (fun j y hy hne => (hlx.other j y hy hne).2.1 t rfl)).symm
    | _ => rfl
  intro fuel
  induction fuel with
  | zero =>
    intro listed s b vals css vS env A K w a hsz hun hsb hbN hbl hnl hlE hqf hrest hlt hge hdc hK hF hsat henv
    have hall : ∀ i, i < ops.size → listed.getD i false = true := fun i hi => unl_zero (by omega) hi
    have hb : b = full.length := by
      rcases hbl with h | h
      · exact h
      · rcases Nat.lt_or_ge b full.length with hlt' | hge'
        · have := hge b (Nat.le_refl _) h.2; rw [hall b (by omega)] at this; cases this
        · omega
    subst hb
    unfold wpAny
    constructor
    · cases hr : Region.ready .any ops listed with
      | nil => rfl
      | cons i l =>
        have hm := mem_ready hsz (i := i) (by rw [hr]; simp)
        rw [hall i hm.1] at hm
        cases hm.2.1
    · rw [List.drop_length] at hrest
      obtain ⟨K2, g1, g2, g3⟩ := flush_ok hfo hla hbN hnl (fun i hi _ => hall i (by omega)) hge hK hF hsat henv
      rw [unLag_nil (fun i hi => hall i (by rw [hN]; obtain ⟨x, d, z, hx⟩ := lagsOk_spec hla hi; exact (List.getElem?_eq_some_iff.1 hx.at_).1)), maskE_nil] at g3
      exact ⟨K2, _, _, g1, g2, g3, hrest⟩
  | succ fuel ih =>
    intro listed s b vals css vS env A K w a hsz hun hsb hbN hbl hnl hlE hqf hrest hlt hge hdc hK hF hsat henv
    unfold wpAny
    constructor
    · intro hr
      have hall := ready_least hf heb hsz hr
      have hb : b = full.length := by
        rcases hbl with h | h
        · exact h
        · rcases Nat.lt_or_ge b full.length with hlt' | hge'
          · have := hge b (Nat.le_refl _) h.2; rw [hall b (by omega)] at this; cases this
          · omega
      subst hb
      rw [List.drop_length] at hrest
      obtain ⟨K2, g1, g2, g3⟩ := flush_ok hfo hla hbN hnl (fun i hi _ => hall i (by omega)) hge hK hF hsat henv
      rw [unLag_nil (fun i hi => hall i (by rw [hN]; obtain ⟨x, d, z, hx⟩ := lagsOk_spec hla hi; exact (List.getElem?_eq_some_iff.1 hx.at_).1)), maskE_nil] at g3
      exact ⟨K2, _, _, g1, g2, g3, hrest⟩
    · intro i hir
      obtain ⟨hiN, hiu, hie⟩ := mem_ready hsz hir
      have hil : i < full.length := by omega
      have hoi := List.getElem?_eq_getElem hil
      generalize hfo2 : full[i] = o at hoi
      -- what is listed, with this one
      have hset : ∀ j, j ≠ i → (listed.setIfInBounds i true).getD j false = listed.getD j false := by
        intro j hj
        simp only [Array.getD_eq_getD_getElem?, Array.getElem?_setIfInBounds_ne (Ne.symm hj)]
      have hself : (listed.setIfInBounds i true).getD i false = true := by
        simp [Array.getD_eq_getD_getElem?, hsz, hiN]
      have hdc' : ∀ (j : Nat) (y : Oper), full[j]? = some y → (listed.setIfInBounds i true).getD j false = true → ∀ e ∈ y.after.toList, Region.binds .any e = true → (listed.setIfInBounds i true).getD e.on false = true := by
        intro j y hy hj e he hbd
        have h1 : listed.getD e.on false = true := by
          by_cases hji : j = i
          · subst hji; exact hie y (by rw [hget]; exact hy) e he hbd
          · rw [hset j hji] at hj; exact hdc j y hy hj e he hbd
        by_cases hei : e.on = i
        · rw [hei]; exact hself
        · rw [hset _ hei]; exact h1
      have hbef : ∀ j, ((beforeL full).getD i 0).testBit j = true → j ≠ i → listed.getD j false = true := by
        intro j hb hji
        have := before_listed full (fun k => (listed.setIfInBounds i true).getD k false) hdc' i j hself hb
        rwa [hset j hji] at this
      have hbef2 : ∀ j, ((beforeL full).getD j 0).testBit i = true → listed.getD j false = false := by
        intro j hb
        cases hj : listed.getD j false with
        | false => rfl
        | true =>
          have := before_listed full (fun k => listed.getD k false) hdc j i hj hb
          rw [hiu] at this; cases this
      have hcnt := unl_set hsz hiN hiu
      have hsz' : (listed.setIfInBounds i true).size = ops.size := by simpa using hsz
      by_cases hilag : lags.contains i = true
      · -- a move that comes when it likes
        have him : i ∈ lags := by simpa using hilag
        obtain ⟨x, d, z, hlx⟩ := lagsOk_spec hla him
        have hxo : x = o := by have := hlx.at_; rw [hoi] at this; injection this with this; exact this.symm
        subst hxo
        have hlE2 := hputL vS (fun j => decide (s ≤ j) && !lags.contains j && listed.getD j false) env full.length (fun j hj => by rw [hj]; simp) hlE
        have hz := hlE2 i him x d z hoi hlx.dst hlx.op
        have hev : ev (maskE (unLag full lags fun i => listed.getD i false) (putsTo full vS (fun j => decide (s ≤ j) && !lags.contains j && listed.getD j false) env full.length)) z = ev (putsTo full vS (fun j => decide (s ≤ j) && !lags.contains j && listed.getD j false) env full.length) z := by
          cases z with
          | tmp t =>
            show (maskE _ _).look t = _
            rw [maskE_look, if_neg]
            · rfl
            · intro hm
              obtain ⟨j, hj, _, hdj⟩ := mem_unLag.1 hm
              obtain ⟨y, d', z', hy⟩ := lagsOk_spec hla hj
              rw [dOf_some hy.at_ hy.dst] at hdj
              subst hdj
              by_cases hji : j = i
              · subst hji
                have h1 := hy.at_
                rw [hoi] at h1
                injection h1 with h1
                subst h1
                have h2 := hy.dst
                rw [hlx.dst] at h2
                injection h2 with h2
                exact hlx.self _ rfl h2.symm
              · exact (hlx.other j y hy.at_ hji).2.1 _ rfl hy.dst
          | _ => rfl
        unfold Go.wpOp
        rw [hget, hoi]
        simp only
        rw [if_pos (by simp [Region.wanted, hlx.guard])]
        refine .inl ?_
        have hres := aOp_ok (P := P) hsat henv x
        rw [hlx.op] at hres
        simp only [aOp] at hres
        obtain ⟨K', u, w', hrun, h1, h2, h3⟩ := hres
        unfold Oper.wp
        rw [hrun]
        rw [hev, ← hz] at h3
        refine ih (listed.setIfInBounds i true) s b vals css vS env A K' w' _ hsz' (by omega) hsb hbN hbl hnl hlE hqf hrest ?_ ?_ hdc' ⟨hK.ext.trans h1.ext, hK.pre.trans h1.pre, rfl⟩ (hF.mono h1 fun j hj => ?_) h2 ?_
        · intro j hj hlj; rw [hset j (fun hq => by subst hq; rw [hilag] at hlj; cases hlj)]; exact hlt j hj hlj
        · intro j hj hlj; rw [hset j (fun hq => by subst hq; rw [hilag] at hlj; cases hlj)]; exact hge j hj hlj
        · exact hset j fun hq => by subst hq; have := hflag j (mem_fidx.1 hj).2.2; rw [hilag] at this; cases this
        · have hS : putsTo full vS (fun j => decide (s ≤ j) && !lags.contains j && (listed.setIfInBounds i true).getD j false) env full.length = putsTo full vS (fun j => decide (s ≤ j) && !lags.contains j && listed.getD j false) env full.length := by
            refine putsTo_S full vS _ _ env _ fun j hj => ?_
            by_cases hji : j = i
            · subst hji; rw [hilag]; simp
            · rw [hset j hji]
          rw [hS]
          refine ((henv.mono h1).put (d := x.dst) (by rw [hlx.dst]; simpa [dstOk] using hlx.dn) h3).weak (fun t => ?_) (by rw [put_ds, maskE_ds, maskE_ds])
          rw [maskE_look, put_look, maskE_look, hlx.dst]
          by_cases hU : t ∈ unLag full lags fun i_1 => (listed.setIfInBounds i true).getD i_1 false
          · right; rw [if_pos hU]
          · left
            rw [if_neg hU]
            by_cases htd : d = t
            · subst htd; rw [if_pos rfl]
            · rw [if_neg (fun hq => htd (by injection hq)), if_neg]
              intro hm
              obtain ⟨j, hj, hlj, hdj⟩ := mem_unLag.1 hm
              refine hU (mem_unLag.2 ⟨j, hj, ?_, hdj⟩)
              have hji : j ≠ i := fun hq => by subst hq; rw [dOf_some hoi hlx.dst] at hdj; exact htd hdj
              exact (hset j hji).trans hlj
      · -- all others
        have hilf : lags.contains i = false := by simpa using hilag
        have hsi : s ≤ i := by
          rcases Nat.lt_or_ge i s with h | h
          · rw [hlt i h hilf] at hiu; cases hiu
          · exact h
        have hUeq : unLag full lags (fun j => (listed.setIfInBounds i true).getD j false) = unLag full lags (fun j => listed.getD j false) := by
          unfold unLag
          congr 1
          refine List.filter_congr fun j hj => ?_
          exact congrArg Bool.not (hset j (fun hq => by subst hq; rw [hllag j hj] at hilf; cases hilf))
        -- it looks at none that has not come
        have hUlook : ∀ t ∈ looksAt full o, t ∉ unLag full lags (fun j => listed.getD j false) := by
          intro t ht hm
          obtain ⟨j, hj, hlj, hdj⟩ := mem_unLag.1 hm
          obtain ⟨y, d, z, hy⟩ := lagsOk_spec hla hj
          have hij : i ≠ j := fun hq => by subst hq; rw [hllag i hj] at hilf; cases hilf
          rw [dOf_some hy.at_ hy.dst] at hdj
          subst hdj
          have := hbef j ((hy.other i o hoi hij).2.2 ht) (Ne.symm hij)
          rw [this] at hlj; cases hlj
        by_cases hib : i < b
        · -- a quiet one, or one that is put off
          have hlook : ∀ t ∈ looksAt full o, (putsTo full vals (fun j => decide (s ≤ j) && !lags.contains j) env i).look t = (maskE (unLag full lags fun j => listed.getD j false) (putsTo full vS (fun j => decide (s ≤ j) && !lags.contains j && listed.getD j false) env full.length)).look t := by
            intro t ht
            rw [maskE_look, if_neg (hUlook t ht)]
            rw [← putsTo_bound full vals (fun j => decide (s ≤ j) && !lags.contains j) env i full.length (Nat.le_of_lt hil)]
            refine putsTo_congr2 full vals vS _ _ env t _ (fun j hj hd => ?_)
            cases hlj : lags.contains j with
            | true => simp
            | false =>
            cases hfj : full[j]? with
            | none => rw [hfj] at hd; cases hd
            | some y =>
              rw [hfj] at hd
              simp only [Option.bind_some] at hd
              have hty : touches full y o = true := by
                simp only [touches, hd, Bool.or_eq_true]
                exact .inl (by simpa using ht)
              refine ⟨?_, fun hS => ?_⟩
              · rcases Nat.lt_trichotomy j i with hji | rfl | hji
                · rcases drawOk_spec hok hji hfj hoi hlj hilf with hb | ⟨h1, _⟩
                  · rw [hbef j hb (by omega)]; simp [hji]
                  · rw [hty] at h1; cases h1
                · rw [hiu]; simp
                · rcases drawOk_spec hok hji hoi hfj hilf hlj with hb | ⟨_, h1, _⟩
                  · rw [hbef2 j hb]; simp; intro _; omega
                  · rw [hty] at h1; cases h1
              · refine (hF.1 j ?_).symm
                cases hflj : fl.contains j with
                | false => rfl
                | true =>
                  exfalso
                  simp only [Bool.and_eq_true, decide_eq_true_eq] at hS
                  have := (floatsOk_spec hfo hflj hfj).2.2.2 i o hoi (by omega) (hnl i hsi hib)
                  rw [hty] at this; cases this
          have hlt' : ∀ j, j < s → lags.contains j = false → (listed.setIfInBounds i true).getD j false = true := by
            intro j hj hlj; by_cases hji : j = i
            · subst hji; exact hself
            · rw [hset j hji]; exact hlt j hj hlj
          have hge' : ∀ j, b ≤ j → lags.contains j = false → (listed.setIfInBounds i true).getD j false = false := by
            intro j hj hlj; rw [hset j (by omega)]; exact hge j hj hlj
          -- what the values are with this one
          have henv' : ∀ (K' : Kw) (a' : Act) (v : AV) (vS' : Nat → AV), vS' i = v → (∀ j, j ≠ i → vS' j = vS j) → EnvR K' n ((maskE (unLag full lags fun j => listed.getD j false) (putsTo full vS (fun j => decide (s ≤ j) && !lags.contains j && listed.getD j false) env full.length)).put o.dst v) a' →
              EnvR K' n (maskE (unLag full lags fun j => (listed.setIfInBounds i true).getD j false) (putsTo full vS' (fun j => decide (s ≤ j) && !lags.contains j && (listed.setIfInBounds i true).getD j false) env full.length)) a' := by
            intro K' a' v vS' hvi hvj h3
            rw [hUeq]
            refine h3.weak (fun t => ?_) ?_
            · rw [put_look, maskE_look, maskE_look]
              by_cases hU : t ∈ unLag full lags fun j => listed.getD j false
              · right; rw [if_pos hU]
              · left
                rw [if_neg hU, if_neg hU]
                by_cases hdt : o.dst = some t
                · rw [if_pos hdt, ← hvi]
                  refine putsTo_last full vS' _ env (i := i) (by simp only [hself, hilf]; simp [hsi]) (by rw [hoi]; exact hdt) full.length hil (fun j hji hjl hd => ?_)
                  cases hlj : lags.contains j with
                  | true => simp
                  | false =>
                  rw [hset j (by omega)]
                  cases hfj : full[j]? with
                  | none => rw [hfj] at hd; cases hd
                  | some y =>
                    rw [hfj] at hd
                    simp only [Option.bind_some] at hd
                    have hty : touches full o y = true := by simp [touches, hdt, hd]
                    rcases drawOk_spec hok hji hoi hfj hilf hlj with hb | ⟨h1, _⟩
                    · rw [hbef2 j hb]; simp
                    · rw [hty] at h1; cases h1
                · rw [if_neg hdt]
                  refine putsTo_congr2 full vS' vS _ _ env t _ (fun j hj hd => ?_)
                  have hji : j ≠ i := by
                    rintro rfl
                    rw [hoi] at hd
                    exact hdt hd
                  rw [hset j hji]
                  exact ⟨rfl, fun _ => hvj j hji⟩
            · rw [put_ds, maskE_ds, maskE_ds, putsTo_ds, putsTo_ds]
          by_cases hfi : fl.contains i = true
          · -- put off
            have hq := ((hqf i o hsi hib hoi hilf).2 hfi).congr hlook
            obtain ⟨hgd, ⟨d, hd⟩, _, _⟩ := floatsOk_spec hfo hfi hoi
            have himem : i ∈ fidx fl s b := mem_fidx.2 ⟨hsi, hib, hfi⟩
            unfold Go.wpOp
            rw [hget, hoi]
            simp only
            rw [if_pos (by simp [Region.wanted, hgd])]
            refine .inl ?_
            have hres := aOp_ok (P := P) hsat henv o
            rw [hq.2] at hres
            obtain ⟨K', u, w', hrun, h1, h2, h3⟩ := hres
            unfold Oper.wp
            rw [hrun]
            obtain ⟨bn, arr, ty, f1, f2, f3, f4, f5, f6⟩ := h2.freeze
            have hpre : K.ι <+: K'.ι.take A.boxes.length := prefix_take h1.pre (by rw [hsat.nbox]; exact Nat.le_refl _)
            have hu : u = .pointer (some ⟨bn, 0, none⟩) := by
              cases h3 with
              | ptr hb => rw [f1] at hb; injection hb with hb; subst hb; rfl
            obtain ⟨hv, blk, g1, g2, g3, g4⟩ := hF
            have hbn : ∀ j, j ∈ fidx fl s b → listed.getD j false = true → blk j ≠ bn := by
              intro j hj hlj hq
              obtain ⟨_, _, _, _, g4, _⟩ := g1 j hj hlj
              rw [hq, h1.base, f3] at g4
              cases g4
            have hlj : ∀ j, j ≠ i → (listed.setIfInBounds i true).getD j false = true → listed.getD j false = true := fun j hj h => by rw [hset j hj] at h; exact h
            let vS' : Nat → AV := fun j => if j = i then .val u else vS j
            let blk' : Nat → Nat := fun j => if j = i then bn else blk j
            refine ih (listed.setIfInBounds i true) s b vals css vS' env A { K' with ι := K'.ι.take A.boxes.length, base := baseSet K'.base bn (some (.cells arr ty (0, 0), true)) } w' _ hsz' (by omega) hsb hbN hbl hnl hlE hqf hrest hlt' hge' hdc' ⟨hK.ext.trans h1.ext, hK.pre.trans hpre, rfl⟩ ?_ f6 (henv' _ _ (.val u) vS' (by simp [vS']) (fun j hj => by simp [vS', hj]) ?_)
            · refine ⟨fun j hj => ?_, blk', fun j hj hlj' => ?_, fun j k hj hk hlj' hlk' hq => ?_, fun b' hb' => ?_, by show K'.base.os = _; rw [← h1.base]; exact g4.1, by show K'.base.out = _; rw [← h1.base]; exact g4.2⟩
              · have hji : j ≠ i := fun hq => by subst hq; rw [hfi] at hj; cases hj
                simp only [vS', if_neg hji]
                exact hv j hj
              · by_cases hji : j = i
                · subst hji
                  simp only [vS', blk', if_true, hu]
                  refine ⟨trivial, ?_, arr, ty, baseSet_self _ _ _, f4, f5⟩
                  have h8 := g3 bn fun k hk hlk => hbn k hk hlk
                  rw [← h8, h1.base]; exact f3
                · obtain ⟨e1, e2, arr', ty', e3, e4, e5⟩ := g1 j hj (hlj j hji hlj')
                  simp only [vS', blk', if_neg hji]
                  refine ⟨e1, e2, arr', ty', ?_, e4, fun k c u hc hu => V.mono h1.ext (e5 k c u hc hu) hpre⟩
                  rw [baseSet_ne _ _ (hbn j hj (hlj j hji hlj')), ← h1.base]
                  exact e3
              · simp only [blk'] at hq
                by_cases hji : j = i <;> by_cases hki : k = i
                · rw [hji, hki]
                · rw [if_pos hji, if_neg hki] at hq
                  exact absurd hq.symm (hbn k hk (hlj k hki hlk'))
                · rw [if_neg hji, if_pos hki] at hq
                  exact absurd hq (hbn j hj (hlj j hji hlj'))
                · rw [if_neg hji, if_neg hki] at hq
                  exact g2 j k hj hk (hlj j hji hlj') (hlj k hki hlk') hq
              · have hne : b' ≠ bn := by
                  have := hb' i himem hself
                  simp only [blk', if_true] at this
                  exact fun hq => this hq.symm
                simp only
                rw [baseSet_ne _ _ hne, ← h1.base]
                refine g3 b' fun j hj hlj' => ?_
                have hji : j ≠ i := fun hq => by subst hq; exact Bool.noConfusion (hiu.symm.trans hlj')
                have := hb' j hj ((hset j hji).trans hlj')
                simpa [blk', hji] using this
            · have he1 : EnvR { K' with ι := K'.ι.take A.boxes.length, base := baseSet K'.base bn (some (.cells arr ty (0, 0), true)) } n (maskE (unLag full lags fun j => listed.getD j false) (putsTo full vS (fun j => decide (s ≤ j) && !lags.contains j && listed.getD j false) env full.length)) a := by
                have hle : K.le { K' with ι := K'.ι.take A.boxes.length } := ⟨h1.ext, hpre, h1.base⟩
                have he2 := henv.mono hle
                exact ⟨he2.size, he2.var, he2.defs⟩
              exact he1.put hq.1 (.val _)
          · -- a quiet one
            have hfi' : fl.contains i = false := by simpa using hfi
            have hq := (hqf i o hsi hib hoi hilf).1 hfi'
            refine (hq.congr hlook).wpOp hf hoi hsat henv (fun K' w' a' h1 h2 h3 => ?_)
            refine ih (listed.setIfInBounds i true) s b vals css vS env A K' w' a' hsz' (by omega) hsb hbN hbl hnl hlE hqf hrest hlt' hge' hdc' ⟨hK.ext.trans h1.ext, hK.pre.trans h1.pre, rfl⟩ (hF.mono h1 fun j hj => ?_) h2 (henv' K' a' (vals i) vS (hF.1 i hfi') (fun _ _ => rfl) h3)
            exact hset j fun hq => by subst hq; exact hfi (mem_fidx.1 hj).2.2
        · -- a loud one: all ahead of it are listed
          have hbl' : b < full.length := by omega
          have hlb : louds.contains b = true ∧ lags.contains b = false := by rcases hbl with h | h
                                                                             · omega
                                                                             · exact h
          have hieq : i = b := by
            rcases Nat.lt_or_ge b i with h | h
            · exfalso
              rcases drawOk_spec hok h (List.getElem?_eq_getElem hbl') hoi hlb.2 hilf with hb | ⟨_, _, h1, _⟩
              · have := hbef b hb (by omega); rw [hge b (Nat.le_refl _) hlb.2] at this; cases this
              · rw [hlb.1] at h1; cases h1
            · omega
          subst hieq
          have hallb : ∀ j, j < i → lags.contains j = false → listed.getD j false = true := by
            intro j hj hlj
            rcases drawOk_spec hok hj (List.getElem?_eq_getElem (by omega)) hoi hlj hilf with hb | ⟨_, _, _, h1⟩
            · exact hbef j hb (by omega)
            · rw [hlb.1] at h1; cases h1
          obtain ⟨K2, hK2, hsat2, henv2⟩ := flush_ok hfo hla hbN hnl hallb hge hK hF hsat henv
          have hdrop : full.drop i = full[i] :: full.drop (i + 1) := List.drop_eq_getElem_cons hil
          rw [hdrop, hfo2] at hrest
          have hlE1 := hputL vals (fun j => decide (s ≤ j) && !lags.contains j) env i (fun j hj => by rw [hj]; simp) hlE
          have hlE2 : LagEnv full lags (flushEnv ((fidx fl s i).map fun i => (dOf full i, css i)) A.boxes.length (putsTo full vals (fun j => decide (s ≤ j) && !lags.contains j) env i)) := by
            refine hTabu _ _ hlE1 fun t ht => ?_
            refine flushEnv_look _ _ _ t fun p hp => ?_
            obtain ⟨j, hj, rfl⟩ := List.mem_map.1 hp
            obtain ⟨hsj, hjb, hfj⟩ := mem_fidx.1 hj
            have hoj := List.getElem?_eq_getElem (show j < full.length by omega)
            obtain ⟨_, ⟨d, hd⟩, _, _⟩ := floatsOk_spec hfo hfj hoj
            have := ht j _ hoj (hflag j hfj)
            intro hq
            simp only at hq
            rw [dOf_some hoj hd] at hq
            subst hq
            exact this hd
          simp only [aDraw, hlb.1, hlb.2, Bool.false_eq_true, if_true, if_false] at hrest
          generalize flushEnv ((fidx fl s i).map fun i => (dOf full i, css i)) A.boxes.length (putsTo full vals (fun j => decide (s ≤ j) && !lags.contains j) env i) = E1 at hrest henv2 hlE2
          generalize flushA ((fidx fl s i).map fun i => (dOf full i, css i)) A = A1 at hrest hsat2
          have hlk : ∀ t ∈ looksAt full o, E1.look t = (maskE (unLag full lags fun j => listed.getD j false) E1).look t := fun t ht => by rw [maskE_look, if_neg (hUlook t ht)]
          -- what follows
          have next : ∀ (K' : Kw) (v : AV) (ds : List (FuncId × List AV)) (A' : AState) (a' : Act) (w' : World), K2.le K' → Sat K' A' w' → EnvR K' n ({ maskE (unLag full lags fun j => listed.getD j false) E1 with ds := ds }.put o.dst v) a' → aDraw P n full louds fl lags Q (i + 1) [] (full.drop (i + 1)) ({ E1 with ds := ds }.put o.dst v) A' →
              wpAny P .any ops (liftQ K0 n Q) fuel (listed.setIfInBounds i true) a' w' := by
            intro K' v ds A' a' w' h1 h2 h3 h4
            have hKK := hK2.trans h1
            have hlE3 : LagEnv full lags ({ E1 with ds := ds }.put o.dst v) := by
              refine hTabu _ _ hlE2 fun t ht => ?_
              rw [put_look, if_neg (ht i o hoi hilf)]; rfl
            obtain ⟨b', g1, g2, g3, g4, vals', css', g5, g6⟩ := seg_extract hlg (full.drop (i + 1)) (i + 1) [] _ rfl (by omega) h4
            have hge2 : ∀ j, i + 1 ≤ j → lags.contains j = false → (listed.setIfInBounds i true).getD j false = false := fun j hj hlj => by rw [hset j (by omega)]; exact hge j (by omega) hlj
            refine ih (listed.setIfInBounds i true) (i + 1) b' vals' css' vals' _ A' K' w' a' hsz' (by omega) g1 g2 g3 g4 hlE3 g5 (by simpa using g6) ?_ ?_ hdc' ⟨hKK.ext, hKK.pre, rfl⟩ ?_ h2 (h3.weak (fun t => ?_) ?_)
            · intro j hj hlj
              by_cases hji : j = i
              · subst hji; exact hself
              · rw [hset j hji]; exact hallb j (by omega) hlj
            · intro j hj hlj; exact hge2 j (by omega) hlj
            · refine ⟨fun _ _ => rfl, fun _ => 0, fun j hj hlj => ?_, fun j k hj _ hlj => ?_, fun b' _ => by rw [hKK.base], by rw [hKK.base], by rw [hKK.base]⟩
              · exact Bool.noConfusion ((hge2 j (mem_fidx.1 hj).1 (hflag j (mem_fidx.1 hj).2.2)).symm.trans hlj)
              · exact Bool.noConfusion ((hge2 j (mem_fidx.1 hj).1 (hflag j (mem_fidx.1 hj).2.2)).symm.trans hlj)
            · have : ∀ (env' : Env) (m : Nat), putsTo full vals' (fun j => decide (i + 1 ≤ j) && !lags.contains j && (listed.setIfInBounds i true).getD j false) env' m = env' := by
                intro env' m
                have hS : putsTo full vals' (fun j => decide (i + 1 ≤ j) && !lags.contains j && (listed.setIfInBounds i true).getD j false) env' m = putsTo full vals' (fun _ => false) env' m := by
                  refine putsTo_S full vals' _ _ env' m fun j _ => ?_
                  cases hlj : lags.contains j with
                  | true => simp
                  | false =>
                    by_cases hij : i + 1 ≤ j
                    · rw [hge2 j hij hlj]; simp
                    · simp [hij]
                rw [hS]
                clear hS
                induction m with
                | zero => rfl
                | succ m ihm => simp only [putsTo, ihm]; simp
              rw [this, hUeq, maskE_look, put_look, put_look]
              by_cases hU : t ∈ unLag full lags fun j => listed.getD j false
              · right; rw [if_pos hU]
              · left
                rw [if_neg hU]
                by_cases hdt : o.dst = some t
                · rw [if_pos hdt, if_pos hdt]
                · rw [if_neg hdt, if_neg hdt]
                  show E1.look t = (maskE _ E1).look t
                  rw [maskE_look, if_neg hU]
            · rw [maskE_ds, putsTo_ds, put_ds, put_ds]
          unfold Go.wpOp
          rw [hget, hoi]
          simp only
          rcases guardA_wanted hf henv2 (guardA_congr hlk id id hrest) with ⟨hw, hy⟩ | ⟨hw, hd, hn⟩
          · rw [if_pos hw]
            refine .inl (aStep_sound2 hy hlk rfl hK2 hsat2 henv2 (fun K' A' w' v u h1 h2 h3 h4 h5 => ?_) next)
            refine ⟨K', maskE (lags.map (dOf full)) E1, A', v, u, hK2.trans h1, h2, h3.weak (fun t => ?_) rfl, h4, rfl, h5⟩
            rw [maskE_look, maskE_look]
            by_cases hU : t ∈ lags.map (dOf full)
            · right; rw [if_pos hU]
            · left
              rw [if_neg hU, if_neg]
              intro hm
              obtain ⟨j, hj, _, hdj⟩ := mem_unLag.1 hm
              exact hU (List.mem_map.2 ⟨j, hj, hdj⟩)
          · rw [if_neg (by simp [hw])]
            exact next K2 (.val undef) E1.ds _ _ w (.refl K2) hsat2 (henv2.put hd (.val _)) hn

theorem lagEnv_look {n : Nat} {full : List Oper} {louds fl lags : List Nat} (hla : lagsOk n full louds fl lags = true) : ∀ (l : List Nat) (env : Env), (∀ i ∈ l, i ∈ lags) →
    (lagEnv full l env).ds = env.ds ∧ (∀ t, t ∉ l.map (dOf full) → (lagEnv full l env).look t = env.look t) ∧ LagEnv full l (lagEnv full l env)
  | [], env, _ => ⟨rfl, fun _ _ => rfl, fun i hi => by cases hi⟩
  | i :: l, env, hl => by
    obtain ⟨x, d, z, hx⟩ := lagsOk_spec hla (hl i (by simp))
    have hstep : lagEnv full (i :: l) env = lagEnv full l (env.put (some d) (ev env z)) := by
      simp only [lagEnv, hx.at_, hx.dst, hx.op]
    obtain ⟨h1, h2, h3⟩ := lagEnv_look hla l (env.put (some d) (ev env z)) (fun j hj => hl j (by simp [hj]))
    rw [hstep]
    have hdi := dOf_some hx.at_ hx.dst
    -- nobody writes what it looks at, nor writes it but itself
    have hz : ev (lagEnv full l (env.put (some d) (ev env z))) z = ev env z := by
      cases z with
      | tmp t =>
        show (lagEnv full l _).look t = env.look t
        rw [h2 t, put_look, if_neg]
        · intro hq; injection hq with hq; exact hx.self t rfl hq.symm
        · intro hm
          obtain ⟨j, hj, hdj⟩ := List.mem_map.1 hm
          obtain ⟨y, d', z', hy⟩ := lagsOk_spec hla (hl j (by simp [hj]))
          rw [dOf_some hy.at_ hy.dst] at hdj
          subst hdj
          by_cases hji : j = i
          · subst hji
            have e1 := hy.at_; rw [hx.at_] at e1; injection e1 with e1; subst e1
            have e2 := hy.dst; rw [hx.dst] at e2; injection e2 with e2
            exact hx.self _ rfl e2.symm
          · exact (hx.other j y hy.at_ hji).2.1 _ rfl hy.dst
      | _ => rfl
    have hself : (lagEnv full l (env.put (some d) (ev env z))).look d = ev env z := by
      by_cases hm : i ∈ l
      · rw [h3 i hm x d z hx.at_ hx.dst hx.op, hz]
      · rw [h2 d, put_look, if_pos rfl]
        intro hq
        obtain ⟨j, hj, hdj⟩ := List.mem_map.1 hq
        obtain ⟨y, d', z', hy⟩ := lagsOk_spec hla (hl j (by simp [hj]))
        rw [dOf_some hy.at_ hy.dst] at hdj
        subst hdj
        have hji : j ≠ i := fun hq => by subst hq; exact hm hj
        exact (hx.other j y hy.at_ hji).1 hy.dst
    refine ⟨by rw [h1, put_ds], fun t ht => ?_, fun j hj => ?_⟩
    · simp only [List.map_cons, List.mem_cons, not_or] at ht
      rw [h2 t ht.2, put_look, if_neg]
      intro hq; injection hq with hq; exact ht.1 (by rw [hdi]; exact hq.symm)
    · rcases List.mem_cons.1 hj with rfl | hj
      · intro x' d' z' g1 g2 g3
        rw [hx.at_] at g1; injection g1 with g1; subst g1
        rw [hx.dst] at g2; injection g2 with g2; subst g2
        rw [hx.op] at g3; injection g3 with g3; subst g3
        rw [hself, hz]
      · exact h3 j hj

/-- a region that draws its order -/
theorem aw_draw {n id : Nat} {ops : Array Oper} {env : Env} {A : AState} {Q : AExit → Env → AState → Prop} (louds fl lags : List Nat) (hm : P.follows .mixedOrders = true) (hok : (drawOk ops.toList louds lags && edgesBack ops.toList && floatsOk ops.toList louds fl && lagsOk n ops.toList louds fl lags) = true)
    (h : aDraw P n ops.toList louds fl lags Q 0 [] ops.toList (lagEnv ops.toList lags env) A) : AW P n (.region id ops true) env A Q := by
  intro K w a hs he
  simp only [Bool.and_eq_true] at hok
  obtain ⟨⟨⟨hok1, hok2⟩, hok3⟩, hok4⟩ := hok
  refine wp_region_any hm ?_
  have hlg : ∀ i, lags.contains i = true → louds.contains i = false ∧ fl.contains i = false := fun i hi => by
    obtain ⟨x, d, z, hx⟩ := lagsOk_spec hok4 (i := i) (by simpa using hi)
    exact ⟨hx.loud, hx.float⟩
  obtain ⟨e1, e2, e3⟩ := lagEnv_look hok4 lags env (fun _ h => h)
  obtain ⟨b, h1, h2, h3, h4, vals, css, h5, h6⟩ := seg_extract hlg ops.toList 0 [] _ rfl (Nat.zero_le _) h
  have hz : ∀ i, (Array.replicate ops.size false).getD i false = false := by
    intro i
    simp only [Array.getD_eq_getD_getElem?, Array.getElem?_replicate]
    split <;> rfl
  refine draw_sound rfl hok1 hok3 hok4 hok2 ops.size _ 0 b vals css vals _ A K _ a (by simp) ?_ h1 h2 h3 h4 e3 h5 (by simpa using h6) (fun i hi => by omega) (fun i _ _ => hz i) (fun i o _ hl => by rw [hz] at hl; cases hl) ⟨.refl _ _, List.prefix_refl _, rfl⟩ ?_ hs.drew ?_
  · unfold unl
    exact Nat.le_trans List.countP_le_length (by simp)
  · refine ⟨fun _ _ => rfl, fun _ => 0, fun j hj hlj => ?_, fun j k hj _ hlj => ?_, fun b' _ => rfl, rfl, rfl⟩
    · exact Bool.noConfusion ((hz j).symm.trans hlj)
    · exact Bool.noConfusion ((hz j).symm.trans hlj)
  · have : ∀ (env' : Env) (m : Nat), putsTo ops.toList vals (fun j => decide (0 ≤ j) && !lags.contains j && (Array.replicate ops.size false).getD j false) env' m = env' := by
      intro env' m
      have hS : putsTo ops.toList vals (fun j => decide (0 ≤ j) && !lags.contains j && (Array.replicate ops.size false).getD j false) env' m = putsTo ops.toList vals (fun _ => false) env' m := by
        refine putsTo_S _ vals _ _ env' m fun j _ => ?_
        rw [hz]; simp
      rw [hS]
      clear hS
      induction m with
      | zero => rfl
      | succ m ihm => simp only [putsTo, ihm]; simp
    rw [this]
    refine he.weak (fun t => ?_) (by rw [maskE_ds, e1])
    rw [maskE_look]
    by_cases hU : t ∈ unLag ops.toList lags fun i => (Array.replicate ops.size false).getD i false
    · right; rw [if_pos hU]
    · left
      rw [if_neg hU]
      refine e2 t fun hm => hU ?_
      obtain ⟨j, hj, hdj⟩ := List.mem_map.1 hm
      exact mem_unLag.2 ⟨j, hj, hz j, hdj⟩

end
end Go.Ab
