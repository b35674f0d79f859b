/- One operation told by abstract values; regions in the order of the text; calls by their contracts. -/
import Derived.Test.YtchckkcigemajaaGreatDoorGxA7
namespace Go.Ab
set_option linter.unusedVariables false
set_option linter.unusedSimpArgs false
section
variable {P : Program}

theorem replicate_pair {zs : List AV} {us : List Value} (hl : us.length = zs.length) : ∀ (n j : Nat) (c : AV) (u : Value), ((List.replicate n zs).flatten)[j]? = some c → ((List.replicate n us).flatten)[j]? = some u → ∃ k : Nat, zs[k]? = some c ∧ us[k]? = some u
  | 0, j, c, u, h1, h2 => by simp at h1
  | n + 1, j, c, u, h1, h2 => by
    rw [List.replicate_succ, List.flatten_cons] at h1 h2
    by_cases hj : j < zs.length
    · rw [List.getElem?_append_left (by omega)] at h1 h2
      exact ⟨j, h1, h2⟩
    · rw [List.getElem?_append_right (by omega)] at h1 h2
      rw [hl] at h2
      exact replicate_pair hl n _ c u h1 h2

theorem makeSliceA_ok {K : Kw} {A A' : AState} {w : World} (h : Sat K A w) {t : TypeId} {l c : Int} {v : AV} (hm : makeSliceA P A t l c = some (v, A')) :
    ∃ K' y w', (Instr.makeSlice t (.int .i64 l) (.int .i64 c)).run P w = .ok y w' ∧ K.le K' ∧ Sat K' A' w' ∧ K'.V v y := by
  unfold makeSliceA at hm
  split at hm
  case h_2 => cases hm
  rename_i i hinfo
  obtain ⟨e, hel, hi⟩ := Option.bind_eq_some_iff.1 hinfo
  have ht := tyElem_some hel
  split at hm
  case h_2 => cases hm
  rename_i z hz
  split at hm
  case h_2 => cases hm
  rename_i zs hzs
  split at hm
  case isFalse => cases hm
  rename_i hc
  obtain ⟨hl0, hlc, hb, hc47, hzl, hpos, hbel⟩ := hc
  simp only [Option.some.injEq, Prod.mk.injEq] at hm
  obtain ⟨rfl, rfl⟩ := hm
  obtain ⟨us, hus, hul, huV⟩ := cellsOf_ok (S := K.S) (Om := K.Om) (ι := []) (V.ofVal z) hzs
  have hsize : tySize P e = some i.size := by simp [tySize, hi]
  have hzz : tyZero P e = some z := by simp [tyZero, hi, hz]
  have hwl : IntKind.i64.wrap l = l := by simp [IntKind.wrap, IntKind.bits, IntKind.signed]; omega
  have hwc : IntKind.i64.wrap c = c := by simp [IntKind.wrap, IntKind.bits, IntKind.signed]; omega
  have hns : 0 < us.length := by omega
  have hlarge : ¬ ((decide (c < 0) || decide ((i.bytes : Int) * c > 2 ^ 48)) = true) := by
    simp only [Bool.or_eq_true, decide_eq_true_eq, not_or]
    rw [Int.mul_comm] at hb
    omega
  have hcells : ((Array.range (c.toNat * i.size)).map (us.toArray[· % us.toArray.size]!)).toList = (List.replicate c.toNat us).flatten := by
    rw [replicate_flatten_get us, hul, hzl]
    simp only [Array.toList_map, Array.toList_range]
    apply List.map_congr_left
    intro j _
    simp only [List.size_toArray, hul, hzl]
    have : j % i.size < us.length := by rw [hul, hzl]; exact Nat.mod_lt _ hpos
    simp [this]
  have hrun : (Instr.makeSlice t (.int .i64 l) (.int .i64 c)).run P w = .ok (.slice (some ⟨w.heap.size, 0, none⟩) l.toNat c.toNat) (w.alloc (.cells ((Array.range (c.toNat * i.size)).map (us.toArray[· % us.toArray.size]!)) e)) := by
    have h1 : ¬ ((((decide (c < 0) || decide ((i.bytes : Int) * c > 2 ^ 48)) || decide (l < 0)) || decide (l > c)) = true) := by
      simp only [Bool.or_eq_true, decide_eq_true_eq, not_or] at hlarge ⊢
      exact ⟨⟨hlarge, by omega⟩, by omega⟩
    simp only [Instr.makeSlice, Sem.run_bind, run_underlying ht, Result.andThen_ok, asInt, asIntOf, Sem.run_pure, run_typeInfo_some hi, hwl, hwc, if_neg h1, run_askRoom, run_sizeOf_some hsize]
    by_cases h0 : c.toNat * i.size = 0
    · rw [if_pos h0]
      have hr0 : ∀ f : Nat → Value, (Array.range 0).map f = #[] := fun f => Array.eq_empty_of_size_eq_zero (by simp)
      simp only [Sem.run_bind, Sem.run_pure, Result.andThen_ok, newRow, run_newObj, h0, hr0]
      rfl
    · rw [if_neg h0]
      simp only [Sem.run_bind, run_zero_some hzz, Sem.run_pure, Result.andThen_ok, newRow, run_newObj, hus]
      rfl
  obtain ⟨hK, hsat⟩ := Sat.newBox h ((Array.range (c.toNat * i.size)).map (us.toArray[· % us.toArray.size]!)) e (List.replicate c.toNat zs).flatten (by simp [hzl]) (fun j c' u hc' hu => by
    have hu' : ((List.replicate c.toNat us).flatten)[j]? = some u := by rw [← hcells, Array.getElem?_toList]; exact hu
    obtain ⟨k, h1, h2⟩ := replicate_pair hul _ _ _ _ hc' hu'
    exact V.mono (.refl _ _) (huV k c' u h1 h2) List.nil_prefix)
  exact ⟨_, _, _, hrun, hK, hsat, .mslice (by simp [← h.nbox]) (Nat.le_refl _)⟩

/-- s[i] of a text; a[i] of an array's value -/
def indexVA (P : Program) (t : TypeId) (x : AV) (i : Int) : Option AV :=
  match x, P.underlying t with
  | .val (.string s), some .string => if 0 ≤ i then (s[i.toNat]?).map fun b => .val (.int .u8 b.toNat) else none
  | .agg cs, some (.array n e) =>
    match P.underlying e, P.info? e with
    | some d, some inf => if aggD d = false ∧ inf.size = 1 ∧ 0 ≤ i ∧ i < n then cs[i.toNat]? else none
    | _, _ => none
  | _, _ => none

theorem indexVA_ok {K : Kw} {w : World} {t : TypeId} {x : AV} {u : Value} (hx : K.V x u) {k : IntKind} {i : Int} {v : AV} (hi : indexVA P t x i = some v) :
    ∃ y, (Instr.index t u (.int k i)).run P w = .ok y w ∧ K.V v y := by
  unfold indexVA at hi
  split at hi
  · rename_i s hu
    split at hi
    · rename_i h0
      cases hx
      cases hb : s[i.toNat]? with
      | none => rw [hb] at hi; simp at hi
      | some b =>
        rw [hb] at hi
        simp at hi
        subst hi
        exact ⟨.int .u8 b.toNat, by simp only [Instr.index, Sem.run_bind, asIntOf, Sem.run_pure, Result.andThen_ok, run_underlying hu, if_pos h0, hb], .val _⟩
    · cases hi
  · rename_i cs n e hu
    split at hi
    · rename_i d inf hd hinf
      split at hi
      · rename_i hc
        obtain ⟨ha, h1, h0, hlt⟩ := hc
        cases hx with
        | agg us hl hV =>
          have hlt' : i.toNat < cs.length := (List.getElem?_eq_some_iff.1 hi).1
          have hug := List.getElem?_eq_getElem (l := us) (i := i.toNat) (by omega)
          refine ⟨us[i.toNat], ?_, hV _ _ _ hi hug⟩
          have hug' : us.toArray[i.toNat]? = some us[i.toNat] := by simp [hl, hlt']
          simp only [Instr.index, Sem.run_bind, asIntOf, Sem.run_pure, Result.andThen_ok, run_underlying hu, h0, hlt, and_self, if_true, run_sizeOf_some (P := P) (t := e) (n := inf.size) (by simp [tySize, hinf]), h1, Nat.mul_one,
            part, run_isAgg_some hd, ha, hug']
          rfl
      · cases hi
    · cases hi
  · cases hi

/-- x.f of a struct's value -/
def fieldVA (P : Program) (t : TypeId) (x : AV) (f : Nat) : Option AV :=
  match x, tyField P t f with
  | .agg cs, some (o, ty) =>
    match tyLoad P ty with
    | some (some n) => if o + n ≤ cs.length then some (.agg ((cs.drop o).take n)) else none
    | some none => cs[o]?
    | none => none
  | _, _ => none

theorem fieldVA_ok {K : Kw} {w : World} {t : TypeId} {x : AV} {u : Value} (hx : K.V x u) {f : Nat} {v : AV} (hf : fieldVA P t x f = some v) :
    ∃ y, (Instr.field t u f).run P w = .ok y w ∧ K.V v y := by
  unfold fieldVA at hf
  split at hf
  case h_2 => cases hf
  rename_i cs o ty hty
  cases hx with
  | agg us hl hV =>
    have hfield : ∃ fs x, P.underlying t = some (.struct fs) ∧ fs[f]? = some x ∧ x.offset = o ∧ x.type = ty := by
      unfold tyField at hty
      split at hty
      · rename_i fs hu
        split at hty
        · rename_i x hx
          split at hty
          · split at hty
            · cases hty
            · injection hty with hty; injection hty with h1 h2; exact ⟨fs, x, hu, hx, h1, h2⟩
          · cases hty
        · cases hty
      · cases hty
    obtain ⟨fs, x, hu, hx, rfl, rfl⟩ := hfield
    split at hf
    · rename_i n hld
      unfold tyLoad at hld
      split at hld
      · rename_i d inf hd hinf
        injection hld with hld
        split at hld
        · rename_i ha
          injection hld with hld
          subst hld
          split at hf
          · rename_i hle
            injection hf with hf
            subst hf
            refine ⟨.agg (us.toArray.extract x.offset (x.offset + inf.size)), ?_, ?_⟩
            · simp only [Instr.field, Sem.run_bind, run_underlying hu, Result.andThen_ok, hx, asAgg, Sem.run_pure, part, run_isAgg_some hd, ha, if_true, run_sizeOf_some (P := P) (t := x.type) (n := inf.size) (by simp [tySize, hinf])]
            · have : us.toArray.extract x.offset (x.offset + inf.size) = ((us.drop x.offset).take inf.size).toArray := by
                simp [List.extract_eq_take_drop]
              rw [this]
              refine .agg _ (by simp [hl]) (fun j c z hc hz => ?_)
              have hj : j < inf.size := by have := (List.getElem?_eq_some_iff.1 hz).1; simp at this; omega
              rw [List.getElem?_take_of_lt hj, List.getElem?_drop] at hc hz
              exact hV _ c z hc hz
          · cases hf
        · cases hld
      · cases hld
    · rename_i hld
      unfold tyLoad at hld
      split at hld
      · rename_i d inf hd hinf
        injection hld with hld
        split at hld
        · cases hld
        · rename_i ha
          have hlt : x.offset < cs.length := (List.getElem?_eq_some_iff.1 hf).1
          have hug := List.getElem?_eq_getElem (l := us) (i := x.offset) (by omega)
          have ha' : aggD d = false := by simpa using ha
          have hug' : us.toArray[x.offset]? = some us[x.offset] := by simp [hl, hlt]
          refine ⟨us[x.offset], ?_, hV _ _ _ hf hug⟩
          simp only [Instr.field, Sem.run_bind, run_underlying hu, Result.andThen_ok, hx, asAgg, Sem.run_pure, part, run_isAgg_some hd, ha', hug', Bool.false_eq_true, if_false]
      · cases hld
    · cases hf

def isIface : TypeDesc → Bool
  | .interface _ => true
  | _ => false

/-- x.(T) -/
def assertA (P : Program) (t : TypeId) (ok : Bool) (x : AV) : Option AV :=
  match P.underlying t, x with
  | some d, .iface u a => if isIface d then none else if u = t then some (if ok then .tuple [a, .val (.bool true)] else a)
      else if ok then (tyZero P t).map fun z => .tuple [ofVal z, .val (.bool false)] else none
  | some d, .val .nilIface => if isIface d then none else if ok then (tyZero P t).map fun z => .tuple [ofVal z, .val (.bool false)] else none
  | _, _ => none

theorem V.pair {S : Snap} {Om : List OwnE} {ι : List Nat} {a b : AV} {u v : Value} (ha : V S Om ι a u) (hb : V S Om ι b v) : V S Om ι (.tuple [a, b]) (.tuple #[u, v]) :=
  .tuple [u, v] rfl (fun j c x hc hx => by
    match j with
    | 0 => simp at hc hx; subst hc; subst hx; exact ha
    | 1 => simp at hc hx; subst hc; subst hx; exact hb
    | n + 2 => simp at hc)

theorem assertA_ok {K : Kw} {w : World} {xt t : TypeId} {ok : Bool} {x : AV} {u : Value} (hx : K.V x u) {v : AV} (h : assertA P t ok x = some v) :
    ∃ y, (Instr.typeAssert u xt t ok).run P w = .ok y w ∧ K.V v y := by
  unfold assertA at h
  split at h
  · rename_i d tu a hd
    cases hx with
    | iface hv =>
      rename_i y
      split at h
      · cases h
      · rename_i hni
        split at h
        · rename_i he
          subst he
          injection h with h
          subst h
          refine ⟨if ok then .tuple #[y, .bool true] else y, ?_, ?_⟩
          · cases d <;> simp [isIface] at hni <;> simp [Instr.typeAssert, run_underlying hd]
          · cases ok
            · exact hv
            · exact V.pair hv (.val _)
        · rename_i hne
          split at h
          · rename_i hok
            simp only [Option.map_eq_some_iff] at h
            obtain ⟨z, hz, rfl⟩ := h
            refine ⟨.tuple #[z, .bool false], ?_, V.pair (V.ofVal z) (.val _)⟩
            cases d <;> simp [isIface] at hni <;> simp [Instr.typeAssert, run_underlying hd, hne, hok, run_zero_some hz]
          · cases h
  · rename_i d hd
    cases hx
    split at h
    · cases h
    · rename_i hni
      split at h
      · rename_i hok
        simp only [Option.map_eq_some_iff] at h
        obtain ⟨z, hz, rfl⟩ := h
        refine ⟨.tuple #[z, .bool false], ?_, V.pair (V.ofVal z) (.val _)⟩
        cases d <;> simp [isIface] at hni <;> simp [Instr.typeAssert, run_underlying hd, hok, run_zero_some hz]
      · cases h
  · cases h

end
end Go.Ab
