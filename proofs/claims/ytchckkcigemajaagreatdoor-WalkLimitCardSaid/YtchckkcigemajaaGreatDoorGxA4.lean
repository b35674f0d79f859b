/- More operations told by abstract values: index, slice expressions, build, literal slices, append. -/
import Derived.Test.YtchckkcigemajaaGreatDoorGxA3
namespace Go.Ab
set_option linter.unusedVariables false
set_option linter.unusedSimpArgs false
section
variable {P : Program}

def uni (s : Nat) (es : List (List AV)) : Bool := es.all fun e => e.length == s && e.all isLeaf

theorem uni_spec {s : Nat} {es : List (List AV)} (h : uni s es = true) {i : Nat} {e : List AV} (he : es[i]? = some e) : e.length = s := by
  have := List.all_eq_true.1 h e (List.mem_of_getElem? he)
  simp at this
  exact this.1

theorem uni_leaf {s : Nat} {es : List (List AV)} (h : uni s es = true) {i : Nat} {e : List AV} (he : es[i]? = some e) : e.all isLeaf = true := by
  have := List.all_eq_true.1 h e (List.mem_of_getElem? he)
  simp only [Bool.and_eq_true] at this
  exact this.2

def indexA (P : Program) (A : AState) (t : TypeId) (x : AV) (i : Int) : Option AV :=
  match x, tyElem P t, tyArr P t with
  | .slice es _, some e, _ =>
    match tySize P e, es[i.toNat]? with
    | some s, some cs => if 0 ≤ i ∧ cs.length = s then some (.eptr cs) else none
    | _, _ => none
  | .mslice b off len _, some e, _ =>
    match tySize P e with
    | some s => if 0 ≤ i ∧ i < len then some (.ptr b (off + i.toNat * s)) else none
    | none => none
  | .row g off n, some e, _ =>
    match tySize P e, rowL A.rows g with
    | some s, some es => if 0 ≤ i ∧ i < n ∧ (es[off + i.toNat]?).map (·.length) = some s then some (.rptr g (off + i.toNat) 0) else none
    | _, _ => none
  | .ptr b off, none, some (n, e) =>
    match tySize P e with
    | some s => if 0 ≤ i ∧ i < n then some (.ptr b (off + i.toNat * s)) else none
    | none => none
  | _, _, _ => none

theorem tyElem_some {t e : TypeId} (h : tyElem P t = some e) : P.underlying t = some (.slice e) := by
  unfold tyElem at h
  split at h
  · rename_i e' he; injection h with h; subst h; exact he
  · cases h
theorem tyArr_some {t e : TypeId} {n : Nat} (h : tyArr P t = some (n, e)) : P.underlying t = some (.array n e) := by
  unfold tyArr at h
  split at h
  · rename_i n' e' he; injection h with h; injection h with h1 h2; subst h1; subst h2; exact he
  · cases h

theorem indexA_ok {K : Kw} {A : AState} {w : World} (h : Sat K A w) {x : AV} {u : Value} (hx : K.V x u) {t : TypeId} {k : IntKind} {i : Int} {v : AV} (hi : indexA P A t x i = some v) :
    ∃ y, (Instr.indexAt t u (.int k i)).run P w = .ok y w ∧ K.V v y := by
  unfold indexA at hi
  split at hi
  · rename_i es tag e hel
    split at hi
    · rename_i s cs hs hcs
      split at hi
      · rename_i hc
        obtain ⟨h0, hlen⟩ := hc
        injection hi with hi
        subst hi
        have hlt : i.toNat < es.length := (List.getElem?_eq_some_iff.1 hcs).1
        have hilt : i < (es.length : Int) := by omega
        have hu := tyElem_some hel
        cases hx with
        | empty hte => simp at hcs
        | slice us hl hsz hes hS hV hcap ht =>
          rename_i b off cap sz
          have hul : i.toNat < us.length := by omega
          have hug := List.getElem?_eq_getElem hul
          have hsz' : sz = s := by
            have h1 := hsz us[i.toNat] (List.getElem_mem hul)
            have h2 := hes _ _ _ hcs hug
            omega
          subst hsz'
          refine ⟨.pointer (some ⟨b, off + i.toNat * sz, none⟩), ?_, .eptr us[i.toNat] (hes _ _ _ hcs hug) ?_ ?_⟩
          · simp [Instr.indexAt, asIntOf, run_underlying hu, h0, hilt, run_sizeOf_some hs, add_lit]
          · intro j x hx
            exact hS _ _ j x hug hx
          · intro j c x hc hx
            exact hV _ _ _ j c x hcs hug hc hx
      · cases hi
    · cases hi
  · rename_i b off len cap e hel
    split at hi
    · rename_i s hs
      split at hi
      · rename_i hc
        obtain ⟨h0, hlen⟩ := hc
        injection hi with hi
        subst hi
        have hu := tyElem_some hel
        cases hx with
        | mslice hb hbc =>
          refine ⟨_, ?_, .ptr hb⟩
          simp [Instr.indexAt, asIntOf, run_underlying hu, h0, hlen, run_sizeOf_some hs, add_lit]
      · cases hi
    · cases hi
  · rename_i g off n e hel
    split at hi
    · rename_i s es hs hes
      split at hi
      · rename_i hc
        obtain ⟨h0, hlen, hsz⟩ := hc
        injection hi with hi
        subst hi
        have hu := tyElem_some hel
        cases hx with
        | row he hrow hm hn =>
          rename_i ent
          obtain ⟨e', hr⟩ := h.rows g es hes
          have : e' = ent := by have := hr.om; rw [he] at this; injection this with this; exact this.symm
          subst this
          obtain ⟨_, _, arr, ty, hh, _, hels, _⟩ := hr.cells hm
          have : e'.sz = s := by
            rw [Option.map_eq_some_iff] at hsz
            obtain ⟨el, h1, h2⟩ := hsz
            rw [← h2, hels _ _ h1]
          subst this
          have heq : off * e'.sz + i.toNat * e'.sz = (off + i.toNat) * e'.sz + 0 := by rw [Nat.add_mul, Nat.add_zero]
          refine ⟨_, ?_, .rptr (k := off + i.toNat) (f := 0) he hrow hm⟩
          rw [← heq]
          simp [Instr.indexAt, asIntOf, run_underlying hu, h0, hlen, run_sizeOf_some hs, add_lit]
      · cases hi
    · cases hi
  · rename_i b off n e hne hel
    split at hi
    · rename_i s hs
      split at hi
      · rename_i hc
        obtain ⟨h0, hlen⟩ := hc
        injection hi with hi
        subst hi
        have hu := tyArr_some hel
        cases hx with
        | ptr hb =>
          refine ⟨_, ?_, .ptr hb⟩
          simp [Instr.indexAt, Instr.sureAddr, asIntOf, run_underlying hu, h0, hlen, run_sizeOf_some hs, add_lit]
      · cases hi
    · cases hi
  · cases hi

/-- the bounds of a slice expression: below, above, the room's end (none: not written) -/
def boundA (n : Nat) : Option Value → Option Nat
  | none => some n
  | some (.int _ i) => if 0 ≤ i ∧ i ≤ n then some i.toNat else none
  | _ => none

theorem run_sliceBound {i : Int} {k : IntKind} {y : Nat} (h : 0 ≤ i ∧ i ≤ y) (c : BoundsCode) (w : World) : (Instr.sliceBound (.int k i) y c).run P w = .ok i.toNat w := by
  simp [Instr.sliceBound, asIntOf, h]

def lowA (h : Nat) : Option Value → Option Nat
  | none => some 0
  | some (.int _ i) => if 0 ≤ i ∧ i ≤ h then some i.toNat else none
  | _ => none

theorem run_sliceBounds2' {isS : Bool} {len cap h l : Nat} {lo hi : Option Value} (hh : boundA len hi = some h) (hlc : len ≤ cap) (hl : lowA h lo = some l) (w : World) :
    (Instr.sliceBounds isS len cap lo hi none).run P w = .ok (l, h, cap) w := by
  have h2 : ∀ v c, hi = some v → (Instr.sliceBound v cap c).run P w = .ok h w := by
    rintro v c rfl
    cases v <;> simp [boundA] at hh
    obtain ⟨⟨h0, h1⟩, rfl⟩ := hh
    exact run_sliceBound ⟨h0, by omega⟩ _ w
  have h3 : ∀ v c, lo = some v → (Instr.sliceBound v h c).run P w = .ok l w := by
    rintro v c rfl
    cases v <;> simp [lowA] at hl
    obtain ⟨⟨h0, h1⟩, rfl⟩ := hl
    exact run_sliceBound ⟨h0, h1⟩ _ w
  cases hi with
  | none =>
    simp [boundA] at hh; subst hh
    cases lo with
    | none => simp [lowA] at hl; subst hl; simp [Instr.sliceBounds]
    | some v => simp [Instr.sliceBounds, h3 v _ rfl]
  | some u =>
    cases lo with
    | none => simp [lowA] at hl; subst hl; simp [Instr.sliceBounds, h2 u _ rfl]
    | some v => simp [Instr.sliceBounds, h3 v _ rfl, h2 u _ rfl]

theorem boundA_le {n h : Nat} {v : Option Value} (hb : boundA n v = some h) : h ≤ n := by
  cases v with
  | none => simp [boundA] at hb; omega
  | some v => cases v <;> simp [boundA] at hb; omega
theorem lowA_le {n h : Nat} {v : Option Value} (hb : lowA n v = some h) : h ≤ n := by
  cases v with
  | none => simp [lowA] at hb; omega
  | some v => cases v <;> simp [lowA] at hb; omega

/-- x[lo:hi] -/
def sliceA (P : Program) (A : AState) (t : TypeId) (x : AV) (lo hi : Option Value) : Option AV :=
  match x, P.underlying t with
  | .val (.string s), some .string =>
    match boundA s.size hi with
    | some h => match lowA h lo with
      | some l => some (.val (.string (s.extract l h)))
      | none => none
    | none => none
  | .slice es tag, some (.slice e) =>
    match boundA es.length hi, tySize P e with
    | some h, some s => match lowA h lo with
      | some l => if uni s es = true then some (.slice ((es.take h).drop l) .any) else none
      | none => none
    | _, _ => none
  | .row g off n, some (.slice e) =>
    match boundA n hi, tySize P e with
    | some h, some s => match lowA h lo, rowL A.rows g with
      | some l, some es => if (es[off]?).map (·.length) = some s ∧ l < h then some (.row g (off + l) (h - l)) else none
      | _, _ => none
    | _, _ => none
  | _, _ => none

theorem sliceA_ok {K : Kw} {A : AState} {w : World} (hsat : Sat K A w) {x : AV} {u : Value} (hx : K.V x u) {t : TypeId} {lo hi : Option Value} {v : AV} (hs : sliceA P A t x lo hi = some v) :
    ∃ y, (Instr.sliceAt t u lo hi none).run P w = .ok y w ∧ K.V v y := by
  unfold sliceA at hs
  split at hs
  · rename_i s hu
    split at hs
    · rename_i h hh
      split at hs
      · rename_i l hl
        injection hs with hs
        subst hs
        cases hx with
        | val =>
          exact ⟨_, by simp [Instr.sliceAt, Instr.slice, run_underlying hu, run_sliceBounds2' (P := P) hh (Nat.le_refl _) hl], .val _⟩
      · cases hs
    · cases hs
  · rename_i es tag e hu
    split at hs
    · rename_i h s hh hsz
      split at hs
      · rename_i l hl
        split at hs
        · rename_i huni
          injection hs with hs
          subst hs
          have hle := boundA_le hh
          have hle2 := lowA_le hl
          cases hx with
          | empty hte =>
            rename_i base cap
            have h0 : h = 0 := by simp at hle; omega
            have l0 : l = 0 := by omega
            subst h0; subst l0
            refine ⟨.slice base 0 cap, ?_, V.empty (tag := .any) trivial⟩
            have hb := run_sliceBounds2' (P := P) (isS := true) (len := 0) (cap := cap) hh (Nat.zero_le _) hl w
            by_cases hc : cap = 0
            · subst hc; simp [Instr.sliceAt, Instr.slice, run_underlying hu, hb, run_sizeOf_some hsz]
            · simp [Instr.sliceAt, Instr.slice, run_underlying hu, hb, run_sizeOf_some hsz, hc]
              cases base <;> simp [Addr.add]
          | slice us hul husz hes hS hV hcap ht =>
            rename_i b off cap sz
            have hb := run_sliceBounds2' (P := P) (isS := true) (len := es.length) (cap := cap) hh hcap hl w
            have hlen : ((es.take h).drop l).length = h - l := by simp; omega
            by_cases hcl : cap = l
            · subst hcl
              have hempty : (es.take h).drop cap = [] := List.eq_nil_of_length_eq_zero (by rw [hlen]; omega)
              refine ⟨.slice (some ⟨b, off, none⟩) 0 0, ?_, by rw [hempty]; exact .empty trivial⟩
              have hhl : h - cap = 0 := by omega
              simp [Instr.sliceAt, Instr.slice, run_underlying hu, hb, run_sizeOf_some hsz, hhl]
            · have hrun : (Instr.sliceAt t (.slice (some ⟨b, off, none⟩) es.length cap) lo hi none).run P w = .ok (.slice (some ⟨b, off + l * s, none⟩) (h - l) (cap - l)) w := by
                simp [Instr.sliceAt, Instr.slice, run_underlying hu, hb, run_sizeOf_some hsz, hcl, add_lit]
              refine ⟨_, hrun, ?_⟩
              rw [← hlen]
              by_cases he : es = []
              · subst he
                simp
                simp only [List.length_nil] at hle
                have : h - l = 0 := by omega
                exact .empty trivial
              · have hsz' : sz = s := by
                  have hpos : 0 < es.length := by cases es with | nil => exact absurd rfl he | cons _ _ => simp
                  have h1 := husz us[0] (List.getElem_mem (by omega))
                  have h2 := hes 0 _ _ (List.getElem?_eq_getElem hpos) (List.getElem?_eq_getElem (by omega))
                  have h3 := uni_spec huni (List.getElem?_eq_getElem hpos)
                  omega
                subst hsz'
                have get : ∀ {α : Type} (xs : List α) (i : Nat) (y : α), ((xs.take h).drop l)[i]? = some y → xs[l + i]? = some y := by
                  intro α xs i y hy
                  rw [List.getElem?_drop, List.getElem?_take] at hy
                  split at hy
                  · exact hy
                  · cases hy
                refine .slice (sz := sz) ((us.take h).drop l) (by simp [hul]) (fun u hu => husz u (List.mem_of_mem_take (List.mem_of_mem_drop hu))) (fun i e u he hu => hes _ _ _ (get _ _ _ he) (get _ _ _ hu)) ?_
                  (fun i e u j c x he hu hc hx => hV _ _ _ j c x (get _ _ _ he) (get _ _ _ hu) hc hx) (by rw [hlen]; omega) trivial
                intro i u j x hu hx
                have := hS _ _ j x (get _ _ _ hu) hx
                rw [Nat.add_mul, ← Nat.add_assoc] at this
                exact this
        · cases hs
      · cases hs
    · cases hs
  · rename_i g off n e hu
    split at hs
    · rename_i h s hh hsz
      split at hs
      · rename_i l es hl hes
        split at hs
        · rename_i hc
          obtain ⟨hel, hlt⟩ := hc
          injection hs with hs
          subst hs
          cases hx with
          | row he hrow hm hn =>
            rename_i ent
            obtain ⟨e', hr⟩ := hsat.rows g es hes
            have : e' = ent := by have := hr.om; rw [he] at this; injection this with this; exact this.symm
            subst this
            obtain ⟨hlen0, hcap, arr, ty, hah, _, hels, _⟩ := hr.cells hm
            have hs2 : e'.sz = s := by
              rw [Option.map_eq_some_iff] at hel
              obtain ⟨el, h1, h2⟩ := hel
              rw [← h2, hels _ _ h1]
            subst hs2
            have hle := boundA_le hh
            have hb := run_sliceBounds2' (P := P) (isS := true) (len := n) (cap := e'.cap - off) hh (by omega) hl w
            have hcl : ¬ (e'.cap - off = l) := by omega
            have hcc : e'.cap - off - l = e'.cap - (off + l) := by omega
            refine ⟨_, ?_, .row (off := off + l) (n := h - l) he hrow hm (by omega)⟩
            rw [Nat.add_mul, ← hcc]
            simp [Instr.sliceAt, Instr.slice, run_underlying hu, hb, run_sizeOf_some hsz, hcl, add_lit]
        · cases hs
      · cases hs
    · cases hs
  · cases hs

theorem fold_seg (off : Nat) : ∀ (us : List Value) (k : Nat) (arr : Array Value), off + k + us.length ≤ arr.size →
    ((us.zipIdx k).foldl (fun (cs : Array Value) (x : Value × Nat) => cs.setIfInBounds (off + x.2) x.1) arr) = (arr.toList.take (off + k) ++ us ++ arr.toList.drop (off + k + us.length)).toArray
  | [], k, arr, h => by simp
  | u :: us, k, arr, h => by
    simp only [List.zipIdx_cons, List.foldl_cons]
    have ih := fold_seg off us (k + 1) (arr.setIfInBounds (off + k) u) (by simp at h ⊢; omega)
    rw [ih]
    have e := list_seg_step arr.toList (off + k) u us (by simp at h ⊢; omega)
    simpa [Array.toList_setIfInBounds, Nat.add_assoc] using e

def fillA (place : Nat → Option (Nat × Nat)) (cs : List AV) : List (Nat × AV) → Option (List AV)
  | [] => some cs
  | (i, a) :: rest =>
    match place i, cellsOf a with
    | some (off, size), some news => if news.length = size ∧ off + news.length ≤ cs.length then fillA place (setSeg cs off news) rest else none
    | _, _ => none

theorem fillA_ok {S : Snap} {Om : List OwnE} {ι : List Nat} (place : Nat → Option (Nat × Nat)) : ∀ (pa : List (Nat × AV)) (pv : List (Nat × Value)) (cs cs' : List AV) (arr : Array Value),
    pa.length = pv.length → (∀ (j : Nat) (x : Nat × AV) (y : Nat × Value), pa[j]? = some x → pv[j]? = some y → x.1 = y.1 ∧ V S Om ι x.2 y.2) →
    arr.size = cs.length → (∀ (j : Nat) (c : AV) (x : Value), cs[j]? = some c → arr[j]? = some x → V S Om ι c x) → fillA place cs pa = some cs' →
    ∃ arr', Instr.fill place arr pv = some arr' ∧ arr'.size = cs'.length ∧ cs'.length = cs.length ∧ ∀ (j : Nat) (c : AV) (x : Value), cs'[j]? = some c → arr'[j]? = some x → V S Om ι c x
  | [], pv, cs, cs', arr, hl, hp, hsz, hV, hf => by
    cases pv with
    | nil => simp [fillA] at hf; subst hf; exact ⟨arr, rfl, hsz, rfl, hV⟩
    | cons _ _ => simp at hl
  | (i, a) :: rest, [], cs, cs', arr, hl, hp, hsz, hV, hf => by simp at hl
  | (i, a) :: rest, (i', v) :: pv, cs, cs', arr, hl, hp, hsz, hV, hf => by
    obtain ⟨rfl, hva⟩ := hp 0 _ _ rfl rfl
    simp only at hva
    simp only [fillA] at hf
    split at hf
    · rename_i off size news hpl hnews
      split at hf
      · rename_i hc
        obtain ⟨h1, h2⟩ := hc
        obtain ⟨us, hus, hul, huV⟩ := cellsOf_ok hva hnews
        have hseg := fold_seg off us 0 arr (by omega)
        have hsz2 : (arr.toList.take off ++ us ++ arr.toList.drop (off + us.length)).toArray.size = (setSeg cs off news).length := by
          simp only [List.size_toArray, List.length_append, List.length_take, List.length_drop, Array.length_toList, setSeg]; omega
        obtain ⟨arr', hr, hs1, hs2, hs3⟩ := fillA_ok place rest pv (setSeg cs off news) cs' (arr.toList.take off ++ us ++ arr.toList.drop (off + us.length)).toArray (by simpa using hl)
          (fun j x y hx hy => hp (j + 1) x y hx hy) hsz2 (by
            intro j c x hcj hxj
            simp only [setSeg] at hcj
            rw [setSeg_get _ _ _ h2] at hcj
            rw [List.getElem?_toArray, setSeg_get _ _ _ (by simp; omega)] at hxj
            by_cases hj : j < off
            · rw [if_pos hj] at hcj hxj
              exact hV j c x hcj (by simpa using hxj)
            · rw [if_neg hj] at hcj hxj
              by_cases hj2 : j < off + news.length
              · rw [if_pos hj2] at hcj
                rw [if_pos (by omega)] at hxj
                exact huV _ c x hcj hxj
              · rw [if_neg hj2] at hcj
                rw [if_neg (by omega)] at hxj
                exact hV j c x hcj (by simpa using hxj)) hf
        refine ⟨arr', ?_, hs1, hs2.trans (by simp [setSeg]; omega), hs3⟩
        simp only [Instr.fill, hpl]
        have hc1 : ¬ (v.cells.size ≠ size || decide (off + v.cells.size > arr.size)) = true := by rw [hus]; simp; omega
        rw [if_neg hc1]
        rw [← hr, hus]
        congr 1
        rw [← Array.foldl_toList, Array.toList_zipIdx]
        simpa using hseg
      · cases hf
    · cases hf

def placesA (P : Program) (t : TypeId) : Option (Nat → Option (Nat × Nat)) :=
  match P.underlying t with
  | some (.struct fs) => some fun i => match fs[i]? with | some f => (tySize P f.type).map fun s => (f.offset, s) | none => none
  | _ => none

def placeOf (P : Program) (t : TypeId) (i : Nat) : Option (Nat × Nat) :=
  match P.underlying t with
  | some (.struct fs) => match fs[i]? with | some f => (tySize P f.type).map fun s => (f.offset, s) | none => none
  | some (.array _ e) => (tySize P e).map fun s => (i * s, s)
  | _ => none

def buildA (P : Program) (t : TypeId) (parts : List (Nat × AV)) : Option AV :=
  match (tyZero P t).bind fun z => cellsOf (ofVal z) with
  | some zs => (fillA (placeOf P t) zs parts).map .agg
  | none => none

theorem run_places (fs : List Field) (w : World) (h : ∀ f ∈ fs, ∃ s, tySize P f.type = some s) :
    ((fs.mapM fun f => do pure (f.offset, ← sizeOf f.type) : Sem (List (Nat × Nat)))).run P w = .ok (fs.map fun f => (f.offset, (tySize P f.type).getD 0)) w := by
  induction fs with
  | nil => simp
  | cons f fs ih =>
    obtain ⟨s, hs⟩ := h f (by simp)
    have ih' := ih (fun g hg => h g (by simp [hg]))
    simp only [bind_pure_comp] at ih'
    simp [List.mapM_cons, run_sizeOf_some hs, ih', hs]

/-- all fields of a struct have sizes -/
def tyWhole (P : Program) (t : TypeId) : Bool :=
  match P.underlying t with
  | some (.struct fs) => fs.toList.all fun f => (tySize P f.type).isSome
  | some (.array _ e) => (tySize P e).isSome
  | _ => false

theorem buildA_ok {K : Kw} {w : World} {t : TypeId} {pa : List (Nat × AV)} {pv : List (Nat × Value)} (hw : tyWhole P t = true) (hl : pa.length = pv.length)
    (hp : ∀ (j : Nat) (x : Nat × AV) (y : Nat × Value), pa[j]? = some x → pv[j]? = some y → x.1 = y.1 ∧ K.V x.2 y.2) {v : AV} (hb : buildA P t pa = some v) :
    ∃ y, (Instr.build t pv.toArray).run P w = .ok y w ∧ K.V v y := by
  unfold buildA at hb
  split at hb
  · rename_i zs hz
    obtain ⟨z, hz1, hz2⟩ := Option.bind_eq_some_iff.1 hz
    simp only [Option.map_eq_some_iff] at hb
    obtain ⟨cs', hf, rfl⟩ := hb
    obtain ⟨us, hus, hul, huV⟩ := cellsOf_ok (S := K.S) (Om := K.Om) (ι := K.ι) (V.ofVal z) hz2
    obtain ⟨arr', hr, hs1, hs2, hs3⟩ := fillA_ok (placeOf P t) pa pv zs cs' z.cells hl hp (by rw [hus]; simpa using hul) (fun j c x hc hx => huV j c x hc (by rw [hus] at hx; simpa using hx)) hf
    have hagg : K.V (.agg cs') (.agg arr') := by
      have := V.agg (S := K.S) (Om := K.Om) (ι := K.ι) (cs := cs') arr'.toList (by simpa using hs1) (fun j c u hc hu => hs3 j c u hc (by simpa using hu))
      simpa using this
    unfold tyWhole at hw
    split at hw
    · rename_i fs hu
      have hpl : (fun i => (fs.toList.map fun f => (f.offset, (tySize P f.type).getD 0))[i]?) = placeOf P t := by
        funext i
        simp only [placeOf, hu, List.getElem?_map]
        cases hfi : fs[i]? with
        | none => simp [hfi]
        | some f =>
          have hm : f ∈ fs.toList := by simpa using List.mem_of_getElem? (by simpa using hfi : fs.toList[i]? = some f)
          have := List.all_eq_true.1 hw f hm
          obtain ⟨s, hs⟩ := Option.isSome_iff_exists.1 this
          simp [hfi, hs]
      refine ⟨.agg arr', ?_, hagg⟩
      have hmm : (fs.mapM (fun f => do pure (f.offset, ← sizeOf f.type)) : Sem (Array (Nat × Nat))).run P w = .ok (fs.toList.map fun f => (f.offset, (tySize P f.type).getD 0)).toArray w := by
        rw [Array.mapM_eq_mapM_toList]
        rw [Sem.run_map, run_places (P := P) fs.toList w (fun f hf' => Option.isSome_iff_exists.1 (List.all_eq_true.1 hw f hf'))]
        rfl
      have hpl2 : (fun i => (fs.toList.map fun f => (f.offset, (tySize P f.type).getD 0)).toArray[i]?) = placeOf P t := by rw [← hpl]; funext i; simp
      simp only [Instr.build, Sem.run_bind, run_zero_some hz1, Result.andThen_ok, run_underlying hu, hmm, hpl2, hr, Sem.run_pure]
    · rename_i n e hu
      obtain ⟨s, hs⟩ := Option.isSome_iff_exists.1 hw
      have hpl : (fun i => some (i * s, s)) = placeOf P t := by funext i; simp [placeOf, hu, hs]
      refine ⟨.agg arr', ?_, hagg⟩
      simp only [Instr.build, Sem.run_bind, run_zero_some hz1, Result.andThen_ok, run_underlying hu, run_sizeOf_some hs, hpl, hr, Sem.run_pure]
    · cases hw
  · cases hb

end
end Go.Ab
