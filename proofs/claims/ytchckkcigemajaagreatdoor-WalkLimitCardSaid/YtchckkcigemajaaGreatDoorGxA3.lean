/- What the operations on memory do, told by abstract values: load, store, field, index, slice, box, build, append. -/
import Derived.Test.YtchckkcigemajaaGreatDoorGxB0
namespace Go.Ab
set_option linter.unusedVariables false
set_option linter.unusedSimpArgs false

def ofLeaf : Value → AV
  | .slice none 0 0 => .slice [] .nil
  | .agg _ | .tuple _ => .top
  | v => .val v

def ofVal : Value → AV
  | .agg cs => .agg (cs.toList.map ofLeaf)
  | v => ofLeaf v

theorem V.ofLeaf {S : Snap} {Om : List OwnE} {ι : List Nat} (v : Value) : V S Om ι (ofLeaf v) v := by
  unfold Ab.ofLeaf
  split
  · exact .empty ⟨rfl, rfl⟩
  · exact .top _
  · exact .top _
  · exact .val _

theorem V.ofVal {S : Snap} {Om : List OwnE} {ι : List Nat} (v : Value) : V S Om ι (Ab.ofVal v) v := by
  unfold Ab.ofVal
  split
  · rename_i cs
    have := V.agg (S := S) (Om := Om) (ι := ι) (cs := cs.toList.map Ab.ofLeaf) cs.toList (by simp) (fun j c u hc hu => by
      simp only [List.getElem?_map, hu, Option.map_some, Option.some.injEq] at hc
      subst hc
      exact V.ofLeaf u)
    simpa using this
  · exact V.ofLeaf _

def aggD : TypeDesc → Bool
  | .struct _ | .array _ _ => true
  | _ => false
def tyLoad (P : Program) (t : TypeId) : Option (Option Nat) :=
  match P.underlying t, P.info? t with
  | some d, some i => some (if aggD d then some i.size else none)
  | _, _ => none
def tySize (P : Program) (t : TypeId) : Option Nat := (P.info? t).map (·.size)
def tyBytes (P : Program) (t : TypeId) : Option Nat := (P.info? t).map (·.bytes)
def tyField (P : Program) (s : TypeId) (f : Nat) : Option (Nat × TypeId) :=
  match P.underlying s with
  | some (.struct fs) =>
    match fs[f]? with
    | some x => match P.info? x.type with
      | some i => if i.size = 0 then none else some (x.offset, x.type)
      | none => none
    | none => none
  | _ => none
def tyElem (P : Program) (t : TypeId) : Option TypeId :=
  match P.underlying t with
  | some (.slice e) => some e
  | _ => none
def tyArr (P : Program) (t : TypeId) : Option (Nat × TypeId) :=
  match P.underlying t with
  | some (.array n e) => some (n, e)
  | _ => none
def tyZero (P : Program) (t : TypeId) : Option Value :=
  match P.info? t with
  | some i => i.zero
  | none => none

section
variable {P : Program}

theorem run_typeInfo_some {t : TypeId} {i : TypeInfo} (h : P.info? t = some i) (w : World) : (typeInfo t).run P w = .ok i w := by simp [typeInfo, h]
theorem run_sizeOf_some {t : TypeId} {n : Nat} (h : tySize P t = some n) (w : World) : (sizeOf t).run P w = .ok n w := by
  unfold tySize at h
  cases hi : P.info? t with
  | none => rw [hi] at h; cases h
  | some i => rw [hi] at h; simp at h; subst h; simp [sizeOf, run_typeInfo_some hi]
theorem run_zero_some {t : TypeId} {z : Value} (h : tyZero P t = some z) (w : World) : (zeroValue t).run P w = .ok z w := by
  unfold tyZero at h
  cases hi : P.info? t with
  | none => rw [hi] at h; cases h
  | some i => rw [hi] at h; simp only at h; simp [zeroValue, run_typeInfo_some hi, h]
theorem run_isAgg_some {t : TypeId} {d : TypeDesc} (h : P.underlying t = some d) (w : World) : (isAgg t).run P w = .ok (aggD d) w := by
  cases d <;> simp [isAgg, run_underlying h, aggD]

/-- the cells that stand at a place -/
def cellsAt (A : AState) : AV → Option (List AV)
  | .ptr i off => (A.boxes[i]?).map (·.drop off)
  | .eptr cs => some cs
  | .rptr g k f => ((rowL A.rows g).bind (·[k]?)).map (·.drop f)
  | _ => none

theorem cellsAt_ok {K : Kw} {A : AState} {w : World} (h : Sat K A w) {p : AV} {u : Value} (hp : K.V p u) {cs : List AV} (hc : cellsAt A p = some cs) :
    ∃ (b off : Nat) (us : List Value), u = .pointer (some ⟨b, off, none⟩) ∧ us.length = cs.length ∧ (∀ (j : Nat) (x : Value), us[j]? = some x → w.cell? ⟨b, off + j, none⟩ = some x) ∧
      ∀ (j : Nat) (c : AV) (x : Value), cs[j]? = some c → us[j]? = some x → K.V c x := by
  cases hp with
  | ptr hi =>
    rename_i i off b
    simp only [cellsAt, Option.map_eq_some_iff] at hc
    obtain ⟨all, hall, rfl⟩ := hc
    obtain ⟨arr, ty, hh, hsz, hr⟩ := h.box i b all hi hall
    refine ⟨b, off, (arr.toList.drop off).take (all.drop off).length, rfl, by simp; omega, ?_, ?_⟩
    · intro j x hx
      have hlt : j < (all.drop off).length := by
        have := (List.getElem?_eq_some_iff.1 hx).1
        simp at this ⊢; omega
      rw [List.getElem?_take_of_lt hlt, List.getElem?_drop] at hx
      simp only [World.cell?, hh]
      simpa using hx
    · intro j c x hc hx
      have hlt : j < (all.drop off).length := (List.getElem?_eq_some_iff.1 hc).1
      rw [List.getElem?_take_of_lt hlt, List.getElem?_drop] at hx
      rw [List.getElem?_drop] at hc
      exact V.mono (.refl _ _) (hr _ c x hc (by simpa using hx)) (List.take_prefix _ _)
  | eptr us hl hS hV =>
    simp only [cellsAt, Option.some.injEq] at hc
    subst hc
    exact ⟨_, _, us, rfl, hl, fun j x hx => h.cells _ _ _ (hS j x hx), fun j c x hc hx => V.mono (.refl _ _) (hV j c x hc hx) (List.nil_prefix)⟩
  | rptr he hrow hm =>
    rename_i g k f e
    simp only [cellsAt, Option.map_eq_some_iff, Option.bind_eq_some_iff] at hc
    obtain ⟨el, ⟨es, hes, hk⟩, rfl⟩ := hc
    obtain ⟨e', hr⟩ := h.rows g es hes
    have : e' = e := by have := hr.om; rw [he] at this; injection this with this; exact this.symm
    subst this
    obtain ⟨hlen0, hcap0, arr, ty, hh, hsz, hel, hV⟩ := hr.cells hm
    have hkl : k < es.length := (List.getElem?_eq_some_iff.1 hk).1
    have hell := hel k el hk
    have hbound : k * e'.sz + e'.sz ≤ arr.size := by
      have h1 : (k + 1) * e'.sz ≤ e'.cap * e'.sz := Nat.mul_le_mul_right _ (by omega)
      rw [hsz]; rw [Nat.add_mul, Nat.one_mul] at h1; exact h1
    refine ⟨e'.blk, k * e'.sz + f, (arr.toList.drop (k * e'.sz + f)).take (el.drop f).length, rfl, by simp; omega, ?_, ?_⟩
    · intro j x hx
      have hlt : j < (el.drop f).length := by
        have := (List.getElem?_eq_some_iff.1 hx).1
        simp at this ⊢; omega
      rw [List.getElem?_take_of_lt hlt, List.getElem?_drop] at hx
      simp only [World.cell?, hh]
      simpa using hx
    · intro j c x hc hx
      have hlt : j < (el.drop f).length := (List.getElem?_eq_some_iff.1 hc).1
      rw [List.getElem?_take_of_lt hlt, List.getElem?_drop] at hx
      rw [List.getElem?_drop] at hc
      exact V.mono (.refl _ _) (hV k el (f + j) c x hk hc (by rw [← Nat.add_assoc]; simpa using hx)) (List.nil_prefix)
  | _ => simp [cellsAt] at hc

def loadA (P : Program) (A : AState) (t : TypeId) (p : AV) : Option AV :=
  match tyLoad P t, cellsAt A p with
  | some (some n), some cs => if n ≤ cs.length then some (.agg (cs.take n)) else none
  | some none, some (c :: _) => some c
  | _, _ => none

theorem loadA_ok {K : Kw} {A : AState} {w : World} (h : Sat K A w) {p : AV} {u : Value} (hp : K.V p u) {t : TypeId} {v : AV} (hl : loadA P A t p = some v) :
    ∃ x, (Instr.loadAt t u).run P w = .ok x w ∧ K.V v x := by
  unfold loadA tyLoad at hl
  cases hd : P.underlying t with
  | none => rw [hd] at hl; simp at hl
  | some d =>
    cases hi : P.info? t with
    | none => rw [hd, hi] at hl; simp at hl
    | some i =>
      rw [hd, hi] at hl
      simp only at hl
      cases hc : cellsAt A p with
      | none => rw [hc] at hl; split at hl <;> simp_all
      | some cs =>
        obtain ⟨b, off, us, rfl, hlen, hcell, hV⟩ := cellsAt_ok h hp hc
        rw [hc] at hl
        by_cases ha : aggD d = true
        · rw [if_pos ha] at hl
          simp only at hl
          split at hl
          · rename_i hle
            injection hl with hl
            subst hl
            have hrun := run_loadCells_list (P := P) w ⟨b, off, none⟩ (us.take i.size) (fun j x hx => by
              rw [add_lit]
              refine hcell j x ?_
              rw [List.getElem?_take] at hx
              split at hx
              · exact hx
              · cases hx)
            have hlen' : (us.take i.size).length = i.size := by simp; omega
            rw [hlen'] at hrun
            refine ⟨.agg (us.take i.size).toArray, ?_, .agg _ (by simp; omega) ?_⟩
            · simp [Instr.loadAt, Instr.sureAddr, loadVar, run_isAgg_some hd, ha, run_sizeOf_some (P := P) (t := t) (n := i.size) (by simp [tySize, hi]), hrun]
            · intro j c x hc hx
              have hj : j < i.size := by have := (List.getElem?_eq_some_iff.1 hx).1; simp at this; omega
              rw [List.getElem?_take_of_lt hj] at hc hx
              exact hV j c x hc hx
          · cases hl
        · have ha' : aggD d = false := by simpa using ha
          rw [if_neg ha] at hl
          cases cs with
          | nil => simp at hl
          | cons c cs =>
            simp only [Option.some.injEq] at hl
            subst hl
            cases us with
            | nil => simp at hlen
            | cons x us =>
              have hx := hcell 0 x rfl
              rw [Nat.add_zero] at hx
              exact ⟨x, by simp [Instr.loadAt, Instr.sureAddr, loadVar, run_isAgg_some hd, ha', hx], hV 0 c x rfl rfl⟩

/-- the cells of a value -/
def cellsOf : AV → Option (List AV)
  | .agg cs => some cs
  | .top | .tuple _ | .val (.agg _) | .val (.tuple _) => none
  | a => some [a]

def isLeaf : AV → Bool
  | .agg _ | .top | .tuple _ | .val (.agg _) | .val (.tuple _) => false
  | _ => true

theorem V.leaf {S : Snap} {Om : List OwnE} {ι : List Nat} {a : AV} {u : Value} (h : V S Om ι a u) (hl : isLeaf a = true) : u.oneCell' = true := by
  cases h <;> first | rfl | (simp [isLeaf] at hl; done) | skip
  cases u <;> simp_all [isLeaf, Value.oneCell']

theorem cells_of_one {u : Value} (h : u.oneCell' = true) : u.cells = #[u] := by cases u <;> simp_all [Value.oneCell', Value.cells]

theorem cellsOf_ok {S : Snap} {Om : List OwnE} {ι : List Nat} {a : AV} {u : Value} (h : V S Om ι a u) {cs : List AV} (hc : cellsOf a = some cs) :
    ∃ us : List Value, u.cells = us.toArray ∧ us.length = cs.length ∧ ∀ (j : Nat) (c : AV) (x : Value), cs[j]? = some c → us[j]? = some x → V S Om ι c x := by
  by_cases hl : isLeaf a = true
  · have h1 := cells_of_one (h.leaf hl)
    have hcs : cs = [a] := by
      cases a <;> simp_all [cellsOf, isLeaf]
      rename_i v
      cases v <;> simp_all
    subst hcs
    refine ⟨[u], by rw [h1], rfl, ?_⟩
    intro j c x hc hx
    cases j with
    | zero => simp at hc hx; subst hc; subst hx; exact h
    | succ j => simp at hc
  · cases h with
    | agg us hlen hV =>
      simp only [cellsOf, Option.some.injEq] at hc
      subst hc
      exact ⟨us, rfl, hlen, hV⟩
    | val v => cases u <;> simp_all [cellsOf, isLeaf]
    | top => simp [cellsOf] at hc
    | tuple => simp [cellsOf] at hc
    | _ => simp [isLeaf] at hl

def storeA (P : Program) (A : AState) (t : TypeId) (p x : AV) : Option AState :=
  match p, cellsOf x, tySize P t with
  | .ptr i off, some news, some n =>
    match A.boxes[i]? with
    | some cs => if news.length = n ∧ off + n ≤ cs.length ∧ news.all isLeaf = true ∧ news.all (belowB i) = true then some { A with boxes := A.boxes.set i (setSeg cs off news) } else none
    | none => none
  | .rptr g k f, some news, some n =>
    match rowL A.rows g with
    | some es => match es[k]? with
      | some el => if news.length = n ∧ f + n ≤ el.length ∧ news.all isLeaf = true ∧ news.all (belowB 0) = true then some { A with rows := (g, es.set k (setSeg el f news)) :: killL A.rows g } else none
      | none => none
    | none => none
  | _, _, _ => none

theorem storeA_ok {K : Kw} {A : AState} {w : World} (h : Sat K A w) {p x : AV} {u y : Value} (hp : K.V p u) (hx : K.V x y) {t : TypeId} {A' : AState} (hs : storeA P A t p x = some A') :
    ∃ w', (Instr.storeAt t u y).run P w = .ok () w' ∧ Sat K A' w' := by
  unfold storeA at hs
  split at hs
  · rename_i i off news n hnews hn
    split at hs
    · rename_i cs hcs
      split at hs
      · rename_i hcond
        obtain ⟨hlen, hfit, hleaf, hbel⟩ := hcond
        injection hs with hs
        subst hs
        cases hp with
        | ptr hi =>
          rename_i b
          obtain ⟨us, hus, hul, huV⟩ := cellsOf_ok hx hnews
          obtain ⟨arr, ty, hh, hsz, hr⟩ := h.box i b cs hi hcs
          have h1 : ∀ z ∈ us, z.oneCell' = true := by
            intro z hz
            obtain ⟨j, hj⟩ := List.mem_iff_getElem?.1 hz
            have hjl : j < news.length := by rw [← hul]; exact (List.getElem?_eq_some_iff.1 hj).1
            exact (huV j news[j] z (List.getElem?_eq_getElem hjl) hj).leaf (List.all_eq_true.1 hleaf _ (List.getElem_mem hjl))
          have hst := run_storeCells_at P b off ty us 0 arr w hh (by omega) h1
          refine ⟨_, ?_, Sat.store h i b cs news us off hi hcs hul (by omega) (fun j c z hc hz => (huV j c z hc hz).take (below_of (List.all_eq_true.1 hbel _ (List.mem_of_getElem? hc)))) arr ty hh⟩
          have hsz' : y.cells.size = n := by rw [hus]; simp; omega
          simp only [Nat.add_zero] at hst
          simp [Instr.storeAt, Instr.sureAddr, storeVar, run_sizeOf_some hn, hsz', hus, hst]
          rw [hul]; exact hlen
      · cases hs
    · cases hs
  · rename_i g k f news n hnews hn
    split at hs
    · rename_i es hes
      split at hs
      · rename_i el hel
        split at hs
        · rename_i hcond
          obtain ⟨hlen, hfit, hleaf, hbel⟩ := hcond
          injection hs with hs
          subst hs
          cases hp with
          | rptr he hrow hm =>
            rename_i e
            obtain ⟨e', hr⟩ := h.rows g es hes
            have : e' = e := by have := hr.om; rw [he] at this; injection this with this; exact this.symm
            subst this
            obtain ⟨us, hus, hul, huV⟩ := cellsOf_ok hx hnews
            obtain ⟨hlen0, hcap0, arr, ty, hh, hsz, hels, hV⟩ := hr.cells hm
            have hkl : k < es.length := (List.getElem?_eq_some_iff.1 hel).1
            have hell := hels k el hel
            have hbound : k * e'.sz + e'.sz ≤ arr.size := by
              have h1 : (k + 1) * e'.sz ≤ e'.cap * e'.sz := Nat.mul_le_mul_right _ (by omega)
              rw [hsz]; rw [Nat.add_mul, Nat.one_mul] at h1; exact h1
            have h1 : ∀ z ∈ us, z.oneCell' = true := by
              intro z hz
              obtain ⟨j, hj⟩ := List.mem_iff_getElem?.1 hz
              have hjl : j < news.length := by rw [← hul]; exact (List.getElem?_eq_some_iff.1 hj).1
              exact (huV j news[j] z (List.getElem?_eq_getElem hjl) hj).leaf (List.all_eq_true.1 hleaf _ (List.getElem_mem hjl))
            have hst := run_storeCells_at P e'.blk (k * e'.sz + f) ty us 0 arr w hh (by omega) h1
            have hseg : ∀ (a : List AV), (setSeg el f news).length = el.length := fun _ => by simp [setSeg]; omega
            refine ⟨_, ?_, Sat.storeRow h hes hr hm (arr.toList.take (k * e'.sz + f) ++ us ++ arr.toList.drop (k * e'.sz + f + us.length)).toArray ty arr hh (es.set k (setSeg el f news)) (by simp) ?_ ?_ ?_⟩
            · have hsz' : y.cells.size = n := by rw [hus]; simp; omega
              simp only [Nat.add_zero] at hst
              simp [Instr.storeAt, Instr.sureAddr, storeVar, run_sizeOf_some hn, hsz', hus, hst]
              rw [hul]; exact hlen
            · simp only [List.size_toArray, List.length_append, List.length_take, List.length_drop, Array.length_toList, hul]; omega
            · intro i el' hi
              rcases set_get _ _ _ _ _ hi with ⟨_, rfl, _⟩ | ⟨_, hi'⟩
              · rw [hseg []]; exact hell
              · exact hels i el' hi'
            · intro i el' j c u hi hc hu
              rw [List.getElem?_toArray, setSeg_get _ _ _ (by simp [hul]; omega)] at hu
              rcases set_get _ _ _ _ _ hi with ⟨rfl, rfl, _⟩ | ⟨hne, hi'⟩
              · rw [setSeg, setSeg_get _ _ _ (by omega)] at hc
                have hjl : j < e'.sz := by
                  rcases Nat.lt_or_ge j e'.sz with h | h
                  · exact h
                  · exfalso
                    rw [if_neg (by omega), if_neg (by omega), List.getElem?_eq_none (by omega)] at hc; cases hc
                by_cases hj : j < f
                · rw [if_pos hj] at hc
                  rw [if_pos (by omega)] at hu
                  exact hV i el j c u hel hc (by simpa using hu)
                · rw [if_neg hj] at hc
                  by_cases hj2 : j < f + news.length
                  · rw [if_pos hj2] at hc
                    rw [if_neg (by omega), if_pos (by omega)] at hu
                    have e1 : i * e'.sz + j - (i * e'.sz + f) = j - f := by omega
                    rw [e1] at hu
                    have := (huV (j - f) c u hc hu).take (n := 0) (below_of (List.all_eq_true.1 hbel _ (List.mem_of_getElem? hc)))
                    simpa using this
                  · rw [if_neg hj2] at hc
                    rw [if_neg (by omega), if_neg (by omega)] at hu
                    exact hV i el j c u hel hc (by simpa using hu)
              · have hjl : j < e'.sz := by rw [← hels i el' hi']; exact (List.getElem?_eq_some_iff.1 hc).1
                have hil : i < es.length := (List.getElem?_eq_some_iff.1 hi').1
                rcases Nat.lt_or_gt_of_ne hne with hik | hik
                · have : (i + 1) * e'.sz ≤ k * e'.sz := Nat.mul_le_mul_right _ hik
                  rw [Nat.add_mul, Nat.one_mul] at this
                  rw [if_pos (by omega)] at hu
                  exact hV i el' j c u hi' hc (by simpa using hu)
                · have : (k + 1) * e'.sz ≤ i * e'.sz := Nat.mul_le_mul_right _ hik
                  rw [Nat.add_mul, Nat.one_mul] at this
                  rw [if_neg (by omega), if_neg (by omega)] at hu
                  exact hV i el' j c u hi' hc (by simpa using hu)
        · cases hs
      · cases hs
    · cases hs
  · cases hs

/-- a new box that holds a value -/
theorem box_ok {K : Kw} {A : AState} {w : World} (h : Sat K A w) {x : AV} {y : Value} (hx : K.V x y) {cs : List AV} (hc : cellsOf x = some cs) (t : TypeId) :
    ∃ K' u w', (Instr.box t y).run P w = .ok u w' ∧ K.le K' ∧ Sat K' { A with boxes := A.boxes ++ [cs] } w' ∧ K'.V (.ptr A.boxes.length 0) u := by
  obtain ⟨us, hus, hul, huV⟩ := cellsOf_ok hx hc
  obtain ⟨hle, hsat⟩ := Sat.newBox h us.toArray t cs (by simp [hul]) (fun j c u hc hu => huV j c u hc (by simpa using hu))
  refine ⟨_, .pointer (some ⟨w.heap.size, 0, none⟩), _, ?_, hle, hsat, ?_⟩
  · simp [Instr.box, newVar, newRow, hus]
  · exact .ptr (by simp [← h.nbox])

theorem alloc_ok {K : Kw} {A : AState} {w : World} (h : Sat K A w) {t : TypeId} {z : Value} (hz : tyZero P t = some z) {cs : List AV} (hc : cellsOf (ofVal z) = some cs) :
    ∃ K' u w', (Instr.alloc t true (.tuple #[])).run P w = .ok u w' ∧ K.le K' ∧ Sat K' { A with boxes := A.boxes ++ [cs] } w' ∧ K'.V (.ptr A.boxes.length 0) u := by
  obtain ⟨K', u, w', hr, h1, h2, h3⟩ := box_ok (P := P) h (V.ofVal z) hc t
  refine ⟨K', u, w', ?_, h1, h2, h3⟩
  simp only [Instr.box, Sem.run_bind] at hr
  simp [Instr.alloc, run_zero_some hz]
  simpa using hr

def fieldA (P : Program) (s : TypeId) (p : AV) (f : Nat) : Option AV :=
  match p, tyField P s f with
  | .ptr i off, some (o, _) => some (.ptr i (off + o))
  | .eptr cs, some (o, _) => some (.eptr (cs.drop o))
  | .rptr g k f', some (o, _) => some (.rptr g k (f' + o))
  | _, _ => none

theorem fieldA_ok {K : Kw} {w : World} {p : AV} {u : Value} (hp : K.V p u) {s : TypeId} {f : Nat} {v : AV} (hf : fieldA P s p f = some v) :
    ∃ x, (Instr.fieldAt s u f).run P w = .ok x w ∧ K.V v x := by
  unfold fieldA at hf
  have key : ∀ (b off o : Nat) (ty : TypeId), tyField P s f = some (o, ty) → (Instr.fieldAt s (.pointer (some ⟨b, off, none⟩)) f).run P w = .ok (.pointer (some ⟨b, off + o, none⟩)) w := by
    intro b off o ty h
    unfold tyField at h
    split at h
    · rename_i fs hu
      split at h
      · rename_i x hx
        split at h
        · rename_i i hi
          split at h
          · cases h
          · rename_i hne
            injection h with h
            injection h with h1 h2
            subst h1
            simp [Instr.fieldAt, Instr.sureAddr, run_underlying hu, hx, fieldPlace, run_sizeOf_some (P := P) (t := x.type) (n := i.size) (by simp [tySize, hi]), hne, add_lit]
        · cases h
      · cases h
    · cases h
  split at hf
  · rename_i i off o ty hty
    injection hf with hf
    subst hf
    cases hp with
    | ptr hi => exact ⟨_, key _ _ _ _ hty, .ptr hi⟩
  · rename_i cs o ty hty
    injection hf with hf
    subst hf
    cases hp with
    | eptr us hl hS hV =>
      refine ⟨_, key _ _ _ _ hty, .eptr (us.drop o) (by simp [hl]) ?_ ?_⟩
      · intro j x hx
        rw [List.getElem?_drop] at hx
        have := hS _ x hx
        rwa [← Nat.add_assoc] at this
      · intro j c x hc hx
        rw [List.getElem?_drop] at hc hx
        exact hV _ c x hc hx
  · rename_i g k f' o ty hty
    injection hf with hf
    subst hf
    cases hp with
    | rptr he hr hm => exact ⟨_, key _ _ _ _ hty, by rw [Nat.add_assoc]; exact .rptr he hr hm⟩
  · cases hf

end
end Go.Ab
