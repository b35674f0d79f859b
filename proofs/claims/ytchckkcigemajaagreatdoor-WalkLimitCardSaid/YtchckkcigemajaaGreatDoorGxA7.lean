/- Literal slices, lengths, conversions, and the other small operations. -/
import Derived.Test.YtchckkcigemajaaGreatDoorGxA6
import Derived.Laws.BytesString
namespace Go.Ab
set_option linter.unusedVariables false
set_option linter.unusedSimpArgs false
section
variable {P : Program}

def weakL : AV → AV
  | .slice es .nil => .slice es .nil
  | .slice es _ => .slice es .any
  | a => a
def weakA : AV → AV
  | .agg cs => .agg (cs.map weakL)
  | a => weakL a

theorem V.weakL {S : Snap} {Om : List OwnE} {ι : List Nat} {a : AV} {u : Value} (h : V S Om ι a u) : V S Om ι (weakL a) u := by
  cases h with
  | empty ht =>
    rename_i base cap tag
    cases tag <;> first | exact .empty ht | exact .empty (tag := .any) trivial
  | slice us hl hsz hes hS hV hc ht =>
    rename_i es tag b off cap sz
    cases tag <;> first | exact ht.elim | exact .slice us hl hsz hes hS hV hc (tag := .any) trivial
  | val => exact .val _
  | top => exact .top _
  | ptr h => exact .ptr h
  | eptr us hl hS hV => exact .eptr us hl hS hV
  | mslice h hc => exact .mslice h hc
  | row he hr hm hn => exact .row he hr hm hn
  | rptr he hr hm => exact .rptr he hr hm
  | mapr he hr hm => exact .mapr he hr hm
  | func us hl hV => exact .func us hl hV
  | iface h => exact .iface h
  | agg us hl hV => exact .agg us hl hV
  | tuple us hl hV => exact .tuple us hl hV

theorem V.weakA {S : Snap} {Om : List OwnE} {ι : List Nat} {a : AV} {u : Value} (h : V S Om ι a u) : V S Om ι (weakA a) u := by
  cases a with
  | agg cs =>
    cases h with
    | agg us hl hV =>
      refine .agg us (by simp [hl]) (fun j c x hc hx => ?_)
      rw [List.getElem?_map] at hc
      cases hcj : cs[j]? with
      | none => simp [hcj] at hc
      | some c' => simp [hcj] at hc; subst hc; exact (hV j c' x hcj hx).weakL
  | _ => exact h.weakL

theorem weakL_leaf {a : AV} (h : isLeaf a = true) : isLeaf (weakL a) = true := by
  cases a with
  | slice es tag => cases tag <;> simp_all [weakL, isLeaf]
  | _ => simp_all [weakL, isLeaf]
theorem weakL_below {n : Nat} {a : AV} (h : belowB n a = true) : belowB n (weakL a) = true := by
  cases a with
  | slice es tag => cases tag <;> simp_all [weakL, belowB]
  | _ => simp_all [weakL, belowB]

def idxOk : Nat → List (Nat × AV) → Bool
  | _, [] => true
  | k, (i, _) :: r => i == k && idxOk (k + 1) r

def cellsL (parts : List (Nat × AV)) : List (List AV) := parts.map fun p => (cellsOf p.2).getD []

theorem fillA_full (s : Nat) : ∀ (parts : List (Nat × AV)) (k : Nat) (cs : List AV), idxOk k parts = true → (∀ p ∈ parts, ∃ c, cellsOf p.2 = some c ∧ c.length = s) → cs.length = (k + parts.length) * s →
    fillA (fun i => some (i * s, s)) cs parts = some (cs.take (k * s) ++ (cellsL parts).flatten)
  | [], k, cs, _, _, hl => by
    simp at hl
    simp [fillA, cellsL, List.take_of_length_le (Nat.le_of_eq hl)]
  | (i, a) :: r, k, cs, hi, hp, hl => by
    simp only [idxOk, Bool.and_eq_true, beq_iff_eq] at hi
    obtain ⟨rfl, hi⟩ := hi
    obtain ⟨c, hc, hcl⟩ := hp (i, a) (by simp)
    simp only at hc
    have hfit : i * s + s ≤ cs.length := by rw [hl]; simp only [List.length_cons, Nat.add_mul, Nat.one_mul]; omega
    have ih := fillA_full s r (i + 1) (setSeg cs (i * s) c) hi (fun p hp' => hp p (by simp [hp'])) (by
      simp only [setSeg, List.length_append, List.length_take, List.length_drop, hcl]
      simp only [List.length_cons, Nat.add_mul, Nat.one_mul] at hl ⊢
      omega)
    simp only [fillA, hc, hcl, if_true, true_and]
    rw [if_pos hfit, ih]
    congr 1
    have h1 : (setSeg cs (i * s) c).take ((i + 1) * s) = cs.take (i * s) ++ c := by
      have hlen : (cs.take (i * s) ++ c).length = (i + 1) * s := by simp [hcl, Nat.add_mul]; omega
      rw [setSeg, ← hlen, List.take_left]
    rw [h1, List.append_assoc]
    simp [cellsL, hc]

def buildSliceA (P : Program) (t : TypeId) (len : Nat) (parts : List (Nat × AV)) : Option AV :=
  match (tyElem P t).bind P.info? with
  | some i =>
    if idxOk 0 parts = true ∧ parts.length = len ∧ len * i.size ≤ 2 ^ 24 ∧ (parts.all fun p => match cellsOf p.2 with | some c => c.length == i.size && c.all fun x => isLeaf x && belowB 0 x | none => false) = true ∧
      (i.zero.map (·.cells.size)) = some i.size then some (.slice ((cellsL parts).map fun c => c.map weakL) (if len = 0 then .fresh else .full)) else none
  | none => none

theorem range_map_zero (zero : Array Value) (n : Nat) (h : 0 < n → 0 < zero.size) : ((Array.range n).map (zero[· % zero.size]!)).size = n := by simp

theorem buildSliceA_ok {K : Kw} {A : AState} {w : World} (h : Sat K A w) {t : TypeId} {len : Nat} {pa : List (Nat × AV)} {pv : List (Nat × Value)} (hl : pa.length = pv.length)
    (hp : ∀ (j : Nat) (x : Nat × AV) (y : Nat × Value), pa[j]? = some x → pv[j]? = some y → x.1 = y.1 ∧ K.V x.2 y.2) {v : AV} (hb : buildSliceA P t len pa = some v) :
    ∃ K' y w', (Instr.buildSlice t len pv.toArray).run P w = .ok y w' ∧ K.le K' ∧ Sat K' A w' ∧ K'.V v y := by
  unfold buildSliceA at hb
  split at hb
  case h_2 => cases hb
  rename_i i hinfo
  obtain ⟨e, hel, hi⟩ := Option.bind_eq_some_iff.1 hinfo
  have ht := tyElem_some hel
  split at hb
  case isFalse => cases hb
  rename_i hcond
  obtain ⟨hidx, hlen, h24, hall, hz⟩ := hcond
  injection hb with hb
  subst hb
  simp only [Option.map_eq_some_iff] at hz
  obtain ⟨z, hz, hzs⟩ := hz
  have hcell : ∀ p ∈ pa, ∃ c, cellsOf p.2 = some c ∧ c.length = i.size := by
    intro p hp'
    have := List.all_eq_true.1 hall p hp'
    cases hc : cellsOf p.2 with
    | none => rw [hc] at this; simp at this
    | some c => rw [hc] at this; simp at this; exact ⟨c, rfl, this.1⟩
  have hsize : tySize P e = some i.size := by simp [tySize, hi]
  have hzr : (if len * i.size = 0 then pure #[] else do pure (← zeroValue e).cells : Sem (Array Value)).run P w = .ok (if len * i.size = 0 then #[] else z.cells) w := by
    split
    · rfl
    · simp [run_zero_some (P := P) (t := e) (z := z) (by simp [tyZero, hi, hz])]
  generalize hzero : (if len * i.size = 0 then #[] else z.cells : Array Value) = zero at hzr
  generalize harr : (Array.range (len * i.size)).map (zero[· % zero.size]!) = arr0
  have hasz : arr0.size = len * i.size := by subst harr; simp
  have hfull := fillA_full i.size pa 0 (List.replicate (len * i.size) .top) hidx hcell (by simp [hlen])
  simp only [Nat.zero_mul, List.take_zero, List.nil_append] at hfull
  obtain ⟨arr', hr, hs1, hs2, hs3⟩ := fillA_ok (S := K.S) (Om := K.Om) (ι := K.ι) (fun i_1 => some (i_1 * i.size, i.size)) pa pv (List.replicate (len * i.size) .top) _ arr0 hl hp (by simpa using hasz) (fun j c x hc hx => by
    have := List.eq_of_mem_replicate (List.mem_of_getElem? hc)
    subst this
    exact .top _) hfull
  have hfl : (cellsL pa).flatten.length = len * i.size := by rw [hs2]; simp
  obtain ⟨hK, hsat⟩ := Sat.newSnap h arr' e
  have hlen' : ((cellsL pa).map fun c => c.map weakL).length = len := by simp [cellsL, hlen]
  have hrun : (Instr.buildSlice t len pv.toArray).run P w = .ok (.slice (some ⟨w.heap.size, 0, none⟩) len len) (w.alloc (.cells arr' e)) := by
    have hle : ¬ len * i.size > 2 ^ 24 := by omega
    simp only [Instr.buildSlice, Sem.run_bind, run_underlying ht, Result.andThen_ok, run_sizeOf_some hsize, if_neg hle, Sem.run_pure]
    by_cases h0 : len * i.size = 0
    · have hz0 : zero = #[] := by rw [← hzero, if_pos h0]
      rw [if_pos h0, ← hz0]
      simp only [Sem.run_bind, Sem.run_pure, Result.andThen_ok, harr, hr]
      simp [newRow]
    · have hz0 : z.cells = zero := by rw [← hzero, if_neg h0]
      rw [if_neg h0]
      simp only [Sem.run_bind, run_zero_some (P := P) (t := e) (z := z) (by simp [tyZero, hi, hz]), Sem.run_pure, Result.andThen_ok, hz0, harr, hr]
      simp [newRow]
  refine ⟨_, _, _, hrun, hK, hsat, ?_⟩
  have huni : uni i.size ((cellsL pa).map fun c => c.map weakL) = true := by
    unfold uni
    rw [List.all_eq_true]
    intro c hc
    obtain ⟨c', hc', rfl⟩ := List.mem_map.1 hc
    obtain ⟨p, hp', rfl⟩ := List.mem_map.1 hc'
    have := List.all_eq_true.1 hall p hp'
    cases hcp : cellsOf p.2 with
    | none => rw [hcp] at this; simp at this
    | some c =>
      rw [hcp] at this
      simp only [Bool.and_eq_true, beq_iff_eq] at this
      simp only [Option.getD_some, List.length_map, this.1, beq_self_eq_true, Bool.true_and, List.all_map]
      rw [List.all_eq_true]
      intro x hx
      have := List.all_eq_true.1 this.2 x hx
      simp only [Bool.and_eq_true] at this
      exact weakL_leaf this.1
  have hbel : ∀ c ∈ (cellsL pa).flatten, Below 0 c := by
    intro c hc
    obtain ⟨l, hl', hcl⟩ := List.mem_flatten.1 hc
    obtain ⟨p, hp', rfl⟩ := List.mem_map.1 hl'
    have := List.all_eq_true.1 hall p hp'
    cases hcp : cellsOf p.2 with
    | none => rw [hcp] at this; simp at this
    | some l2 =>
      rw [hcp] at this hcl
      simp only [Bool.and_eq_true, beq_iff_eq] at this
      have := List.all_eq_true.1 this.2 c hcl
      simp only [Bool.and_eq_true] at this
      exact below_of this.2
  have := V.flat (S := K.S.set w.heap.size fun o => arr'[o]?) (Om := K.Om) (ι := K.ι) (es := (cellsL pa).map fun c => c.map weakL) (tag := .full) (b := w.heap.size) (off := 0) (cap := len) (s := i.size) arr'.toList
    (by rw [hlen', Array.length_toList, hs1, hfl]) huni (fun j x hx => by simpa [Snap.set] using hx) (fun j c x hc hx => by
      rw [← List.map_flatten] at hc
      rw [List.getElem?_map] at hc
      cases hcj : (cellsL pa).flatten[j]? with
      | none => rw [hcj] at hc; simp at hc
      | some c' =>
        rw [hcj] at hc
        simp at hc
        subst hc
        have hv := (hs3 j c' x hcj (by simpa using hx)).take (n := 0) (hbel c' (List.mem_of_getElem? hcj))
        simp only [List.take_zero] at hv
        exact (V.mono hK.ext hv (List.prefix_refl _)).weakL) (by rw [hlen']; exact Nat.le_refl _) (by rw [hlen']; rfl)
  rw [hlen'] at this
  by_cases h0 : len = 0
  · rw [if_pos h0]
    subst h0
    have : (cellsL pa).map (fun c => c.map weakL) = [] := List.eq_nil_of_length_eq_zero hlen'
    rw [this]
    exact .empty rfl
  · rw [if_neg h0]
    exact this

/-- len -/
def lenA (P : Program) (t : TypeId) : AV → Option Nat
  | .slice es _ => match P.underlying t with | some (.slice _) => some es.length | _ => none
  | .mslice _ _ len _ => match P.underlying t with | some (.slice _) => some len | _ => none
  | .row _ _ n => match P.underlying t with | some (.slice _) => some n | _ => none
  | .val (.string s) => match P.underlying t with | some .string => some s.size | _ => none
  | _ => none

theorem lenA_ok {K : Kw} {w : World} {t ty : TypeId} {x : AV} {u : Value} (hx : K.V x u) {n : Nat} (hl : lenA P t x = some n) :
    (Builtin.len_ #[t] ty #[u]).run P w = .ok (.int .i64 n) w := by
  unfold lenA at hl
  split at hl <;> first | (cases hl; done) | skip
  all_goals
    split at hl <;> first | (cases hl; done) | skip
    rename_i hu
    injection hl with hl
    subst hl
    cases hx <;> simp [Builtin.len_, run_underlying hu, goInt]

def byteOf : AV → Option Int
  | .val (.int .u8 n) => some n
  | _ => none
def bytesL (cs : List AV) : Option (List Int) := cs.mapM byteOf
def strOf (ns : List Int) : ByteArray := ⟨(ns.map fun n => UInt8.ofNat n.toNat).toArray⟩

/-- the bytes of a slice of bytes -/
def bytesA (A : AState) : AV → Option (List Int)
  | .slice es _ => if uni 1 es = true then bytesL es.flatten else none
  | .mslice i off len _ => match A.boxes[i]? with
    | some cs => if off + len ≤ cs.length then bytesL ((cs.drop off).take len) else none
    | none => none
  | .row g off n => match srcA A (.row g off n) with
    | some xs => if uni 1 xs = true then bytesL xs.flatten else none
    | none => none
  | _ => none

theorem byteOf_ok {S : Snap} {Om : List OwnE} {ι : List Nat} {a : AV} {u : Value} (h : V S Om ι a u) {n : Int} (hb : byteOf a = some n) : u = .int .u8 n := by
  unfold byteOf at hb
  split at hb
  · injection hb with hb; subst hb; cases h; rfl
  · cases hb

theorem bytesL_ok {S : Snap} {Om : List OwnE} {ι : List Nat} : ∀ {cs : List AV} {us : List Value} {ns : List Int}, us.length = cs.length → (∀ (j : Nat) (c : AV) (u : Value), cs[j]? = some c → us[j]? = some u → V S Om ι c u) → bytesL cs = some ns → us = ns.map (Value.int .u8)
  | [], us, l, hl, _, hm => by simp [bytesL] at hm; subst hm; simpa using hl
  | c :: cs, [], l, hl, _, _ => by simp at hl
  | c :: cs, u :: us, l, hl, hV, hm => by
    simp only [bytesL, List.mapM_cons] at hm
    cases hc : byteOf c with
    | none => simp [hc] at hm
    | some v =>
      cases hr : cs.mapM byteOf with
      | none => simp [hc, hr] at hm
      | some r =>
        simp [hc, hr] at hm
        subst hm
        rw [byteOf_ok (hV 0 c u rfl rfl) hc, bytesL_ok (us := us) (ns := r) (by simpa using hl) (fun j c u hc hu => hV (j + 1) c u (by simpa using hc) (by simpa using hu)) hr]
        rfl

theorem foldl_str : ∀ (ns : List Int) (s : ByteArray), ns.foldl (fun (r : ByteArray) n => r.push (UInt8.ofNat n.toNat)) s = s ++ strOf ns
  | [], s => by
    apply ByteArray.ext
    simp [strOf]
  | n :: ns, s => by
    rw [List.foldl_cons, foldl_str ns]
    apply ByteArray.ext
    simp [strOf, ByteArray.data_append, ByteArray.data_push]

theorem bytesA_ok {K : Kw} {A : AState} {w : World} (h : Sat K A w) {x : AV} {u : Value} (hx : K.V x u) {ns : List Int} (hb : bytesA A x = some ns) : (Conv.bytesToString u).run P w = .ok (.string (strOf ns)) w := by
  have key : ∀ (b off len cap : Nat) (us : List Value), us.length = len → (∀ (j : Nat) (x : Value), us[j]? = some x → w.cell? ⟨b, off + j, none⟩ = some x) → us = ns.map (Value.int .u8) →
      (Conv.bytesToString (.slice (some ⟨b, off, none⟩) len cap)).run P w = .ok (.string (strOf ns)) w := by
    intro b off len cap us hl hc hus
    have hld := run_loadCells_list (P := P) w ⟨b, off, none⟩ us (fun j x hx => by rw [add_lit]; exact hc j x hx)
    rw [hl, hus] at hld
    rw [run_bytesToString w _ len cap ns hld, foldl_str]
    have : ByteArray.empty ++ strOf ns = strOf ns := by apply ByteArray.ext; simp
    rw [this]
  unfold bytesA at hb
  split at hb
  · rename_i es tag
    split at hb
    · rename_i hu
      rcases hx.unflat hu with ⟨rfl, base, cap, rfl, _⟩ | ⟨b, off, cap, xs, sz, rfl, hc, hl, _, _, hS, hV⟩
      · simp [bytesL] at hb
        subst hb
        cases base with
        | none => simp [Conv.bytesToString, strOf]; rfl
        | some a => 
          have := run_bytesToString (P := P) w a 0 cap [] (by simp [loadCells, loadCellsFrom])
          rw [this]; rfl
      · exact key b off _ cap xs (by simpa using hl) (fun j x hx => h.cells _ _ _ (hS j x hx)) (bytesL_ok (by rw [flatten_length (uni_len hu), hl]) hV hb)
    · cases hb
  · rename_i i off len cap
    split at hb
    · rename_i cs hcs
      split at hb
      · rename_i hfit
        cases hx with
        | mslice hi hcc =>
          rename_i cap2 b
          obtain ⟨arr, ty, hh, hsz, hr⟩ := h.box i b cs hi hcs
          refine key b off len cap2 ((arr.toList.drop off).take len) (by simp; omega) ?_ (bytesL_ok (S := K.S) (Om := K.Om) (ι := K.ι.take i) (by simp; omega) ?_ hb)
          · intro j x hx
            have hj : j < len := by have := (List.getElem?_eq_some_iff.1 hx).1; simp at this; omega
            rw [List.getElem?_take_of_lt hj, List.getElem?_drop] at hx
            simp only [World.cell?, hh]
            simpa using hx
          · intro j c x hc hx
            have hj : j < len := by have := (List.getElem?_eq_some_iff.1 hx).1; simp at this; omega
            rw [List.getElem?_take_of_lt hj, List.getElem?_drop] at hc hx
            exact hr _ c x hc (by simpa using hx)
      · cases hb
    · cases hb
  · rename_i g off n
    split at hb
    · rename_i xs hxs
      split at hb
      · rename_i hu
        rcases srcA_ok h hx hxs hu with ⟨rfl, base, cap, rfl⟩ | ⟨b, off', cap, vs, rfl, hl, hC, hV⟩
        · simp [bytesL] at hb
          subst hb
          cases base with
          | none => simp [Conv.bytesToString, strOf]; rfl
          | some a =>
            have := run_bytesToString (P := P) w a 0 cap [] (by simp [loadCells, loadCellsFrom])
            rw [this]; rfl
        · exact key b off' _ cap vs (by simpa using hl) hC (bytesL_ok (by rw [flatten_length (uni_len hu), hl]) hV hb)
      · cases hb
    · cases hb
  · cases hb

def byteCells (s : ByteArray) : List (List AV) := s.data.toList.map fun b => [.val (.int .u8 b.toNat)]

/-- []byte(s) -/
theorem stringBytes_ok {K : Kw} {A : AState} {w : World} (h : Sat K A w) (e : TypeId) (s : ByteArray) :
    ∃ K' y w', (Conv.stringToBytes e s).run P w = .ok y w' ∧ K.le K' ∧ Sat K' A w' ∧ K'.V (.slice (byteCells s) .any) y := by
  let cap := (Question.appendCap s.size 0 e).cut (w.tape w.drawn (.appendCap s.size 0 e))
  let arr : Array Value := (s.data.map fun b => Value.int .u8 b.toNat) ++ Array.replicate (cap - s.size) (.int .u8 0)
  have hge : s.size ≤ cap := by simp [cap, Question.cut]
  have hasz : arr.size = cap := by simp [arr]; omega
  have hheap : ((w.drew.alloc (.cells arr e)).freeze ⟨w.heap.size, cap, none⟩ 1).heap[w.heap.size]? = some (.cells arr e (cap, cap + 1)) := by
    have h0 := halloc_new w.drew (.cells arr e)
    have h1 : (w.drew.alloc (.cells arr e)).heap[w.heap.size]? = some (.cells arr e (0, 0)) := h0
    simp only [World.freeze, Nat.one_ne_zero, if_false, Array.getElem?_modify, if_true, h1, Option.map_some]
    rfl
  have hrun : (Conv.stringToBytes e s).run P w = .ok (.slice (some ⟨w.heap.size, 0, none⟩) s.size cap) ((w.drew.alloc (.cells arr e)).freeze ⟨w.heap.size, cap, none⟩ 1) := by
    have hsh : (w.drew.alloc (.cells arr e)).shape? w.heap.size = some (e, cap) := by
      have h1 : (w.drew.alloc (.cells arr e)).heap[w.heap.size]? = some (.cells arr e (0, 0)) := halloc_new w.drew (.cells arr e)
      simp only [World.shape?, h1, hasz]
    have hch : (choose (.appendCap s.size 0 e)).run P w = .ok cap w.drew := by simp [Question.forced, cap]
    simp only [Conv.stringToBytes, Sem.run_bind, hch, Result.andThen_ok, newRow, run_newObj, Sem.run_pure]
    have e1 : ({ w.drew with heap := w.drew.heap.push (.cells ((s.data.map fun b => Value.int .u8 b.toNat) ++ Array.replicate (cap - s.size) (.int .u8 0)) e) } : World) = w.drew.alloc (.cells arr e) := rfl
    rw [e1]
    have e2 : w.drew.heap.size = w.heap.size := rfl
    rw [e2]
    simp only [markStringish, Sem.run_bind, run_shape, hsh, Result.andThen_ok, run_freeze]
  obtain ⟨hK, hsat⟩ := Sat.update h (w' := (w.drew.alloc (.cells arr e)).freeze ⟨w.heap.size, cap, none⟩ 1) w.heap.size (fun o => arr[o]?) K.Om h.base_new h.not_ι_new
    (fun b' hne hlt => by
      have h1 : (w.drew.alloc (.cells arr e)).heap[b']? = w.heap[b']? := halloc_old w.drew (.cells arr e) hlt
      simp only [World.freeze]
      rw [if_neg (by decide)]
      simp only [Array.getElem?_modify]
      rw [if_neg (fun hh => hne hh.symm)]
      exact h1)
    (by simp [World.freeze]) (fun o v hv => by
      simp only [World.cell?, hheap]
      simpa using hv) (fun o v hv => by rw [h.S_new] at hv; cases hv) (fun g e he => ⟨e, he, Nat.le_refl _, fun _ => rfl, rfl, fun _ => rfl⟩) h.row_new
    (fun g e he hlv => .inl ⟨he, fun heq => absurd (h.own_lt he hlv) (by rw [heq]; exact Nat.lt_irrefl _)⟩)
    (fun g g' e e' he he' hlv hlv' hb hb' => absurd (h.own_lt he hlv) (by rw [hb]; exact Nat.lt_irrefl _))
  rw [h.lens_eq] at hsat
  refine ⟨_, _, _, hrun, hK, hsat, ?_⟩
  have hlen : (byteCells s).length = s.size := by simp [byteCells]
  have hflat : (byteCells s).flatten = s.data.toList.map fun b => .val (.int .u8 b.toNat) := by
    unfold byteCells
    generalize s.data.toList = l
    induction l with
    | nil => rfl
    | cons x l ih => simp [ih]
  have := V.flat (S := K.S.set w.heap.size fun o => arr[o]?) (Om := K.Om) (ι := K.ι) (es := byteCells s) (tag := .any) (b := w.heap.size) (off := 0) (cap := cap) (s := 1) (s.data.toList.map fun b => Value.int .u8 b.toNat)
    (by simp [hlen]) (by rw [uni, List.all_eq_true]; intro c hc; obtain ⟨b, _, rfl⟩ := List.mem_map.1 hc; rfl) (fun j x hx => by
      have hj : j < s.data.size := by have := (List.getElem?_eq_some_iff.1 hx).1; simpa using this
      simp only [Snap.set, if_true, Nat.zero_add, arr]
      rw [Array.getElem?_append_left (by simpa using hj)]
      simpa using hx) (fun j c x hc hx => by
      rw [hflat] at hc
      rw [List.getElem?_map] at hc hx
      cases hd : s.data.toList[j]? with
      | none => rw [hd] at hc; cases hc
      | some b => rw [hd] at hc hx; simp at hc hx; subst hc; subst hx; exact .val _) (by rw [hlen]; exact hge) trivial
  rw [hlen] at this
  exact this

/-- make([]T, n, c) -/
def makeSliceA (P : Program) (A : AState) (t : TypeId) (l c : Int) : Option (AV × AState) :=
  match (tyElem P t).bind P.info? with
  | some i =>
    match i.zero with
    | some z => match cellsOf (ofVal z) with
      | some zs => if 0 ≤ l ∧ l ≤ c ∧ c * i.bytes ≤ 140737488355328 ∧ c ≤ 140737488355328 ∧ zs.length = i.size ∧ 0 < i.size ∧ zs.all (belowB 0) = true then
          some (.mslice A.boxes.length 0 l.toNat c.toNat, { A with boxes := A.boxes ++ [(List.replicate c.toNat zs).flatten] }) else none
      | none => none
    | none => none
  | none => none

theorem replicate_flatten_get {α : Type} [Inhabited α] (zs : List α) (n : Nat) : ((List.replicate n zs).flatten) = (List.range (n * zs.length)).map fun j => zs.getD (j % zs.length) default := by
  induction n with
  | zero => simp
  | succ n ih =>
    rw [List.replicate_succ', List.flatten_append, ih, Nat.add_mul, Nat.one_mul, List.range_add, List.map_append]
    congr 1
    rw [List.map_map]
    apply List.ext_getElem?
    intro j
    simp only [List.flatten_cons, List.flatten_nil, List.append_nil, List.getElem?_map]
    by_cases hj : j < zs.length
    · rw [List.getElem?_range hj]
      simp [Nat.mul_add_mod_of_lt, hj, Nat.mod_eq_of_lt hj]
    · rw [List.getElem?_eq_none (by omega), List.getElem?_eq_none (by simp; omega)]; rfl

end
end Go.Ab
