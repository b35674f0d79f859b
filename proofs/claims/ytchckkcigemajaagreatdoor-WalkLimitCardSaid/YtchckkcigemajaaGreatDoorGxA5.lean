/- Literal slices and append, told by abstract values. -/
import Derived.Test.YtchckkcigemajaaGreatDoorGxA4
namespace Go.Ab
set_option linter.unusedVariables false
set_option linter.unusedSimpArgs false

theorem flatten_get {s : Nat} : ∀ {es : List (List AV)} {i j : Nat} {e : List AV} {c : AV}, (∀ e ∈ es, e.length = s) → es[i]? = some e → e[j]? = some c → es.flatten[i * s + j]? = some c
  | [], i, j, e, c, _, h, _ => by simp at h
  | x :: es, 0, j, e, c, hu, h, hj => by
    simp at h
    subst h
    rw [List.flatten_cons, Nat.zero_mul, Nat.zero_add, List.getElem?_append_left (List.getElem?_eq_some_iff.1 hj).1]
    exact hj
  | x :: es, i + 1, j, e, c, hu, h, hj => by
    have hx := hu x (by simp)
    rw [List.flatten_cons, List.getElem?_append_right (by rw [hx, Nat.add_mul]; omega), hx]
    have := flatten_get (es := es) (i := i) (fun e he => hu e (by simp [he])) (by simpa using h) hj
    rw [← this]
    congr 1
    rw [Nat.add_mul]; omega

theorem flatten_length {s : Nat} : ∀ {es : List (List AV)}, (∀ e ∈ es, e.length = s) → es.flatten.length = es.length * s
  | [], _ => by simp
  | x :: es, h => by
    rw [List.flatten_cons, List.length_append, h x (by simp), flatten_length (fun e he => h e (by simp [he]))]
    simp [Nat.add_mul]; omega

theorem flatten_put {s : Nat} : ∀ {es : List (List AV)} {k : Nat} {c : AV}, (∀ e ∈ es, e.length = s) → es.flatten[k]? = some c → ∃ (i j : Nat) (e : List AV), k = i * s + j ∧ es[i]? = some e ∧ e[j]? = some c
  | [], k, c, _, h => by simp at h
  | x :: es, k, c, hu, h => by
    have hx := hu x (by simp)
    by_cases hk : k < s
    · rw [List.flatten_cons, List.getElem?_append_left (by omega)] at h
      exact ⟨0, k, x, by omega, rfl, h⟩
    · rw [List.flatten_cons, List.getElem?_append_right (by omega), hx] at h
      obtain ⟨i, j, e, h1, h2, h3⟩ := flatten_put (es := es) (fun e he => hu e (by simp [he])) h
      exact ⟨i + 1, j, e, by rw [Nat.add_mul]; omega, by simpa using h2, h3⟩

theorem uni_len {s : Nat} {es : List (List AV)} (h : uni s es = true) : ∀ e ∈ es, e.length = s := by
  intro e he
  have := List.all_eq_true.1 h e he
  simp at this
  exact this.1

/-- a slice out of a flat row -/
theorem V.flat {S : Snap} {Om : List OwnE} {ι : List Nat} {es : List (List AV)} {tag : Tag} {b off cap s : Nat} (xs : List Value) (hl : xs.length = es.length * s) (hu : uni s es = true)
    (hS : ∀ (j : Nat) (x : Value), xs[j]? = some x → S b (off + j) = some x) (hV : ∀ (j : Nat) (c : AV) (x : Value), es.flatten[j]? = some c → xs[j]? = some x → V S Om [] c x)
    (hc : es.length ≤ cap) (ht : TagOk Om tag b off es.length cap s) : V S Om ι (.slice es tag) (.slice (some ⟨b, off, none⟩) es.length cap) := by
  have hget : ∀ (i : Nat) (u : List Value), ((List.range es.length).map fun i => (xs.drop (i * s)).take s)[i]? = some u → i < es.length ∧ u = (xs.drop (i * s)).take s := by
    intro i u h
    rw [List.getElem?_map] at h
    by_cases hi : i < es.length
    · rw [List.getElem?_range hi] at h
      simp at h
      exact ⟨hi, h.symm⟩
    · rw [List.getElem?_eq_none (by simp; omega)] at h; cases h
  have hin : ∀ i, i < es.length → i * s + s ≤ xs.length := fun i hi => by
    rw [hl]
    have := Nat.mul_le_mul_right s (Nat.succ_le_of_lt hi)
    rw [Nat.succ_mul] at this
    exact this
  refine .slice (sz := s) ((List.range es.length).map fun i => (xs.drop (i * s)).take s) (by simp) ?_ ?_ ?_ ?_ hc ht
  · intro u hu'
    obtain ⟨i, hi⟩ := List.mem_iff_getElem?.1 hu'
    obtain ⟨hlt, rfl⟩ := hget i u hi
    have := hin i hlt
    simp; omega
  · intro i e u he hu'
    obtain ⟨hlt, rfl⟩ := hget i u hu'
    have := hin i hlt
    have h2 := uni_spec hu he
    simp; omega
  · intro i u j x hu' hx
    obtain ⟨hlt, rfl⟩ := hget i u hu'
    rw [List.getElem?_take] at hx
    split at hx
    · rw [List.getElem?_drop] at hx
      have := hS _ x hx
      rwa [← Nat.add_assoc] at this
    · cases hx
  · intro i e u j c x he hu' hc' hx
    obtain ⟨hlt, rfl⟩ := hget i u hu'
    rw [List.getElem?_take] at hx
    split at hx
    · rw [List.getElem?_drop] at hx
      exact hV _ c x (flatten_get (uni_len hu) he hc') hx
    · cases hx

/-- .. and the other way round -/
theorem V.unflat {S : Snap} {Om : List OwnE} {ι : List Nat} {es : List (List AV)} {tag : Tag} {u : Value} {s : Nat} (h : V S Om ι (.slice es tag) u) (hu : uni s es = true) :
    (es = [] ∧ ∃ base cap, u = .slice base 0 cap ∧ TagE Om tag base cap) ∨
    ∃ (b off cap : Nat) (xs : List Value) (sz : Nat), u = .slice (some ⟨b, off, none⟩) es.length cap ∧ es.length ≤ cap ∧ xs.length = es.length * s ∧ TagOk Om tag b off es.length cap sz ∧ (es ≠ [] → sz = s) ∧
      (∀ (j : Nat) (x : Value), xs[j]? = some x → S b (off + j) = some x) ∧ (∀ (j : Nat) (c : AV) (x : Value), es.flatten[j]? = some c → xs[j]? = some x → V S Om [] c x) := by
  cases h with
  | empty ht => exact .inl ⟨rfl, _, _, rfl, ht⟩
  | slice us hl hsz hes hS hV hc ht =>
    rename_i b off cap sz
    by_cases he : es = []
    · subst he
      exact .inr ⟨b, off, cap, [], sz, rfl, hc, by simp, ht, fun h => absurd rfl h, by simp, by simp⟩
    · refine .inr ⟨b, off, cap, us.flatten, sz, rfl, hc, ?_, ht, ?_, ?_, ?_⟩
      all_goals
        have hpos : 0 < es.length := by cases es with | nil => exact absurd rfl he | cons _ _ => simp
        have hs : sz = s := by
          have h1 := hsz us[0] (List.getElem_mem (by omega))
          have h2 := hes 0 _ _ (List.getElem?_eq_getElem hpos) (List.getElem?_eq_getElem (by omega))
          have h3 := uni_spec hu (List.getElem?_eq_getElem hpos)
          omega
      · have : ∀ (us : List (List Value)), (∀ u ∈ us, u.length = sz) → us.flatten.length = us.length * sz := by
          intro us
          induction us with
          | nil => simp
          | cons x us ih => intro h; rw [List.flatten_cons, List.length_append, h x (by simp), ih (fun e he => h e (by simp [he]))]; simp [Nat.add_mul]; omega
        rw [this us hsz, hl, hs]
      · exact fun _ => hs
      · have aux : ∀ (us : List (List Value)) (o : Nat), (∀ u ∈ us, u.length = sz) → (∀ (i : Nat) (u : List Value) (j : Nat) (x : Value), us[i]? = some u → u[j]? = some x → S b (o + i * sz + j) = some x) →
            ∀ (j : Nat) (x : Value), us.flatten[j]? = some x → S b (o + j) = some x := by
          intro us
          induction us with
          | nil => intro o _ _ j x hx; simp at hx
          | cons y us ih =>
            intro o hsz hS j x hx
            have hy := hsz y (by simp)
            by_cases hj : j < sz
            · rw [List.flatten_cons, List.getElem?_append_left (by omega)] at hx
              have := hS 0 y j x rfl hx
              simpa using this
            · rw [List.flatten_cons, List.getElem?_append_right (by omega), hy] at hx
              have := ih (o + sz) (fun u hu => hsz u (by simp [hu])) (fun i u j x hu hx => by
                have := hS (i + 1) u j x (by simpa using hu) hx
                rw [← this]; congr 1; rw [Nat.add_mul]; omega) (j - sz) x hx
              rw [← this]; congr 1; omega
        exact aux us off hsz hS
      · have aux : ∀ (es : List (List AV)) (us : List (List Value)), us.length = es.length → (∀ u ∈ us, u.length = sz) → (∀ e ∈ es, e.length = sz) →
            (∀ (i : Nat) (e : List AV) (u : List Value) (j : Nat) (c : AV) (x : Value), es[i]? = some e → us[i]? = some u → e[j]? = some c → u[j]? = some x → V S Om [] c x) →
            ∀ (j : Nat) (c : AV) (x : Value), es.flatten[j]? = some c → us.flatten[j]? = some x → V S Om [] c x := by
          intro es
          induction es with
          | nil => intro us _ _ _ _ j c x hc; simp at hc
          | cons e es ih =>
            intro us hl hsz hsz' hV j c x hc hx
            cases us with
            | nil => simp at hl
            | cons u us =>
              have h1 := hsz u (by simp)
              have h2 := hsz' e (by simp)
              by_cases hj : j < sz
              · rw [List.flatten_cons, List.getElem?_append_left (by omega)] at hc hx
                exact hV 0 e u j c x rfl rfl hc hx
              · rw [List.flatten_cons, List.getElem?_append_right (by omega)] at hc hx
                rw [h2] at hc; rw [h1] at hx
                exact ih us (by simpa using hl) (fun u hu => hsz u (by simp [hu])) (fun e he => hsz' e (by simp [he])) (fun i e u j c x he hu => hV (i + 1) e u j c x (by simpa using he) (by simpa using hu)) _ c x hc hx
        exact aux es us hl hsz (fun e he => by rw [hs]; exact uni_len hu e he) hV

section
variable {P : Program}

/-- what a slice holds that is read -/
def srcA (A : AState) : AV → Option (List (List AV))
  | .slice es _ => some es
  | .row g off n => match rowL A.rows g with
    | some es => if off + n ≤ es.length then some ((es.drop off).take n) else none
    | none => none
  | _ => none

theorem srcA_ok {K : Kw} {A : AState} {w : World} (h : Sat K A w) {x : AV} {u : Value} (hx : K.V x u) {xs : List (List AV)} (hs : srcA A x = some xs) {s : Nat} (hu : uni s xs = true) :
    (xs = [] ∧ ∃ base cap, u = .slice base 0 cap) ∨ ∃ (b off cap : Nat) (vs : List Value), u = .slice (some ⟨b, off, none⟩) xs.length cap ∧ vs.length = xs.length * s ∧
      (∀ (j : Nat) (y : Value), vs[j]? = some y → w.cell? ⟨b, off + j, none⟩ = some y) ∧ ∀ (j : Nat) (c : AV) (y : Value), xs.flatten[j]? = some c → vs[j]? = some y → V K.S K.Om [] c y := by
  unfold srcA at hs
  split at hs
  · rename_i es tag
    injection hs with hs
    subst hs
    rcases hx.unflat hu with ⟨rfl, bx, cx, rfl, _⟩ | ⟨bx, ox, cx, vx, szx, rfl, hcx, hlx, _, _, hSx, hVx⟩
    · exact .inl ⟨rfl, _, _, rfl⟩
    · exact .inr ⟨bx, ox, cx, vx, rfl, hlx, fun j y hy => h.cells _ _ _ (hSx j y hy), hVx⟩
  · rename_i g off n
    split at hs
    · rename_i es hes
      split at hs
      · rename_i hle
        injection hs with hs
        subst hs
        cases hx with
        | row he hrow hm hn =>
          rename_i ent
          by_cases h0 : n = 0
          · subst h0
            exact .inl ⟨by simp, _, _, rfl⟩
          · obtain ⟨e', hr⟩ := h.rows g es hes
            have : e' = ent := by have := hr.om; rw [he] at this; injection this with this; exact this.symm
            subst this
            obtain ⟨hlen, hcap, arr, ty, hh, hsz, hels, hV⟩ := hr.cells hm
            have hget : ∀ i, i < n → ((es.drop off).take n)[i]? = es[off + i]? := fun i hi => by rw [List.getElem?_take_of_lt hi, List.getElem?_drop]
            have hssz : s = e'.sz := by
              have h1 := hget 0 (by omega)
              have h2 : (es[off + 0]?) = some es[off] := List.getElem?_eq_getElem (by omega)
              rw [h2] at h1
              rw [← uni_spec hu h1, hels _ _ h2]
            subst hssz
            have hxl : ((es.drop off).take n).length = n := by simp; omega
            have hbound : off * e'.sz + n * e'.sz ≤ arr.size := by rw [hsz, ← Nat.add_mul]; exact Nat.mul_le_mul_right _ (by omega)
            refine .inr ⟨e'.blk, off * e'.sz, e'.cap - off, (arr.toList.drop (off * e'.sz)).take (n * e'.sz), by rw [hxl], by rw [hxl]; simp; omega, ?_, ?_⟩
            · intro j y hy
              have hj : j < n * e'.sz := by have := (List.getElem?_eq_some_iff.1 hy).1; simp at this; omega
              rw [List.getElem?_take_of_lt hj, List.getElem?_drop] at hy
              simp only [World.cell?, hh]
              simpa using hy
            · intro j c y hc hy
              have hj : j < n * e'.sz := by have := (List.getElem?_eq_some_iff.1 hy).1; simp at this; omega
              rw [List.getElem?_take_of_lt hj, List.getElem?_drop] at hy
              obtain ⟨i, r, el, rfl, hi, hr'⟩ := flatten_put (uni_len hu) hc
              have hin : i < n := by have := (List.getElem?_eq_some_iff.1 hi).1; omega
              rw [hget i hin] at hi
              exact hV (off + i) el r c y hi hr' (by rw [Nat.add_mul, Nat.add_assoc]; simpa using hy)
      · cases hs
    · cases hs
  · cases hs

/-- append(s, x...) -/
def appendA0 (P : Program) (A : AState) (t : TypeId) (s x : AV) : Option (AV × AState) :=
  match s, srcA A x, (tyElem P t).bind P.info? with
  | .slice es tag, some xs, some i =>
    if uni i.size es = true ∧ uni i.size xs = true ∧ (es.length + xs.length) * i.bytes ≤ 140737488355328 ∧ es.length + xs.length ≤ 140737488355328 ∧ i.zero.isSome = true ∧ (i.zero.map (·.cells.size)) = some i.size then
      match tag with
      | .full => some (.slice (es ++ xs) (.own A.lens.length), { A with lens := A.lens ++ [es.length + xs.length] })
      | .own g => if A.lens[g]? = some es.length then some (.slice (es ++ xs) (.own g), { A with lens := A.lens.set g (es.length + xs.length) }) else none
      | .any => none
      | .nil => none
      | .fresh => if es = [] then (if xs = [] then some (.slice [] .fresh, A) else some (.row A.lens.length 0 xs.length, { A with lens := A.lens ++ [xs.length], rows := (A.lens.length, xs) :: A.rows })) else none
    else none
  | .row g off n, some xs, some i =>
    match rowL A.rows g with
    | some es =>
      if off = 0 ∧ es.length = n ∧ uni i.size es = true ∧ uni i.size xs = true ∧ (n + xs.length) * i.bytes ≤ 140737488355328 ∧ n + xs.length ≤ 140737488355328 ∧ i.zero.isSome = true ∧ (i.zero.map (·.cells.size)) = some i.size ∧ 0 < n then
        if xs = [] then some (.row g 0 n, A) else some (.row A.lens.length 0 (n + xs.length), { A with lens := A.lens ++ [n + xs.length], rows := (A.lens.length, es ++ xs) :: killL A.rows g })
      else none
    | none => none
  | _, _, _ => none

def appendA (P : Program) (A : AState) (t : TypeId) (s x : AV) : Option (AV × AState) :=
  match s with
  | .slice [] .nil => match srcA A x, (tyElem P t).bind P.info? with
    | some [], some _ => some (.slice [] .nil, A)
    | _, _ => appendA0 P A t (.slice [] .full) x
  | s => appendA0 P A t s x

theorem leaf_cells {K : Kw} {s : Nat} {xs : List (List AV)} (hu : uni s xs = true) {vs : List Value} (hl : vs.length = xs.length * s) (hV : ∀ (j : Nat) (c : AV) (x : Value), xs.flatten[j]? = some c → vs[j]? = some x → V K.S K.Om [] c x) :
    ∀ v ∈ vs, v.oneCell' = true := by
  intro v hv
  obtain ⟨j, hj⟩ := List.mem_iff_getElem?.1 hv
  have hlt : j < xs.flatten.length := by rw [flatten_length (uni_len hu), ← hl]; exact (List.getElem?_eq_some_iff.1 hj).1
  refine (hV j _ v (List.getElem?_eq_getElem hlt) hj).leaf ?_
  obtain ⟨e, he, hc⟩ := List.mem_flatten.1 (List.getElem_mem hlt)
  have := List.all_eq_true.1 hu e he
  simp only [Bool.and_eq_true] at this
  exact List.all_eq_true.1 this.2 _ hc

theorem lens_get {K : Kw} {A : AState} {w : World} (h : Sat K A w) {g n : Nat} (hg : A.lens[g]? = some n) : ∃ e : OwnE, K.Om[g]? = some e ∧ e.len = n := by
  rw [← h.lens, List.getElem?_map] at hg
  simp only [Option.map_eq_some_iff] at hg
  obtain ⟨e, he, rfl⟩ := hg
  exact ⟨e, he, rfl⟩

/-- appending nothing -/
theorem run_append_none {t ty e : TypeId} {i : TypeInfo} (ht : P.underlying t = some (.slice e)) (hi : P.info? e = some i) (base bx : Option Addr) (n cap cx : Nat) (hc : n ≤ cap) (w : World) :
    (Builtin.append_ #[t, t] ty #[.slice base n cap, .slice bx 0 cx]).run P w = .ok (.slice base n cap) w := by
  have hf : (Builtin.firstCells i.size 0 (.slice bx 0 cx)).run P w = .ok #[] w := by
    cases bx with
    | none => simp [Builtin.firstCells]
    | some a => simp [Builtin.firstCells, loadCells, loadCellsFrom]
  cases base <;> simp [Builtin.append_, run_underlying ht, sizeOf, typeInfo, hi, Builtin.lenOf, hc, hf, storeCells]

theorem size_zeroCells' (z : Array Value) (n : Nat) : (Builtin.zeroCells z n).size = n * z.size := by simp [Builtin.zeroCells]

theorem tagOk_own_dead {K : Kw} {n : Nat} {b off cap sz : Nat} (hc : cap = n) (g : Nat) (hg : g = K.Om.length) : TagOk (K.Om ++ [⟨false, 0, n, n, 0, false, false⟩]) (.own g) b off n cap sz := by
  subst hg
  exact ⟨⟨false, 0, n, n, 0, false, false⟩, by simp, rfl, Nat.le_refl _, fun _ => .inr hc⟩

/-- a new row out of a flat list of cells -/
theorem newRow_flat {K : Kw} {A : AState} {w : World} (h : Sat K A w) (arr : Array Value) (ty : TypeId) (cap sz : Nat) (es : List (List AV)) (hcap : es.length ≤ cap) (hsz : arr.size = cap * sz) (hu : ∀ e ∈ es, e.length = sz)
    (hV : ∀ (j : Nat) (c : AV) (y : Value), es.flatten[j]? = some c → arr[j]? = some y → V K.S K.Om [] c y) :
    ∃ K', K.le K' ∧ Sat K' { A with lens := A.lens ++ [es.length], rows := (A.lens.length, es) :: A.rows } (w.alloc (.cells arr ty)) ∧ K'.V (.row A.lens.length 0 es.length) (.slice (some ⟨w.heap.size, 0, none⟩) es.length cap) := by
  obtain ⟨hK, hsat⟩ := Sat.newRow h arr ty es.length cap sz es hcap rfl hsz (fun i el hi => hu el (List.mem_of_getElem? hi)) (fun i el j c u h1 h2 h3 => hV _ c u (flatten_get hu h1 h2) h3)
  refine ⟨_, hK, hsat, ?_⟩
  have hlen : A.lens.length = K.Om.length := by rw [← h.lens]; simp
  have := V.row (S := K.S) (Om := K.Om ++ [⟨false, w.heap.size, es.length, cap, sz, true, false⟩]) (ι := K.ι) (g := A.lens.length) (off := 0) (n := es.length) (e := ⟨false, w.heap.size, es.length, cap, sz, true, false⟩) (by rw [hlen]; simp) rfl rfl (by simp)
  simpa using this

/-- append where a new block is had: a new row -/
theorem growRow_ok {K : Kw} {A : AState} {w : World} (h : Sat K A w) {t ty e : TypeId} {i : TypeInfo} {z : Value} (ht : P.underlying t = some (.slice e)) (hi : P.info? e = some i) (hz : i.zero = some z) (hzs : z.cells.size = i.size)
    {es xs : List (List AV)} (hu1 : uni i.size es = true) (hu2 : uni i.size xs = true) (hbytes : (es.length + xs.length) * i.bytes ≤ 140737488355328) (h47 : es.length + xs.length ≤ 140737488355328)
    {b a : Addr} {cap cx : Nat} {olds vx : List Value} (hcap : cap < es.length + xs.length) (hol : olds.length = es.length * i.size) (holds : ∀ (j : Nat) (u : Value), olds[j]? = some u → w.cell? (b.add j) = some u)
    (holdV : ∀ (j : Nat) (c : AV) (u : Value), es.flatten[j]? = some c → olds[j]? = some u → V K.S K.Om [] c u) (hlx : vx.length = xs.length * i.size) (hnews : ∀ (j : Nat) (u : Value), vx[j]? = some u → w.cell? (a.add j) = some u)
    (hVx : ∀ (j : Nat) (c : AV) (u : Value), xs.flatten[j]? = some c → vx[j]? = some u → V K.S K.Om [] c u) :
    ∃ K' y w', (Builtin.append_ #[t, t] ty #[.slice (some b) es.length cap, .slice (some a) xs.length cx]).run P w = .ok y w' ∧ K.le K' ∧
      Sat K' { A with lens := A.lens ++ [es.length + xs.length], rows := (A.lens.length, es ++ xs) :: A.rows } w' ∧ K'.V (.row A.lens.length 0 (es.length + xs.length)) y := by
  have hr := run_append_grow (P := P) w t ty e i z ht hi hz b es.length cap olds hol holds a xs.length cx vx hlx hnews hcap (by omega) (growslice_fits hcap hbytes)
  have hge := grownCap_ge w (es.length + xs.length) cap e
  have hlen : (es ++ xs).length = es.length + xs.length := by simp
  obtain ⟨K', hK, hsat, hv⟩ := newRow_flat h.drew (olds.toArray ++ vx.toArray ++ Builtin.zeroCells z.cells (grownCap w (es.length + xs.length) cap e - (es.length + xs.length))) e (grownCap w (es.length + xs.length) cap e) i.size (es ++ xs)
    (by rw [hlen]; exact hge) (by
      simp only [Array.size_append, List.size_toArray, size_zeroCells', hzs, hol, hlx, ← Nat.add_mul]
      congr 1; omega) (fun el hel => by
      rcases List.mem_append.1 hel with h | h
      · exact uni_len hu1 el h
      · exact uni_len hu2 el h) (by
      intro j c y hc hy
      rw [List.flatten_append] at hc
      have hfl := flatten_length (uni_len hu1)
      have hfx := flatten_length (uni_len hu2)
      by_cases hj : j < es.length * i.size
      · rw [List.getElem?_append_left (by omega)] at hc
        rw [Array.getElem?_append_left (by simp; omega), Array.getElem?_append_left (by simp; omega)] at hy
        exact holdV j c y hc (by simpa using hy)
      · rw [List.getElem?_append_right (by omega), hfl] at hc
        have hjx : j - es.length * i.size < xs.length * i.size := by rw [← hfx]; exact (List.getElem?_eq_some_iff.1 hc).1
        rw [Array.getElem?_append_left (by simp; omega), Array.getElem?_append_right (by simp; omega)] at hy
        exact hVx _ c y hc (by simpa [hol] using hy))
  rw [hlen] at hsat hv
  exact ⟨K', _, _, hr, hK, hsat, hv⟩

/-- append to an empty slice without room: a new row -/
theorem freshRow_ok {K : Kw} {A : AState} {w : World} (h : Sat K A w) {t ty e : TypeId} {i : TypeInfo} {z : Value} (ht : P.underlying t = some (.slice e)) (hi : P.info? e = some i) (hz : i.zero = some z) (hzs : z.cells.size = i.size)
    {xs : List (List AV)} (hu2 : uni i.size xs = true) (hbytes : xs.length * i.bytes ≤ 140737488355328) (h47 : xs.length ≤ 140737488355328) (hpos : 0 < xs.length)
    {base : Option Addr} {a : Addr} {cx : Nat} {vx : List Value} (hlx : vx.length = xs.length * i.size) (hnews : ∀ (j : Nat) (u : Value), vx[j]? = some u → w.cell? (a.add j) = some u)
    (hVx : ∀ (j : Nat) (c : AV) (u : Value), xs.flatten[j]? = some c → vx[j]? = some u → V K.S K.Om [] c u) :
    ∃ K' y w', (Builtin.append_ #[t, t] ty #[.slice base 0 0, .slice (some a) xs.length cx]).run P w = .ok y w' ∧ K.le K' ∧
      Sat K' { A with lens := A.lens ++ [xs.length], rows := (A.lens.length, xs) :: A.rows } w' ∧ K'.V (.row A.lens.length 0 xs.length) y := by
  cases base with
  | some b =>
    have := growRow_ok (P := P) (ty := ty) h ht hi hz hzs (es := []) (xs := xs) (b := b) (a := a) (cap := 0) (cx := cx) (olds := []) (vx := vx) rfl hu2 (by simpa using hbytes) (by simpa using h47) (by simpa using hpos) (by simp) (by simp) (by simp) hlx hnews hVx
    simpa using this
  | none =>
    have hr := run_append_nil (P := P) w t ty e i z ht hi hz a xs.length cx vx hlx hnews hpos (by omega) (by omega)
    have hge := grownCap_ge w xs.length 0 e
    obtain ⟨K', hK, hsat, hv⟩ := newRow_flat h.drew (vx.toArray ++ Builtin.zeroCells z.cells (grownCap w xs.length 0 e - xs.length)) e (grownCap w xs.length 0 e) i.size xs hge (by
      simp only [Array.size_append, List.size_toArray, size_zeroCells', hzs, hlx, ← Nat.add_mul]
      congr 1; omega) (uni_len hu2) (by
      intro j c y hc hy
      have hfx := flatten_length (uni_len hu2)
      have hj : j < xs.length * i.size := by rw [← hfx]; exact (List.getElem?_eq_some_iff.1 hc).1
      rw [Array.getElem?_append_left (by simp; omega)] at hy
      exact hVx j c y hc (by simpa using hy))
    exact ⟨K', _, _, hr, hK, hsat, hv⟩

theorem appendRow_ok {K : Kw} {A A' : AState} {w : World} (h : Sat K A w) {t ty : TypeId} {g off n : Nat} {x v : AV} {us ux : Value} (hs : K.V (.row g off n) us) (hx : K.V x ux) {xs : List (List AV)} {i : TypeInfo} (hsrc : srcA A x = some xs) (hinfo : (tyElem P t).bind P.info? = some i)
    (ha : (match rowL A.rows g with
    | some es =>
      if off = 0 ∧ es.length = n ∧ uni i.size es = true ∧ uni i.size xs = true ∧ (n + xs.length) * i.bytes ≤ 140737488355328 ∧ n + xs.length ≤ 140737488355328 ∧ i.zero.isSome = true ∧ (i.zero.map (·.cells.size)) = some i.size ∧ 0 < n then
        if xs = [] then some (AV.row g 0 n, A) else some (.row A.lens.length 0 (n + xs.length), { A with lens := A.lens ++ [n + xs.length], rows := (A.lens.length, es ++ xs) :: killL A.rows g })
      else none
    | none => none) = some (v, A')) :
    ∃ K' y w', (Builtin.append_ #[t, t] ty #[us, ux]).run P w = .ok y w' ∧ K.le K' ∧ Sat K' A' w' ∧ K'.V v y := by
  obtain ⟨e, hel, hi⟩ := Option.bind_eq_some_iff.1 hinfo
  have ht := tyElem_some hel
  split at ha
  case h_2 => cases ha
  rename_i es hes
  split at ha
  case isFalse => cases ha
  rename_i hcond
  obtain ⟨rfl, rfl, hu1, hu2, hbytes, h47, hz, hzs, hn0⟩ := hcond
  obtain ⟨z, hz⟩ := Option.isSome_iff_exists.1 hz
  rw [hz] at hzs
  simp at hzs
  obtain ⟨ent, hr⟩ := h.rows g es hes
  cases hs with
  | row he hrow hm hn =>
    rename_i ent'
    have : ent = ent' := by have := hr.om; rw [he] at this; injection this with this; exact this.symm
    subst this
    obtain ⟨hlen, hcap, arr, ty', hh, hasz, hels, hV⟩ := hr.cells hm
    have hsz : ent.sz = i.size := by
      have h2 : es[0]? = some es[0] := List.getElem?_eq_getElem hn0
      rw [← hels _ _ h2, uni_spec hu1 h2]
    simp only [Nat.zero_mul, Nat.sub_zero]
    rcases srcA_ok h hx hsrc hu2 with ⟨rfl, bx, cx, rfl⟩ | ⟨bx, ox, cx, vx, rfl, hlx, hCx, hVx⟩
    · simp only [if_true, Option.some.injEq, Prod.mk.injEq] at ha
      obtain ⟨rfl, rfl⟩ := ha
      exact ⟨K, _, w, run_append_none ht hi _ _ _ _ _ (by omega) w, .refl K, h, by simpa using V.row (S := K.S) (Om := K.Om) (ι := K.ι) (g := g) (off := 0) (n := es.length) he hrow hm (by omega)⟩
    · by_cases hx0 : xs = []
      · subst hx0
        simp only [if_true, Option.some.injEq, Prod.mk.injEq] at ha
        obtain ⟨rfl, rfl⟩ := ha
        exact ⟨K, _, w, run_append_none ht hi _ _ _ _ _ (by omega) w, .refl K, h, by simpa using V.row (S := K.S) (Om := K.Om) (ι := K.ι) (g := g) (off := 0) (n := es.length) he hrow hm (by omega)⟩
      · rw [if_neg hx0] at ha
        simp only [Option.some.injEq, Prod.mk.injEq] at ha
        obtain ⟨rfl, rfl⟩ := ha
        have hxpos : 0 < xs.length := by cases xs with | nil => exact absurd rfl hx0 | cons _ _ => simp
        have hnews : ∀ (j : Nat) (u : Value), vx[j]? = some u → w.cell? ((⟨bx, ox, none⟩ : Addr).add j) = some u := fun j u hu => by rw [add_lit]; exact hCx j u hu
        by_cases hroom : es.length + xs.length ≤ ent.cap
        · have hfit : es.length * i.size + vx.length ≤ arr.size := by rw [hlx, hasz, hsz, ← Nat.add_mul]; exact Nat.mul_le_mul_right _ hroom
          have h1 := leaf_cells (K := K) hu2 hlx hVx
          have hst := run_storeCells_at P ent.blk (es.length * i.size) ty' vx 0 arr w hh (by simpa using hfit) h1
          have hf := run_firstCells_some (P := P) w i.size xs.length ⟨bx, ox, none⟩ xs.length cx vx hlx hnews
          have hrun : (Builtin.append_ #[t, t] ty #[.slice (some ⟨ent.blk, 0, none⟩) es.length ent.cap, .slice (some ⟨bx, ox, none⟩) xs.length cx]).run P w =
              .ok (.slice (some ⟨ent.blk, 0, none⟩) (es.length + xs.length) ent.cap) (w.setRow ent.blk (arr.toList.take (es.length * i.size) ++ vx ++ arr.toList.drop (es.length * i.size + vx.length)).toArray) := by
            simp only [Nat.add_zero] at hst
            simp [Builtin.append_, run_underlying ht, sizeOf, typeInfo, hi, Builtin.lenOf, hroom, hf, add_lit, hst]
          have hfl := flatten_length (uni_len hu1)
          have hfx := flatten_length (uni_len hu2)
          have huapp : ∀ el ∈ es ++ xs, el.length = i.size := fun el hel => by
            rcases List.mem_append.1 hel with h | h
            · exact uni_len hu1 el h
            · exact uni_len hu2 el h
          obtain ⟨hK, hsat⟩ := Sat.pushRow h hes hr (arr.toList.take (es.length * i.size) ++ vx ++ arr.toList.drop (es.length * i.size + vx.length)).toArray ty' arr hh (es.length + xs.length) (es ++ xs) hroom (by simp)
            (by simp only [List.size_toArray, List.length_append, List.length_take, List.length_drop, Array.length_toList]; omega) (fun k el hk => by rw [hsz]; exact huapp el (List.mem_of_getElem? hk)) (by
              intro k el j c u hk hj hu
              rw [hsz] at hu
              have hc := flatten_get huapp hk hj
              rw [List.flatten_append] at hc
              rw [List.getElem?_toArray, setSeg_get _ _ _ (by simpa using hfit)] at hu
              by_cases hlt : k * i.size + j < es.length * i.size
              · rw [if_pos hlt] at hu
                rw [List.getElem?_append_left (by omega)] at hc
                obtain ⟨k', j', el', hkk, hk', hj'⟩ := flatten_put (uni_len hu1) hc
                exact hV k' el' j' c u hk' hj' (by rw [hsz, ← hkk]; simpa using hu)
              · rw [if_neg hlt] at hu
                rw [List.getElem?_append_right (by omega), hfl] at hc
                have hjx : k * i.size + j - es.length * i.size < xs.length * i.size := by rw [← hfx]; exact (List.getElem?_eq_some_iff.1 hc).1
                rw [if_pos (by omega)] at hu
                exact hVx _ c u hc hu)
          refine ⟨_, _, _, hrun, hK, hsat, ?_⟩
          have hl2 : A.lens.length = K.Om.length := by rw [← h.lens]; simp
          have := V.row (S := K.S) (Om := K.Om ++ [⟨false, ent.blk, es.length + xs.length, ent.cap, ent.sz, true, false⟩]) (ι := K.ι) (g := A.lens.length) (off := 0) (n := es.length + xs.length) (e := ⟨false, ent.blk, es.length + xs.length, ent.cap, ent.sz, true, false⟩) (by rw [hl2]; simp) rfl rfl (by simp)
          simpa using this
        · have hbound : es.length * i.size ≤ arr.size := by rw [hasz, hsz]; exact Nat.mul_le_mul_right _ (by omega)
          have := growRow_ok (P := P) (ty := ty) (h.killRow g) ht hi hz hzs (es := es) (xs := xs) (b := ⟨ent.blk, 0, none⟩) (a := ⟨bx, ox, none⟩) (cap := ent.cap) (cx := cx) (olds := arr.toList.take (es.length * i.size)) (vx := vx) hu1 hu2 hbytes h47 (by omega) (by simp; omega)
            (by
              intro j u hu
              have hj : j < es.length * i.size := by have := (List.getElem?_eq_some_iff.1 hu).1; simp at this; omega
              rw [List.getElem?_take_of_lt hj] at hu
              rw [add_lit]
              simp only [World.cell?, hh]
              simpa using hu) (by
              intro j c u hc hu
              have hj : j < es.length * i.size := by have := (List.getElem?_eq_some_iff.1 hu).1; simp at this; omega
              rw [List.getElem?_take_of_lt hj] at hu
              obtain ⟨k', j', el', rfl, hk', hj'⟩ := flatten_put (uni_len hu1) hc
              exact hV k' el' j' c u hk' hj' (by rw [hsz]; simpa using hu)) hlx hnews hVx
          exact this

theorem appendA0_ok {K : Kw} {A A' : AState} {w : World} (h : Sat K A w) {t ty : TypeId} {s x v : AV} {us ux : Value} (hs : K.V s us) (hx : K.V x ux) (ha : appendA0 P A t s x = some (v, A')) :
    ∃ K' y w', (Builtin.append_ #[t, t] ty #[us, ux]).run P w = .ok y w' ∧ K.le K' ∧ Sat K' A' w' ∧ K'.V v y := by
  unfold appendA0 at ha
  split at ha
  case h_3 => cases ha
  case h_2 => exact appendRow_ok h hs hx (by assumption) (by assumption) ha
  rename_i es tag xs i hsrc hinfo
  obtain ⟨e, hel, hi⟩ := Option.bind_eq_some_iff.1 hinfo
  have ht := tyElem_some hel
  split at ha
  case isFalse => cases ha
  rename_i hcond
  obtain ⟨hu1, hu2, hbytes, h47, hz, hzs⟩ := hcond
  obtain ⟨z, hz⟩ := Option.isSome_iff_exists.1 hz
  rw [hz] at hzs
  simp at hzs
  -- what the growing way gives, whatever the tag
  rcases srcA_ok h hx hsrc hu2 with ⟨rfl, bx, cx, rfl⟩ | ⟨bx, ox, cx, vx, rfl, hlx, hCx, hVx⟩
  · -- nothing is appended
    have hrun : ∀ (base : Option Addr) (n cap : Nat), n ≤ cap → (Builtin.append_ #[t, t] ty #[.slice base n cap, .slice bx 0 cx]).run P w = .ok (.slice base n cap) w := fun base n cap hc => run_append_none ht hi base bx n cap cx hc w
    cases tag with
    | any => simp at ha
    | nil => simp at ha
    | fresh =>
      simp only [if_true] at ha
      split at ha
      · rename_i he
        injection ha with ha
        simp only [Prod.mk.injEq] at ha
        obtain ⟨rfl, rfl⟩ := ha
        subst he
        cases hs with
        | empty hte => exact ⟨K, _, w, hrun _ 0 _ (Nat.zero_le _), .refl K, h, .empty hte⟩
        | slice us' hl hsz hes hS hV hc hto => exact hto.elim
      · cases ha
    | full =>
      simp only [Option.some.injEq, Prod.mk.injEq] at ha
      obtain ⟨rfl, rfl⟩ := ha
      obtain ⟨hle, hsat⟩ := Sat.newDead h es.length
      have hlens : A.lens.length = K.Om.length := by rw [← h.lens]; simp
      simp only [List.append_nil, List.length_nil, Nat.add_zero]
      cases hs with
      | empty hte =>
        rename_i base cap
        simp only [TagE] at hte
        subst hte
        exact ⟨_, _, _, hrun _ _ _ (Nat.le_refl _), hle, hsat, .empty ⟨⟨false, 0, 0, 0, 0, false, false⟩, by simp [hlens], rfl, fun _ => rfl⟩⟩
      | slice us' hl hsz hes hS hV hc hto =>
        rename_i b off cap sz
        simp only [TagOk] at hto
        refine ⟨_, _, _, hrun _ _ _ hc, hle, hsat, ?_⟩
        have := V.mono hle.ext (V.slice (ι := K.ι) (tag := .any) us' hl hsz hes hS hV hc trivial) hle.pre
        cases this with
        | empty => exact .empty ⟨⟨false, 0, 0, 0, 0, false, false⟩, by simp [hlens], rfl, fun _ => by simpa using hto⟩
        | slice us2 hl2 hsz2 hes2 hS2 hV2 hc2 _ => exact .slice us2 hl2 hsz2 hes2 hS2 hV2 hc2 (tagOk_own_dead hto _ hlens)
    | own g =>
      simp only at ha
      split at ha
      · rename_i hg
        simp only [Option.some.injEq, Prod.mk.injEq] at ha
        obtain ⟨rfl, rfl⟩ := ha
        simp only [List.append_nil, List.length_nil, Nat.add_zero]
        have hset : A.lens.set g es.length = A.lens := by
          apply List.ext_getElem?
          intro j
          rw [List.getElem?_set]
          split
          · rename_i heq; subst heq
            split
            · exact hg.symm
            · rename_i hlt; rw [List.getElem?_eq_none (by omega)]
          · rfl
        rw [hset]
        have hcap : ∃ base cap, us = .slice base es.length cap ∧ es.length ≤ cap := by
          cases hs with
          | empty => exact ⟨_, _, rfl, Nat.zero_le _⟩
          | slice _ _ _ _ _ _ hc _ => exact ⟨_, _, rfl, hc⟩
        obtain ⟨base, cap, rfl, hc⟩ := hcap
        exact ⟨K, _, w, hrun _ _ _ hc, .refl K, h, hs⟩
      · cases ha
  · -- something may be appended
    by_cases hx0 : xs = []
    · -- an empty one that has a place
      subst hx0
      have hrun : ∀ (base : Option Addr) (n cap : Nat), n ≤ cap → (Builtin.append_ #[t, t] ty #[.slice base n cap, .slice (some ⟨bx, ox, none⟩) ([] : List (List AV)).length cx]).run P w = .ok (.slice base n cap) w := fun base n cap hc => run_append_none ht hi base _ n cap cx hc w
      cases tag with
      | any => simp at ha
      | nil => simp at ha
      | fresh =>
        simp only [if_true] at ha
        split at ha
        · rename_i he
          injection ha with ha
          simp only [Prod.mk.injEq] at ha
          obtain ⟨rfl, rfl⟩ := ha
          subst he
          cases hs with
          | empty hte => exact ⟨K, _, w, hrun _ 0 _ (Nat.zero_le _), .refl K, h, .empty hte⟩
          | slice us' hl hsz hes hS hV hc hto => exact hto.elim
        · cases ha
      | full =>
        simp only [Option.some.injEq, Prod.mk.injEq] at ha
        obtain ⟨rfl, rfl⟩ := ha
        obtain ⟨hle, hsat⟩ := Sat.newDead h es.length
        have hlens : A.lens.length = K.Om.length := by rw [← h.lens]; simp
        simp only [List.append_nil, List.length_nil, Nat.add_zero]
        cases hs with
        | empty hte =>
          rename_i base cap
          simp only [TagE] at hte
          subst hte
          exact ⟨_, _, _, hrun _ _ _ (Nat.le_refl _), hle, hsat, .empty ⟨⟨false, 0, 0, 0, 0, false, false⟩, by simp [hlens], rfl, fun _ => rfl⟩⟩
        | slice us' hl hsz hes hS hV hc hto =>
          rename_i b off cap sz
          simp only [TagOk] at hto
          refine ⟨_, _, _, hrun _ _ _ hc, hle, hsat, ?_⟩
          have := V.mono hle.ext (V.slice (ι := K.ι) (tag := .any) us' hl hsz hes hS hV hc trivial) hle.pre
          cases this with
          | empty => exact .empty ⟨⟨false, 0, 0, 0, 0, false, false⟩, by simp [hlens], rfl, fun _ => by simpa using hto⟩
          | slice us2 hl2 hsz2 hes2 hS2 hV2 hc2 _ => exact .slice us2 hl2 hsz2 hes2 hS2 hV2 hc2 (tagOk_own_dead hto _ hlens)
      | own g =>
        simp only at ha
        split at ha
        · rename_i hg
          simp only [Option.some.injEq, Prod.mk.injEq] at ha
          obtain ⟨rfl, rfl⟩ := ha
          simp only [List.append_nil, List.length_nil, Nat.add_zero]
          have hset : A.lens.set g es.length = A.lens := by
            apply List.ext_getElem?
            intro j
            rw [List.getElem?_set]
            split
            · rename_i heq; subst heq
              split
              · exact hg.symm
              · rename_i hlt; rw [List.getElem?_eq_none (by omega)]
            · rfl
          rw [hset]
          have hcap : ∃ base cap, us = .slice base es.length cap ∧ es.length ≤ cap := by
            cases hs with
            | empty => exact ⟨_, _, rfl, Nat.zero_le _⟩
            | slice _ _ _ _ _ _ hc _ => exact ⟨_, _, rfl, hc⟩
          obtain ⟨base, cap, rfl, hc⟩ := hcap
          exact ⟨K, _, w, hrun _ _ _ hc, .refl K, h, hs⟩
        · cases ha
    · have hxpos : 0 < xs.length := by cases xs with | nil => exact absurd rfl hx0 | cons _ _ => simp
      have hnews : ∀ (j : Nat) (u : Value), vx[j]? = some u → w.cell? ((⟨bx, ox, none⟩ : Addr).add j) = some u := fun j u hu => by rw [add_lit]; exact hCx j u hu
      have hlen : (es ++ xs).length = es.length + xs.length := by simp
      have huapp : uni i.size (es ++ xs) = true := by
        have h1 := hu1
        have h2 := hu2
        unfold uni at h1 h2 ⊢
        rw [List.all_append, h1, h2]; rfl
      have hflen := flatten_length (uni_len hu1)
      -- the growing way
      have grow : ∀ (b : Addr) (cap : Nat) (olds : List Value), us = .slice (some b) es.length cap → cap < es.length + xs.length → olds.length = es.length * i.size →
          (∀ (j : Nat) (u : Value), olds[j]? = some u → w.cell? (b.add j) = some u) → (∀ (j : Nat) (c : AV) (u : Value), es.flatten[j]? = some c → olds[j]? = some u → Ab.V K.S K.Om [] c u) →
          ∃ arr ncap, (Builtin.append_ #[t, t] ty #[us, .slice (some ⟨bx, ox, none⟩) xs.length cx]).run P w = .ok (.slice (some ⟨w.heap.size, 0, none⟩) (es.length + xs.length) ncap) (w.drew.alloc (.cells arr e)) ∧
            es.length + xs.length ≤ ncap ∧ arr.size = ncap * i.size ∧ ∀ (S' : Snap) (Om' : List OwnE), Ext K.S K.Om S' Om' → (∀ o, S' w.heap.size o = if o < (es.length + xs.length) * i.size then arr[o]? else none) →
              ∀ (tag : Tag) (ι : List Nat), TagOk Om' tag w.heap.size 0 (es.length + xs.length) ncap i.size → Ab.V S' Om' ι (.slice (es ++ xs) tag) (.slice (some ⟨w.heap.size, 0, none⟩) (es.length + xs.length) ncap) := by
        intro b cap olds hus hcap hol holds holdV
        have hr := run_append_grow (P := P) w t ty e i z ht hi hz b es.length cap olds hol holds ⟨bx, ox, none⟩ xs.length cx vx hlx hnews hcap (by omega) (growslice_fits hcap hbytes)
        rw [← hus] at hr
        refine ⟨_, _, hr, grownCap_ge w _ _ _, ?_, ?_⟩
        · have hge := grownCap_ge w (es.length + xs.length) cap e
          simp only [Array.size_append, List.size_toArray, size_zeroCells', hzs, hol, hlx, ← Nat.add_mul]
          congr 1; omega
        · intro S' Om' hext hS' tag ι htag
          have key : ∀ (j : Nat) (y : Value), (olds ++ vx)[j]? = some y → S' w.heap.size (0 + j) = some y := by
            intro j y hy
            have hj : j < (es.length + xs.length) * i.size := by
              have := (List.getElem?_eq_some_iff.1 hy).1
              simp [hol, hlx] at this
              rw [Nat.add_mul]; exact this
            rw [Nat.zero_add, hS', if_pos hj]
            have : (olds.toArray ++ vx.toArray ++ Builtin.zeroCells z.cells (grownCap w (es.length + xs.length) cap e - (es.length + xs.length)))[j]? = (olds ++ vx)[j]? := by
              rw [Array.getElem?_append_left (by simp [hol, hlx, ← Nat.add_mul]; exact hj)]
              simp
            rw [this]; exact hy
          have := V.flat (S := S') (Om := Om') (ι := ι) (es := es ++ xs) (tag := tag) (b := w.heap.size) (off := 0) (cap := grownCap w (es.length + xs.length) cap e) (s := i.size) (olds ++ vx)
            (by simp [hol, hlx, Nat.add_mul]) huapp key (by
              intro j c y hc hy
              rw [List.flatten_append] at hc
              by_cases hj : j < es.length * i.size
              · rw [List.getElem?_append_left (by omega)] at hc hy
                exact V.mono hext (holdV j c y hc hy) (List.prefix_refl _)
              · rw [List.getElem?_append_right (by omega)] at hc hy
                rw [hflen] at hc; rw [hol] at hy
                exact V.mono hext (hVx _ c y hc hy) (List.prefix_refl _)) (by rw [hlen]; exact grownCap_ge w _ _ _) (by rw [hlen]; exact htag)
          rw [hlen] at this
          exact this
      cases tag with
      | any => simp at ha
      | nil => simp at ha
      | fresh =>
        simp only at ha
        split at ha
        case isFalse => cases ha
        rename_i he
        subst he
        injection ha with ha
        simp only [Prod.mk.injEq] at ha
        obtain ⟨rfl, rfl⟩ := ha
        cases hs with
        | empty hte =>
          simp only [TagE] at hte
          subst hte
          exact freshRow_ok h ht hi hz hzs hu2 (by simpa using hbytes) (by simpa using h47) hxpos hlx hnews hVx
        | slice us' hl hsz hes hS hV hc hto => exact hto.elim
      | full =>
        simp only [Option.some.injEq, Prod.mk.injEq] at ha
        obtain ⟨rfl, rfl⟩ := ha
        have hlens : A.lens.length = K.Om.length := by rw [← h.lens]; simp
        have fin : ∀ (arr : Array Value) (ncap : Nat) (W : World), W = w.drew → (Builtin.append_ #[t, t] ty #[us, .slice (some ⟨bx, ox, none⟩) xs.length cx]).run P w = .ok (.slice (some ⟨w.heap.size, 0, none⟩) (es.length + xs.length) ncap) (W.alloc (.cells arr e)) →
            es.length + xs.length ≤ ncap → arr.size = ncap * i.size → (∀ (S' : Snap) (Om' : List OwnE), Ext K.S K.Om S' Om' → (∀ o, S' w.heap.size o = if o < (es.length + xs.length) * i.size then arr[o]? else none) →
              ∀ (tag : Tag) (ι : List Nat), TagOk Om' tag w.heap.size 0 (es.length + xs.length) ncap i.size → Ab.V S' Om' ι (.slice (es ++ xs) tag) (.slice (some ⟨w.heap.size, 0, none⟩) (es.length + xs.length) ncap)) →
            ∃ K' y w', (Builtin.append_ #[t, t] ty #[us, .slice (some ⟨bx, ox, none⟩) xs.length cx]).run P w = .ok y w' ∧ K.le K' ∧ Sat K' { A with lens := A.lens ++ [es.length + xs.length] } w' ∧ K'.V (.slice (es ++ xs) (.own A.lens.length)) y := by
          rintro arr ncap W rfl hr hle hsz hv
          obtain ⟨hK, hsat⟩ := Sat.newOwn (h.drew) arr e (es.length + xs.length) ncap i.size (by omega) hle hsz
          refine ⟨_, _, _, hr, hK, hsat, ?_⟩
          refine hv _ _ hK.ext (fun o => by simp [Snap.set]) _ _ ?_
          exact ⟨⟨true, w.heap.size, es.length + xs.length, ncap, i.size, false, false⟩, by rw [hlens]; simp, rfl, Nat.le_refl _, fun _ => .inl ⟨rfl, rfl, rfl, rfl, rfl⟩⟩
        rcases hs.unflat hu1 with ⟨rfl, base, cap, rfl, hte⟩ | ⟨b, off, cap, xs1, sz, rfl, hcap, hl1, htag, hsz1, hS1, hV1⟩
        · simp only [TagE] at hte
          subst hte
          cases base with
          | none =>
            have hr := run_append_nil (P := P) w t ty e i z ht hi hz ⟨bx, ox, none⟩ xs.length cx vx hlx hnews hxpos (by omega) (by have hb := hbytes; simp only [List.length_nil, Nat.zero_add] at hb; omega)
            refine fin (vx.toArray ++ Builtin.zeroCells z.cells (grownCap w xs.length 0 e - xs.length)) (grownCap w xs.length 0 e) _ rfl (by simpa using hr) (by simpa using grownCap_ge w xs.length 0 e) ?_ ?_
            · have hge := grownCap_ge w xs.length 0 e
              simp only [Array.size_append, List.size_toArray, size_zeroCells', hzs, hlx, ← Nat.add_mul]
              congr 1; omega
            · intro S' Om' hext hS' tag ι htag
              have := V.flat (S := S') (Om := Om') (ι := ι) (es := xs) (tag := tag) (b := w.heap.size) (off := 0) (cap := grownCap w xs.length 0 e) (s := i.size) vx hlx hu2 (by
                intro j y hy
                have hj : j < xs.length * i.size := by rw [← hlx]; exact (List.getElem?_eq_some_iff.1 hy).1
                rw [Nat.zero_add, hS', if_pos (by simpa using hj), Array.getElem?_append_left (by simpa [hlx] using hj)]
                simpa using hy) (fun j c y hc hy => V.mono hext (hVx j c y hc hy) (List.prefix_refl _)) (grownCap_ge w _ _ _) (by simpa using htag)
              simpa using this
          | some b =>
            obtain ⟨arr, ncap, hr, h1, h2, h3⟩ := grow b 0 [] rfl (by simpa using hxpos) (by simp) (by simp) (by simp)
            exact fin arr ncap _ rfl hr h1 h2 h3
        · simp only [TagOk] at htag
          obtain ⟨arr, ncap, hr, h1, h2, h3⟩ := grow ⟨b, off, none⟩ cap xs1 rfl (by omega) hl1 (fun j u hu => by rw [add_lit]; exact h.cells _ _ _ (hS1 j u hu)) hV1
          exact fin arr ncap _ rfl hr h1 h2 h3
      | own g =>
        simp only at ha
        split at ha
        case isFalse => cases ha
        rename_i hg
        simp only [Option.some.injEq, Prod.mk.injEq] at ha
        obtain ⟨rfl, rfl⟩ := ha
        obtain ⟨ent, hent, hentlen⟩ := lens_get h hg
        have hglt : g < K.Om.length := (List.getElem?_eq_some_iff.1 hent).1
        have hnr : ent.row = false := by
          cases hs with
          | empty hte => obtain ⟨e', he', hr', _⟩ := hte; rw [hent] at he'; injection he' with he'; rw [he']; exact hr'
          | slice _ _ _ _ _ _ _ hto => obtain ⟨e', he', hr', _⟩ := hto; rw [hent] at he'; injection he' with he'; rw [he']; exact hr'
        have fin : ∀ (arr : Array Value) (ncap : Nat) (W : World), W = w.drew → (Builtin.append_ #[t, t] ty #[us, .slice (some ⟨bx, ox, none⟩) xs.length cx]).run P w = .ok (.slice (some ⟨w.heap.size, 0, none⟩) (es.length + xs.length) ncap) (W.alloc (.cells arr e)) →
            es.length + xs.length ≤ ncap → arr.size = ncap * i.size → (∀ (S' : Snap) (Om' : List OwnE), Ext K.S K.Om S' Om' → (∀ o, S' w.heap.size o = if o < (es.length + xs.length) * i.size then arr[o]? else none) →
              ∀ (tag : Tag) (ι : List Nat), TagOk Om' tag w.heap.size 0 (es.length + xs.length) ncap i.size → Ab.V S' Om' ι (.slice (es ++ xs) tag) (.slice (some ⟨w.heap.size, 0, none⟩) (es.length + xs.length) ncap)) →
            ∃ K' y w', (Builtin.append_ #[t, t] ty #[us, .slice (some ⟨bx, ox, none⟩) xs.length cx]).run P w = .ok y w' ∧ K.le K' ∧ Sat K' { A with lens := A.lens.set g (es.length + xs.length) } w' ∧ K'.V (.slice (es ++ xs) (.own g)) y := by
          rintro arr ncap W rfl hr hle hsz hv
          obtain ⟨hK, hsat⟩ := Sat.moveOwn (h.drew) g ent hent hnr arr e (es.length + xs.length) ncap i.size (by omega) hle hsz
          refine ⟨_, _, _, hr, hK, hsat, ?_⟩
          refine hv _ _ hK.ext (fun o => by simp [Snap.set]) _ _ ?_
          exact ⟨_, by rw [List.getElem?_set_self hglt], rfl, Nat.le_refl _, fun _ => .inl ⟨rfl, rfl, rfl, rfl, rfl⟩⟩
        rcases hs.unflat hu1 with ⟨rfl, base, cap, rfl, hte⟩ | ⟨b, off, cap, xs1, sz, rfl, hcap, hl1, htag, hsz1, hS1, hV1⟩
        · obtain ⟨ent', hent', _, hc0⟩ := hte
          rw [hent] at hent'
          injection hent' with hent'
          subst hent'
          have : cap = 0 := hc0 (by simpa using hentlen)
          subst this
          cases base with
          | none =>
            have hr := run_append_nil (P := P) w t ty e i z ht hi hz ⟨bx, ox, none⟩ xs.length cx vx hlx hnews hxpos (by omega) (by have hb := hbytes; simp only [List.length_nil, Nat.zero_add] at hb; omega)
            refine fin (vx.toArray ++ Builtin.zeroCells z.cells (grownCap w xs.length 0 e - xs.length)) (grownCap w xs.length 0 e) _ rfl (by simpa using hr) (by simpa using grownCap_ge w xs.length 0 e) ?_ ?_
            · have hge := grownCap_ge w xs.length 0 e
              simp only [Array.size_append, List.size_toArray, size_zeroCells', hzs, hlx, ← Nat.add_mul]
              congr 1; omega
            · intro S' Om' hext hS' tag ι htag
              have := V.flat (S := S') (Om := Om') (ι := ι) (es := xs) (tag := tag) (b := w.heap.size) (off := 0) (cap := grownCap w xs.length 0 e) (s := i.size) vx hlx hu2 (by
                intro j y hy
                have hj : j < xs.length * i.size := by rw [← hlx]; exact (List.getElem?_eq_some_iff.1 hy).1
                rw [Nat.zero_add, hS', if_pos (by simpa using hj), Array.getElem?_append_left (by simpa [hlx] using hj)]
                simpa using hy) (fun j c y hc hy => V.mono hext (hVx j c y hc hy) (List.prefix_refl _)) (grownCap_ge w _ _ _) (by simpa using htag)
              simpa using this
          | some b =>
            obtain ⟨arr, ncap, hr, h1, h2, h3⟩ := grow b 0 [] rfl (by simpa using hxpos) (by simp) (by simp) (by simp)
            exact fin arr ncap _ rfl hr h1 h2 h3
        · have holds : ∀ (j : Nat) (u : Value), xs1[j]? = some u → w.cell? ((⟨b, off, none⟩ : Addr).add j) = some u := fun j u hu => by rw [add_lit]; exact h.cells _ _ _ (hS1 j u hu)
          by_cases hroom : es.length + xs.length ≤ cap
          · -- there is room: the row is the call's own
            obtain ⟨ent', hent', _, _, htl⟩ := htag
            rw [hent] at hent'
            injection hent' with hent'
            subst hent'
            rcases htl hentlen.symm with ⟨hlv, rfl, rfl, rfl, rfl⟩ | hful
            case inr => omega
            obtain ⟨hpos, hbase, hnι, hlc, ⟨arr, ty', hh, hasz⟩, hSn⟩ := h.own g ent hent hlv
            have hne : es ≠ [] := by intro h0; subst h0; simp at hentlen; omega
            have hsz' := hsz1 hne
            have hfit : es.length * i.size + vx.length ≤ arr.size := by rw [hlx, hasz, hsz', ← Nat.add_mul]; exact Nat.mul_le_mul_right _ hroom
            have h1 := leaf_cells (K := K) hu2 hlx hVx
            have hst := run_storeCells_at P ent.blk (es.length * i.size) ty' vx 0 arr w hh (by simpa using hfit) h1
            have hf := run_firstCells_some (P := P) w i.size xs.length ⟨bx, ox, none⟩ xs.length cx vx hlx hnews
            have hrun : (Builtin.append_ #[t, t] ty #[.slice (some ⟨ent.blk, 0, none⟩) es.length ent.cap, .slice (some ⟨bx, ox, none⟩) xs.length cx]).run P w =
                .ok (.slice (some ⟨ent.blk, 0, none⟩) (es.length + xs.length) ent.cap) (w.setRow ent.blk (arr.toList.take (es.length * i.size) ++ vx ++ arr.toList.drop (es.length * i.size + vx.length)).toArray) := by
              simp only [Nat.add_zero] at hst
              simp [Builtin.append_, run_underlying ht, sizeOf, typeInfo, hi, Builtin.lenOf, hroom, hf, add_lit, hst]
            obtain ⟨hK, hsat⟩ := Sat.pushOwn h g ent hent hlv hnr vx xs.length hxpos (by rw [hsz']; exact hlx) (by omega) arr ty' hh
            rw [hentlen, hsz'] at hK hsat
            refine ⟨_, _, _, hrun, hK, hsat, ?_⟩
            have key : ∀ (j : Nat) (y : Value), (xs1 ++ vx)[j]? = some y → K.S.set ent.blk (fun o => if o < es.length * i.size then K.S ent.blk o else vx[o - es.length * i.size]?) ent.blk (0 + j) = some y := by
              intro j y hy
              rw [Nat.zero_add]
              simp only [Snap.set, if_true]
              by_cases hj : j < es.length * i.size
              · rw [if_pos hj]
                rw [List.getElem?_append_left (by omega)] at hy
                have := hS1 j y hy
                simpa using this
              · rw [if_neg hj]
                rw [List.getElem?_append_right (by omega), hl1] at hy
                exact hy
            have := V.flat (S := K.S.set ent.blk (fun o => if o < es.length * i.size then K.S ent.blk o else vx[o - es.length * i.size]?)) (Om := K.Om.set g ⟨ent.live, ent.blk, es.length + xs.length, ent.cap, i.size, ent.row, ent.map⟩) (ι := K.ι) (es := es ++ xs) (tag := .own g) (b := ent.blk) (off := 0) (cap := ent.cap) (s := i.size) (xs1 ++ vx)
              (by simp [hl1, hlx, Nat.add_mul]) huapp key (by
                intro j c y hc hy
                rw [List.flatten_append] at hc
                by_cases hj : j < es.length * i.size
                · rw [List.getElem?_append_left (by omega)] at hc hy
                  exact V.mono hK.ext (hV1 j c y hc hy) (List.prefix_refl _)
                · rw [List.getElem?_append_right (by omega)] at hc hy
                  rw [hflen] at hc; rw [hl1] at hy
                  exact V.mono hK.ext (hVx _ c y hc hy) (List.prefix_refl _)) (by rw [hlen]; exact hroom) (by
                rw [hlen]
                exact ⟨_, List.getElem?_set_self hglt, hnr, Nat.le_refl _, fun _ => .inl ⟨hlv, rfl, rfl, rfl, rfl⟩⟩)
            rw [hlen] at this
            exact this
          · obtain ⟨arr, ncap, hr, h1, h2, h3⟩ := grow ⟨b, off, none⟩ cap xs1 rfl (by omega) hl1 holds hV1
            exact fin arr ncap _ rfl hr h1 h2 h3

theorem appendA_ok {K : Kw} {A A' : AState} {w : World} (h : Sat K A w) {t ty : TypeId} {s x v : AV} {us ux : Value} (hs : K.V s us) (hx : K.V x ux) (ha : appendA P A t s x = some (v, A')) :
    ∃ K' y w', (Builtin.append_ #[t, t] ty #[us, ux]).run P w = .ok y w' ∧ K.le K' ∧ Sat K' A' w' ∧ K'.V v y := by
  unfold appendA at ha
  split at ha
  · have hfull : K.V (.slice [] .full) us := by
      cases hs with
      | empty ht => exact .empty ht.2
      | slice us' hl hsz hes hS hV hc hto => exact hto.elim
    split at ha
    · rename_i i hsrc hinfo
      simp only [Option.some.injEq, Prod.mk.injEq] at ha
      obtain ⟨rfl, rfl⟩ := ha
      obtain ⟨e, hel, hi⟩ := Option.bind_eq_some_iff.1 hinfo
      have ht := tyElem_some hel
      cases hs with
      | empty hte =>
        obtain ⟨rfl, rfl⟩ := hte
        rcases srcA_ok h hx hsrc (s := 1) rfl with ⟨_, bx, cx, rfl⟩ | ⟨bx, ox, cx, vx, rfl, _⟩
        · exact ⟨K, _, w, run_append_none ht hi none bx 0 0 cx (Nat.le_refl _) w, .refl K, h, .empty ⟨rfl, rfl⟩⟩
        · exact ⟨K, _, w, run_append_none ht hi none _ 0 0 cx (Nat.le_refl _) w, .refl K, h, .empty ⟨rfl, rfl⟩⟩
      | slice us' hl hsz hes hS hV hc hto => exact hto.elim
    · exact appendA0_ok h hfull hx ha
  · exact appendA0_ok h hs hx ha

end
end Go.Ab
