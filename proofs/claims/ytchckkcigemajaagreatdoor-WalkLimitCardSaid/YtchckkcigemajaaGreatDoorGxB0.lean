/- Live rows: rows of the call's own that are written in place. -/
import Derived.Test.YtchckkcigemajaaGreatDoorGxA2
namespace Go.Ab
set_option linter.unusedVariables false
set_option linter.unusedSimpArgs false

def killL : List (Nat × List (List AV)) → Nat → List (Nat × List (List AV))
  | [], _ => []
  | (g', es) :: r, g => if g' = g then killL r g else (g', es) :: killL r g

theorem rowL_kill : ∀ (l : List (Nat × List (List AV))) (g g' : Nat), rowL (killL l g) g' = if g' = g then none else rowL l g'
  | [], g, g' => by simp [killL, rowL]
  | (k, es) :: r, g, g' => by
    simp only [killL]
    by_cases hk : k = g
    · rw [if_pos hk, rowL_kill r g g']
      by_cases hg : g' = g
      · rw [if_pos hg, if_pos hg]
      · rw [if_neg hg, if_neg hg, rowL, if_neg (by omega)]
    · rw [if_neg hk, rowL, rowL_kill r g g', rowL]
      by_cases hg : k = g'
      · rw [if_pos hg, if_pos hg, if_neg (by omega)]
      · rw [if_neg hg, if_neg hg]

/-- a row is told no more -/
theorem Sat.killRow {K : Kw} {A : AState} {w : World} (h : Sat K A w) (g : Nat) : Sat K { A with rows := killL A.rows g } w :=
  { h with
    rows := fun g' es hg => by
      simp only [rowL_kill] at hg
      split at hg
      · cases hg
      · exact h.rows g' es hg
    rowsD := fun g1 g2 es es' e e' h1 h2 h3 h4 h5 => by
      simp only [rowL_kill] at h1 h2
      split at h1
      · cases h1
      · split at h2
        · cases h2
        · exact h.rowsD g1 g2 es es' e e' h1 h2 h3 h4 h5 }

theorem RowMem.mono {K K' : Kw} {w : World} {es : List (List AV)} {e : OwnE} (h : RowMem K w es e) (hx : Ext K.S K.Om K'.S K'.Om) : RowMem K' w es e := by
  unfold RowMem at h ⊢
  split at h
  · rename_i hm; rw [if_pos hm]; exact h
  · rename_i hm
    rw [if_neg hm]
    obtain ⟨h5, h6, arr, ty, h1, h2, h3, h4⟩ := h
    exact ⟨h5, h6, arr, ty, h1, h2, h3, fun i el j c u g1 g2 g3 => V.mono hx (h4 i el j c u g1 g2 g3) (List.prefix_refl _)⟩

/-- a block that is nobody's, told as a new row -/
theorem Sat.addRowG {K : Kw} {A : AState} {w w' : World} (h : Sat K A w) (b : Nat) (hbase : K.base b = none) (hι : b ∉ K.ι) (hS : ∀ o, K.S b o = none)
    (hOwn : ∀ (g : Nat) (e : OwnE), K.Om[g]? = some e → e.live = true → e.blk ≠ b)
    (hRow : ∀ (g : Nat) (es : List (List AV)) (e : OwnE), rowL A.rows g = some es → K.Om[g]? = some e → e.blk ≠ b)
    (hother : ∀ b', b' ≠ b → b' < w.heap.size → w'.heap[b']? = w.heap[b']?) (hs : w.heap.size ≤ w'.heap.size)
    (e0 : OwnE) (he0 : e0.blk = b) (hlive : e0.live = false) (hrow0 : e0.row = true) (es : List (List AV)) (hmem : RowMem K w' es e0) (hos : w'.os = w.os ∧ w'.output = w.output := by exact ⟨rfl, rfl⟩) :
    K.le { K with Om := K.Om ++ [e0] } ∧ Sat { K with Om := K.Om ++ [e0] } { A with lens := A.lens ++ [e0.len], rows := (A.lens.length, es) :: A.rows } w' := by
  have hx : Ext K.S K.Om K.S (K.Om ++ [e0]) := ⟨fun _ _ _ h => h, fun g e he => ⟨e, by rw [List.getElem?_append_left (List.getElem?_eq_some_iff.1 he).1]; exact he, Nat.le_refl _, fun _ => rfl, rfl, fun _ => rfl⟩⟩
  have hlen : A.lens.length = K.Om.length := by rw [← h.lens]; simp
  have hnew : (K.Om ++ [e0])[K.Om.length]? = some e0 := by simp
  have hlt : ∀ (g : Nat) (e : OwnE), (K.Om ++ [e0])[g]? = some e → e.live = true → K.Om[g]? = some e := by
    intro g e he hlv
    by_cases hg : g < K.Om.length
    · rwa [List.getElem?_append_left hg] at he
    · rw [List.getElem?_append_right (by omega), List.getElem?_singleton] at he
      split at he
      · injection he with he; subst he; rw [hlive] at hlv; cases hlv
      · cases he
  have hold : ∀ (g : Nat) (es : List (List AV)), rowL A.rows g = some es → g < K.Om.length := fun g es hg => by
    obtain ⟨e, hr⟩ := h.rows g es hg
    exact (List.getElem?_eq_some_iff.1 hr.om).1
  refine ⟨⟨hx, List.prefix_refl _, rfl⟩, ?_⟩
  refine { cells := ?_, nbox := h.nbox, box := ?_, boxS := h.boxS, boxBase := h.boxBase, nodup := h.nodup, lens := by simp [h.lens], own := ?_, ownD := ?_, rows := ?_, rowsD := ?_, baseEq := ?_, baseS := h.baseS, osEq := ⟨hos.1.trans h.osEq.1, hos.2.trans h.osEq.2⟩ }
  · intro b' o v hv
    have hne : b' ≠ b := fun hq => by subst hq; simp only [hS] at hv; cases hv
    rw [cell_of_heap (hother b' hne (h.S_lt hv))]
    exact h.cells b' o v hv
  · intro i b' cs hi hc
    obtain ⟨arr', ty', hh', hsz', hr⟩ := h.box i b' cs hi hc
    have hne : b' ≠ b := fun heq => hι (heq ▸ List.mem_of_getElem? hi)
    exact ⟨arr', ty', by rw [hother b' hne (lt_of_heap hh')]; exact hh', hsz', fun j c u hc hu => V.mono hx (hr j c u hc hu) (List.prefix_refl _)⟩
  · intro g e he hlv
    have he' := hlt g e he hlv
    obtain ⟨h0, h1, h2, h3, ⟨arr', ty', hh', h4⟩, h5⟩ := h.own g e he' hlv
    have hne := hOwn g e he' hlv
    exact ⟨h0, h1, h2, h3, ⟨arr', ty', by rw [hother _ hne (lt_of_heap hh')]; exact hh', h4⟩, h5⟩
  · intro g g' e e' he he' hlv hlv'
    exact h.ownD g g' e e' (hlt g e he hlv) (hlt g' e' he' hlv') hlv hlv'
  · intro g es' hg
    simp only [rowL] at hg
    split at hg
    · rename_i hgl
      injection hg with hg
      subst hg
      subst hgl
      refine ⟨e0, ⟨by rw [hlen]; exact hnew, hrow0, by rw [he0]; exact hbase, by rw [he0]; exact hι, by rw [he0]; exact hS, fun g' e' he' hlv => by rw [he0]; exact hOwn g' e' (hlt g' e' he' hlv) hlv, hmem.mono hx⟩⟩
    · obtain ⟨e, hr⟩ := h.rows g es' hg
      have hne := hRow g es' e hg hr.om
      exact ⟨e, hr.keep hx rfl (hother _ hne hr.lt) hr.noι hr.noS fun g' e' he' hlv => hr.noOwn g' e' (hlt g' e' he' hlv) hlv⟩
  · intro g g' es1 es2 e e' hg hg' he he' heq
    simp only [rowL] at hg hg'
    have hcase : ∀ (g : Nat) (es : List (List AV)) (e : OwnE), rowL A.rows g = some es → (K.Om ++ [e0])[g]? = some e → K.Om[g]? = some e := fun g es e h1 h2 => by
      rwa [List.getElem?_append_left (hold g es h1)] at h2
    split at hg <;> split at hg'
    · omega
    · rename_i hgl hgl'
      subst hgl
      simp only [hlen] at he
      rw [hnew] at he
      injection he with he
      subst he
      exact absurd (heq.symm.trans he0) (hRow g' es2 e' hg' (hcase g' es2 e' hg' he'))
    · rename_i hgl hgl'
      subst hgl'
      simp only [hlen] at he'
      rw [hnew] at he'
      injection he' with he'
      subst he'
      exact absurd (heq.trans he0) (hRow g es1 e hg (hcase g es1 e hg he))
    · exact h.rowsD g g' es1 es2 e e' hg hg' (hcase g es1 e hg he) (hcase g' es2 e' hg' he') heq
  · intro b' o ho
    have hne : b' ≠ b := fun heq => by subst heq; simp only at ho; rw [hbase] at ho; cases ho
    rw [hother b' hne (lt_of_heap (h.baseEq b' o ho))]
    exact h.baseEq b' o ho

/-- a block that is nobody's, told as a new row -/
theorem Sat.addRow {K : Kw} {A : AState} {w w' : World} (h : Sat K A w) (b : Nat) (hbase : K.base b = none) (hι : b ∉ K.ι) (hS : ∀ o, K.S b o = none)
    (hOwn : ∀ (g : Nat) (e : OwnE), K.Om[g]? = some e → e.live = true → e.blk ≠ b)
    (hRow : ∀ (g : Nat) (es : List (List AV)) (e : OwnE), rowL A.rows g = some es → K.Om[g]? = some e → e.blk ≠ b)
    (hother : ∀ b', b' ≠ b → b' < w.heap.size → w'.heap[b']? = w.heap[b']?) (hs : w.heap.size ≤ w'.heap.size)
    (arr : Array Value) (ty : TypeId) (hh : w'.heap[b]? = some (.cells arr ty (0, 0))) (n cap sz : Nat) (es : List (List AV)) (hn : n ≤ cap) (hel : es.length = n) (hsz : arr.size = cap * sz)
    (hes : ∀ (i : Nat) (el : List AV), es[i]? = some el → el.length = sz)
    (hV : ∀ (i : Nat) (el : List AV) (j : Nat) (c : AV) (u : Value), es[i]? = some el → el[j]? = some c → arr[i * sz + j]? = some u → V K.S K.Om [] c u) (hos : w'.os = w.os ∧ w'.output = w.output := by exact ⟨rfl, rfl⟩) :
    K.le { K with Om := K.Om ++ [⟨false, b, n, cap, sz, true, false⟩] } ∧ Sat { K with Om := K.Om ++ [⟨false, b, n, cap, sz, true, false⟩] } { A with lens := A.lens ++ [n], rows := (A.lens.length, es) :: A.rows } w' := by
  refine Sat.addRowG h b hbase hι hS hOwn hRow hother hs ⟨false, b, n, cap, sz, true, false⟩ rfl rfl rfl es ?_ hos
  unfold RowMem
  rw [if_neg (by simp)]
  exact ⟨hel, hn, arr, ty, hh, hsz, hes, hV⟩

/-- a new block told as a row -/
theorem Sat.newRow {K : Kw} {A : AState} {w : World} (h : Sat K A w) (arr : Array Value) (ty : TypeId) (n cap sz : Nat) (es : List (List AV)) (hn : n ≤ cap) (hel : es.length = n) (hsz : arr.size = cap * sz)
    (hes : ∀ (i : Nat) (el : List AV), es[i]? = some el → el.length = sz)
    (hV : ∀ (i : Nat) (el : List AV) (j : Nat) (c : AV) (u : Value), es[i]? = some el → el[j]? = some c → arr[i * sz + j]? = some u → V K.S K.Om [] c u) :
    K.le { K with Om := K.Om ++ [⟨false, w.heap.size, n, cap, sz, true, false⟩] } ∧ Sat { K with Om := K.Om ++ [⟨false, w.heap.size, n, cap, sz, true, false⟩] } { A with lens := A.lens ++ [n], rows := (A.lens.length, es) :: A.rows } (w.alloc (.cells arr ty)) :=
  Sat.addRow h w.heap.size h.base_new h.not_ι_new (fun o => h.S_new o) (fun g e he hlv hq => absurd (h.own_lt he hlv) (by rw [hq]; exact Nat.lt_irrefl _)) h.row_new
    (fun b' hne hlt => halloc_old w _ hlt) (by simp) arr ty (halloc_new w _) n cap sz es hn hel hsz hes hV

/-- a live row's block, written, told as another row -/
theorem Sat.pushRow {K : Kw} {A : AState} {w : World} (h : Sat K A w) {g : Nat} {es : List (List AV)} {e : OwnE} (hg : rowL A.rows g = some es) (hr : RowIn K w g es e) (arr : Array Value) (ty : TypeId) (arr0 : Array Value) (hh : w.heap[e.blk]? = some (.cells arr0 ty (0, 0)))
    (n : Nat) (es' : List (List AV)) (hn : n ≤ e.cap) (hel : es'.length = n) (hsz : arr.size = e.cap * e.sz)
    (hes : ∀ (i : Nat) (el : List AV), es'[i]? = some el → el.length = e.sz)
    (hV : ∀ (i : Nat) (el : List AV) (j : Nat) (c : AV) (u : Value), es'[i]? = some el → el[j]? = some c → arr[i * e.sz + j]? = some u → V K.S K.Om [] c u) :
    K.le { K with Om := K.Om ++ [⟨false, e.blk, n, e.cap, e.sz, true, false⟩] } ∧ Sat { K with Om := K.Om ++ [⟨false, e.blk, n, e.cap, e.sz, true, false⟩] } { A with lens := A.lens ++ [n], rows := (A.lens.length, es') :: killL A.rows g } (w.setRow e.blk arr) := by
  have h2 := h.killRow g
  have hheap := setRow_heap w e.blk arr0 arr ty (0, 0) hh
  refine Sat.addRow (A := { A with rows := killL A.rows g }) h2 e.blk hr.base hr.noι hr.noS hr.noOwn ?_ (fun b' hne hlt => setRow_other w e.blk b' _ hne) (by simp [World.setRow]) arr ty hheap n e.cap e.sz es' hn hel hsz hes hV
  intro g' es2 e2 hg' he2 heq
  simp only [rowL_kill] at hg'
  split at hg'
  · cases hg'
  · rename_i hne
    exact hne (h.rowsD g' g es2 es e2 e hg' hg he2 hr.om heq)

/-- a store into a live row -/
theorem Sat.storeRowG {K : Kw} {A : AState} {w w' : World} (h : Sat K A w) {g : Nat} {es : List (List AV)} {e : OwnE} (hg : rowL A.rows g = some es) (hr : RowIn K w g es e)
    (es' : List (List AV)) (hother : ∀ b', b' ≠ e.blk → w'.heap[b']? = w.heap[b']?) (hsize : w'.heap.size = w.heap.size) (hmem : RowMem K w' es' e) (hos : w'.os = w.os ∧ w'.output = w.output := by exact ⟨rfl, rfl⟩) :
    Sat K { A with rows := (g, es') :: killL A.rows g } w' := by
  refine { cells := ?_, nbox := h.nbox, box := ?_, boxS := h.boxS, boxBase := h.boxBase, nodup := h.nodup, lens := h.lens, own := ?_, ownD := h.ownD, rows := ?_, rowsD := ?_, baseEq := ?_, baseS := h.baseS, osEq := ⟨hos.1.trans h.osEq.1, hos.2.trans h.osEq.2⟩ }
  · intro b' o v hv
    have hne : b' ≠ e.blk := fun hq => by subst hq; rw [hr.noS] at hv; cases hv
    rw [cell_of_heap (hother b' hne)]
    exact h.cells b' o v hv
  · intro i b' cs hi hc
    obtain ⟨arr', ty', hh', hsz', hr'⟩ := h.box i b' cs hi hc
    have hne : b' ≠ e.blk := fun heq => hr.noι (heq ▸ List.mem_of_getElem? hi)
    exact ⟨arr', ty', by rw [hother b' hne]; exact hh', hsz', hr'⟩
  · intro g' e' he' hlv
    obtain ⟨h0, h1, h2, h3, ⟨arr', ty', hh', h4⟩, h5⟩ := h.own g' e' he' hlv
    exact ⟨h0, h1, h2, h3, ⟨arr', ty', by rw [hother _ (hr.noOwn g' e' he' hlv)]; exact hh', h4⟩, h5⟩
  · intro g' es2 hg'
    simp only [rowL, rowL_kill] at hg'
    split at hg'
    · rename_i hq
      subst hq
      injection hg' with hg'
      subst hg'
      exact ⟨e, ⟨hr.om, hr.isrow, hr.base, hr.noι, hr.noS, hr.noOwn, hmem⟩⟩
    · split at hg'
      · cases hg'
      · rename_i hne _
        obtain ⟨e2, hr2⟩ := h.rows g' es2 hg'
        have hbne : e2.blk ≠ e.blk := fun hq => hne (h.rowsD g g' es es2 e e2 hg hg' hr.om hr2.om hq.symm)
        exact ⟨e2, hr2.keep (.refl _ _) rfl (hother _ hbne) hr2.noι hr2.noS hr2.noOwn⟩
  · intro g1 g2 es1 es2 e1 e2 h1 h2 h3 h4 h5
    have hcase : ∀ (g' : Nat) (es2 : List (List AV)), rowL ((g, es') :: killL A.rows g) g' = some es2 → ∃ es3, rowL A.rows g' = some es3 := by
      intro g' es2 hg'
      simp only [rowL, rowL_kill] at hg'
      split at hg'
      · rename_i hq; subst hq; exact ⟨_, hg⟩
      · split at hg'
        · cases hg'
        · exact ⟨_, hg'⟩
    obtain ⟨es3, h1'⟩ := hcase g1 es1 h1
    obtain ⟨es4, h2'⟩ := hcase g2 es2 h2
    exact h.rowsD g1 g2 es3 es4 e1 e2 h1' h2' h3 h4 h5
  · intro b' o ho
    have hne : b' ≠ e.blk := fun heq => by subst heq; have := hr.base; rw [this] at ho; cases ho
    rw [hother b' hne]
    exact h.baseEq b' o ho

/-- a store into a live row -/
theorem Sat.storeRow {K : Kw} {A : AState} {w : World} (h : Sat K A w) {g : Nat} {es : List (List AV)} {e : OwnE} (hg : rowL A.rows g = some es) (hr : RowIn K w g es e) (hm : e.map = false) (arr : Array Value) (ty : TypeId) (arr0 : Array Value) (hh : w.heap[e.blk]? = some (.cells arr0 ty (0, 0)))
    (es' : List (List AV)) (hel : es'.length = es.length) (hsz : arr.size = e.cap * e.sz)
    (hes : ∀ (i : Nat) (el : List AV), es'[i]? = some el → el.length = e.sz)
    (hV : ∀ (i : Nat) (el : List AV) (j : Nat) (c : AV) (u : Value), es'[i]? = some el → el[j]? = some c → arr[i * e.sz + j]? = some u → V K.S K.Om [] c u) :
    Sat K { A with rows := (g, es') :: killL A.rows g } (w.setRow e.blk arr) := by
  have hheap := setRow_heap w e.blk arr0 arr ty (0, 0) hh
  refine Sat.storeRowG h hg hr es' (fun b' hne => setRow_other w e.blk b' _ hne) (by simp [World.setRow]) ?_
  unfold RowMem
  rw [if_neg (by rw [hm]; simp)]
  obtain ⟨h5, h6, _⟩ := hr.cells hm
  exact ⟨by rw [hel]; exact h5, h6, arr, ty, hheap, hsz, hes, hV⟩

end Go.Ab
