/- Memory as the abstract state tells it: new rows, rows that grow, stores into boxes, loads. -/
import Derived.Test.YtchckkcigemajaaGreatDoorGxA1
import Derived.Laws.AppendOwn
import Derived.Laws.Cells
import Derived.Laws.CopyRow
namespace Go.Ab
set_option linter.unusedVariables false
set_option linter.unusedSimpArgs false

def Snap.set (S : Snap) (b : Nat) (f : Nat → Option Value) : Snap := fun b' o => if b' = b then f o else S b' o

theorem add_lit (b off n : Nat) : (⟨b, off, none⟩ : Addr).add n = ⟨b, off + n, none⟩ := by unfold Addr.add; split <;> simp_all

/-- one block is new, or told further -/
theorem Sat.update {K : Kw} {A : AState} {w w' : World} (h : Sat K A w) (b : Nat) (f : Nat → Option Value) (Om' : List OwnE)
    (hbase : K.base b = none) (hbι : b ∉ K.ι) (hother : ∀ b', b' ≠ b → b' < w.heap.size → w'.heap[b']? = w.heap[b']?)
    (hs : w.heap.size ≤ w'.heap.size) (hf : ∀ o v, f o = some v → w'.cell? ⟨b, o, none⟩ = some v) (hext : ∀ o v, K.S b o = some v → f o = some v)
    (hOm : ∀ (g : Nat) (e : OwnE), K.Om[g]? = some e → ∃ e' : OwnE, Om'[g]? = some e' ∧ e.len ≤ e'.len ∧ (e.len = e'.len → e' = e) ∧ e'.row = e.row ∧ (e.row = true → e' = e))
    (hrow : ∀ (g : Nat) (es : List (List AV)) (e : OwnE), rowL A.rows g = some es → K.Om[g]? = some e → e.blk ≠ b)
    (hnew : ∀ (g : Nat) (e : OwnE), Om'[g]? = some e → e.live = true → (K.Om[g]? = some e ∧ e.blk ≠ b) ∨ (e.blk = b ∧ 0 < e.len ∧ e.len ≤ e.cap ∧
      (∃ (arr : Array Value) (ty : TypeId), w'.heap[b]? = some (.cells arr ty (0, 0)) ∧ arr.size = e.cap * e.sz) ∧ ∀ o, e.len * e.sz ≤ o → f o = none))
    (huniq : ∀ (g g' : Nat) (e e' : OwnE), Om'[g]? = some e → Om'[g']? = some e' → e.live = true → e'.live = true → e.blk = b → e'.blk = b → g = g') (hos : w'.os = w.os ∧ w'.output = w.output := by exact ⟨rfl, rfl⟩) :
    K.le { K with S := K.S.set b f, Om := Om' } ∧ Sat { K with S := K.S.set b f, Om := Om' } { A with lens := Om'.map (·.len) } w' := by
  have hext' : Ext K.S K.Om (K.S.set b f) Om' := ⟨fun b' o v hv => by
    unfold Snap.set
    split
    · rename_i heq; subst heq; exact hext o v hv
    · exact hv, hOm⟩
  refine ⟨⟨hext', List.prefix_refl _, rfl⟩, ?_⟩
  refine { cells := ?_, nbox := h.nbox, box := ?_, boxS := ?_, boxBase := h.boxBase, nodup := h.nodup, lens := rfl, own := ?_, ownD := ?_, rows := ?_, rowsD := ?_, baseEq := ?_, baseS := ?_, osEq := ⟨hos.1.trans h.osEq.1, hos.2.trans h.osEq.2⟩ }
  · intro b' o v hv
    simp only [Snap.set] at hv
    split at hv
    · rename_i heq; subst heq; exact hf o v hv
    · rename_i hne
      rw [cell_of_heap (hother b' hne (h.S_lt hv))]
      exact h.cells b' o v hv
  · intro i b' cs hi hc
    obtain ⟨arr, ty, hh, hsz, hr⟩ := h.box i b' cs hi hc
    have hne : b' ≠ b := fun heq => hbι (heq ▸ List.mem_of_getElem? hi)
    exact ⟨arr, ty, by rw [hother b' hne (lt_of_heap hh)]; exact hh, hsz, fun j c u hc hu => V.mono hext' (hr j c u hc hu) (List.prefix_refl _)⟩
  · intro b' hb' o
    have hne : b' ≠ b := fun heq => hbι (heq ▸ hb')
    simp only [Snap.set, if_neg hne]
    exact h.boxS b' hb' o
  · intro g e he hlv
    rcases hnew g e he hlv with ⟨ho, hne⟩ | ⟨hb, h0, h1, h2, h3⟩
    · obtain ⟨g0, g1, g2, g3, ⟨arr, ty, hh, g4⟩, g5⟩ := h.own g e ho hlv
      refine ⟨g0, g1, g2, g3, ⟨arr, ty, by rw [hother _ hne (lt_of_heap hh)]; exact hh, g4⟩, ?_⟩
      intro o ho'
      simp only [Snap.set, if_neg hne]
      exact g5 o ho'
    · refine ⟨h0, by rw [hb]; exact hbase, by rw [hb]; exact hbι, h1, by rw [hb]; exact h2, ?_⟩
      intro o ho'
      simp only [Snap.set, hb, if_true]
      exact h3 o ho'
  · intro g g' e e' he he' hlv hlv' heq
    rcases hnew g e he hlv with ⟨ho, hne⟩ | ⟨hb, _⟩ <;> rcases hnew g' e' he' hlv' with ⟨ho', hne'⟩ | ⟨hb', _⟩
    · exact h.ownD g g' e e' ho ho' hlv hlv' heq
    · exact absurd (heq.trans hb') hne
    · exact absurd (heq.symm.trans hb) hne'
    · exact huniq g g' e e' he he' hlv hlv' hb hb'
  · intro g es hg
    obtain ⟨e, hr⟩ := h.rows g es hg
    have hne := hrow g es e hg hr.om
    refine ⟨e, hr.keep hext' rfl (hother _ hne hr.lt) hr.noι (fun o => by simp only [Snap.set, if_neg hne]; exact hr.noS o) ?_⟩
    intro g' e' he' hlv
    rcases hnew g' e' he' hlv with ⟨ho, _⟩ | ⟨hb, _⟩
    · exact hr.noOwn g' e' ho hlv
    · rw [hb]; exact fun hq => hne hq.symm
  · intro g g' es es' e e' hg hg' he he' heq
    obtain ⟨e1, hr1⟩ := h.rows g es hg
    obtain ⟨e2, hr2⟩ := h.rows g' es' hg'
    have h1 := hext'.row hr1.om hr1.isrow
    have h2 := hext'.row hr2.om hr2.isrow
    simp only at he he'
    rw [h1] at he; rw [h2] at he'
    injection he with he; injection he' with he'
    subst he; subst he'
    exact h.rowsD g g' es es' _ _ hg hg' hr1.om hr2.om heq
  · intro b' o ho
    have hne : b' ≠ b := fun heq => by subst heq; simp only at ho; rw [hbase] at ho; cases ho
    rw [hother b' hne (lt_of_heap (h.baseEq b' o ho))]
    exact h.baseEq b' o ho
  · intro b' o ho ht i
    have hne : b' ≠ b := fun heq => by subst heq; simp only at ho; rw [hbase] at ho; cases ho
    simp only [Snap.set, if_neg hne]
    exact h.baseS b' o ho ht i

theorem Sat.not_ι_new {K : Kw} {A : AState} {w : World} (h : Sat K A w) : w.heap.size ∉ K.ι := fun hm => absurd (h.ι_lt hm) (Nat.lt_irrefl _)

theorem Sat.S_new {K : Kw} {A : AState} {w : World} (h : Sat K A w) (o : Nat) : K.S w.heap.size o = none := by
  cases hs : K.S w.heap.size o with
  | none => rfl
  | some v => exact absurd (h.S_lt hs) (Nat.lt_irrefl _)

theorem Sat.row_new {K : Kw} {A : AState} {w : World} (h : Sat K A w) (g : Nat) (es : List (List AV)) (e : OwnE) (hg : rowL A.rows g = some es) (he : K.Om[g]? = some e) : e.blk ≠ w.heap.size := by
  obtain ⟨e', hr⟩ := h.rows g es hg
  rw [hr.om] at he; injection he with he; subst he
  exact fun hq => absurd hr.lt (by rw [hq]; exact Nat.lt_irrefl _)

theorem Sat.lens_eq {K : Kw} {A : AState} {w : World} (h : Sat K A w) : ({ A with lens := K.Om.map (·.len) } : AState) = A := by rw [h.lens]

theorem cell_alloc_cells (w : World) (arr : Array Value) (ty : TypeId) (o : Nat) : (w.alloc (.cells arr ty)).cell? ⟨w.heap.size, o, none⟩ = arr[o]? := World.cell?_alloc_new w arr ty o

/-- a new row that is never written again -/
theorem Sat.newSnap {K : Kw} {A : AState} {w : World} (h : Sat K A w) (arr : Array Value) (ty : TypeId) :
    K.le { K with S := K.S.set w.heap.size (fun o => arr[o]?) } ∧ Sat { K with S := K.S.set w.heap.size (fun o => arr[o]?) } A (w.alloc (.cells arr ty)) := by
  have := Sat.update h (w' := w.alloc (.cells arr ty)) w.heap.size (fun o => arr[o]?) K.Om h.base_new h.not_ι_new (fun b' hne hlt => halloc_old w _ hlt) (by simp)
    (fun o v hv => by rw [cell_alloc_cells]; exact hv) (fun o v hv => by rw [h.S_new] at hv; cases hv) (fun g e he => ⟨e, he, Nat.le_refl _, fun _ => rfl, rfl, fun _ => rfl⟩) h.row_new
    (fun g e he hlv => .inl ⟨he, fun heq => absurd (h.own_lt he hlv) (by rw [heq]; exact Nat.lt_irrefl _)⟩)
    (fun g g' e e' he he' hlv hlv' hb hb' => absurd (h.own_lt he hlv) (by rw [hb]; exact Nat.lt_irrefl _))
  rw [h.lens_eq] at this
  exact this

/-- a new row of the call's own -/
theorem Sat.newOwn {K : Kw} {A : AState} {w : World} (h : Sat K A w) (arr : Array Value) (ty : TypeId) (n cap sz : Nat) (hn0 : 0 < n) (hn : n ≤ cap) (hsz : arr.size = cap * sz) :
    K.le { K with S := K.S.set w.heap.size (fun o => if o < n * sz then arr[o]? else none), Om := K.Om ++ [⟨true, w.heap.size, n, cap, sz, false, false⟩] } ∧
    Sat { K with S := K.S.set w.heap.size (fun o => if o < n * sz then arr[o]? else none), Om := K.Om ++ [⟨true, w.heap.size, n, cap, sz, false, false⟩] } { A with lens := A.lens ++ [n] } (w.alloc (.cells arr ty)) := by
  have hlt : ∀ (g : Nat) (e : OwnE), (K.Om ++ [⟨true, w.heap.size, n, cap, sz, false, false⟩])[g]? = some e → (K.Om[g]? = some e) ∨ (g = K.Om.length ∧ e = ⟨true, w.heap.size, n, cap, sz, false, false⟩) := by
    intro g e he
    by_cases hg : g < K.Om.length
    · rw [List.getElem?_append_left hg] at he; exact .inl he
    · rw [List.getElem?_append_right (by omega)] at he
      have h0 : g - K.Om.length = 0 := by
        rcases Nat.eq_zero_or_pos (g - K.Om.length) with h0 | h0
        · exact h0
        · rw [List.getElem?_eq_none (by simp; omega)] at he; cases he
      rw [h0] at he
      simp at he
      exact .inr ⟨by omega, he.symm⟩
  have := Sat.update h (w' := w.alloc (.cells arr ty)) w.heap.size (fun o => if o < n * sz then arr[o]? else none) (K.Om ++ [⟨true, w.heap.size, n, cap, sz, false, false⟩]) h.base_new h.not_ι_new (fun b' hne hlt => halloc_old w _ hlt) (by simp)
    (fun o v hv => by
      rw [cell_alloc_cells]
      split at hv
      · exact hv
      · cases hv) (fun o v hv => by rw [h.S_new] at hv; cases hv)
    (fun g e he => ⟨e, by rw [List.getElem?_append_left (List.getElem?_eq_some_iff.1 he).1]; exact he, Nat.le_refl _, fun _ => rfl, rfl, fun _ => rfl⟩) h.row_new
    (fun g e he hlv => by
      rcases hlt g e he with ho | ⟨_, rfl⟩
      · exact .inl ⟨ho, fun heq => absurd (h.own_lt ho hlv) (by rw [heq]; exact Nat.lt_irrefl _)⟩
      · exact .inr ⟨rfl, hn0, hn, ⟨arr, ty, halloc_new w _, hsz⟩, fun o ho => by (have ho' := ho); simp only at ho'; rw [if_neg (by omega)]⟩)
    (fun g g' e e' he he' hlv hlv' hb hb' => by
      rcases hlt g e he with ho | ⟨hg, _⟩
      · exact absurd (h.own_lt ho hlv) (by rw [hb]; exact Nat.lt_irrefl _)
      · rcases hlt g' e' he' with ho' | ⟨hg', _⟩
        · exact absurd (h.own_lt ho' hlv') (by rw [hb']; exact Nat.lt_irrefl _)
        · omega)
  rw [List.map_append, h.lens] at this
  exact this

theorem set_get {α : Type} (l : List α) (g g' : Nat) (x e : α) (h : (l.set g x)[g']? = some e) : (g' = g ∧ e = x ∧ g < l.length) ∨ (g' ≠ g ∧ l[g']? = some e) := by
  rw [List.getElem?_set] at h
  split at h
  · rename_i heq
    split at h
    · exact .inl ⟨heq.symm, (by injection h with h; exact h.symm), by omega⟩
    · cases h
  · rename_i hne; exact .inr ⟨fun hh => hne hh.symm, h⟩

/-- more elements in a row of the call's own that has room -/
theorem Sat.pushOwn {K : Kw} {A : AState} {w : World} (h : Sat K A w) (g : Nat) (e : OwnE) (he : K.Om[g]? = some e) (hlv : e.live = true) (hnr : e.row = false) (news : List Value) (m : Nat) (hm : 0 < m) (hl : news.length = m * e.sz)
    (hroom : e.len + m ≤ e.cap) (arr : Array Value) (ty : TypeId) (hh : w.heap[e.blk]? = some (.cells arr ty (0, 0))) :
    K.le { K with S := K.S.set e.blk (fun o => if o < e.len * e.sz then K.S e.blk o else news[o - e.len * e.sz]?), Om := K.Om.set g { e with len := e.len + m } } ∧
    Sat { K with S := K.S.set e.blk (fun o => if o < e.len * e.sz then K.S e.blk o else news[o - e.len * e.sz]?), Om := K.Om.set g { e with len := e.len + m } } { A with lens := A.lens.set g (e.len + m) }
      (w.setRow e.blk (arr.toList.take (e.len * e.sz) ++ news ++ arr.toList.drop (e.len * e.sz + news.length)).toArray) := by
  obtain ⟨h0, h1, h2, h3, ⟨arr', ty', hh', hsz⟩, h5⟩ := h.own g e he hlv
  rw [hh] at hh'
  injection hh' with hh'
  injection hh' with ha ht
  subst ha
  have hcap : e.len * e.sz + news.length ≤ arr.size := by rw [hsz, hl, ← Nat.add_mul]; exact Nat.mul_le_mul_right _ hroom
  have hnewlen : (arr.toList.take (e.len * e.sz) ++ news ++ arr.toList.drop (e.len * e.sz + news.length)).length = arr.size := by
    simp only [List.length_append, List.length_take, List.length_drop, Array.length_toList]; omega
  have hheap := setRow_heap w e.blk arr (arr.toList.take (e.len * e.sz) ++ news ++ arr.toList.drop (e.len * e.sz + news.length)).toArray ty (0, 0) hh
  have hsize : (w.setRow e.blk (arr.toList.take (e.len * e.sz) ++ news ++ arr.toList.drop (e.len * e.sz + news.length)).toArray).heap.size = w.heap.size := by simp [World.setRow]
  have hglt : g < K.Om.length := (List.getElem?_eq_some_iff.1 he).1
  have := Sat.update h (w' := w.setRow e.blk (arr.toList.take (e.len * e.sz) ++ news ++ arr.toList.drop (e.len * e.sz + news.length)).toArray) e.blk
    (fun o => if o < e.len * e.sz then K.S e.blk o else news[o - e.len * e.sz]?) (K.Om.set g { e with len := e.len + m }) h1 h2
    (fun b' hne hlt => setRow_other w e.blk b' _ hne) (by rw [hsize]; exact Nat.le_refl _)
    (fun o v hv => by
      have hc : (w.setRow e.blk (arr.toList.take (e.len * e.sz) ++ news ++ arr.toList.drop (e.len * e.sz + news.length)).toArray).cell? ⟨e.blk, o, none⟩ = (arr.toList.take (e.len * e.sz) ++ news ++ arr.toList.drop (e.len * e.sz + news.length))[o]? := by
        simp only [World.cell?, hheap, Option.isSome_none, Bool.false_eq_true, if_false, List.getElem?_toArray]
      rw [hc]
      split at hv
      · rename_i hlt
        have h7 := h.cells _ _ _ hv
        simp only [World.cell?, hh] at h7
        simp at h7
        rw [List.append_assoc, List.getElem?_append_left (by simp; omega), List.getElem?_take_of_lt hlt]
        simpa using h7
      · rename_i hge
        have hlen : (arr.toList.take (e.len * e.sz)).length = e.len * e.sz := by simp; omega
        have ho : o - e.len * e.sz < news.length := (List.getElem?_eq_some_iff.1 hv).1
        rw [List.append_assoc, List.getElem?_append_right (by rw [hlen]; omega), hlen, List.getElem?_append_left ho]
        exact hv)
    (fun o v hv => by
      split
      · exact hv
      · rename_i hge; rw [h5 o (by omega)] at hv; cases hv)
    (fun g' e' he' => by
      by_cases hgg : g' = g
      · subst hgg
        rw [he] at he'
        injection he' with he'
        subst he'
        exact ⟨{ e with len := e.len + m }, by rw [List.getElem?_set_self hglt], by simp, fun hq => by simp at hq; omega, rfl, fun hq => by rw [hnr] at hq; cases hq⟩
      · exact ⟨e', by rw [List.getElem?_set_ne (fun hh => hgg hh.symm)]; exact he', Nat.le_refl _, fun _ => rfl, rfl, fun _ => rfl⟩)
    (fun g' es e' hg' he' => by
      obtain ⟨e2, hr⟩ := h.rows g' es hg'
      rw [hr.om] at he'; injection he' with he'; subst he'
      exact fun hq => hr.noOwn g e he hlv hq.symm)
    (fun g' e' he' hlv' => by
      rcases set_get _ _ _ _ _ he' with ⟨_, rfl, _⟩ | ⟨hne, ho⟩
      · refine .inr ⟨rfl, by simp; omega, by simpa using hroom, ⟨_, ty, hheap, by simpa [hsz] using hnewlen⟩, ?_⟩
        intro o ho
        simp only [Nat.add_mul] at ho
        have hlt' : ¬ o < e.len * e.sz := by have : 0 ≤ m * e.sz := Nat.zero_le _; omega
        simp only [if_neg hlt']
        exact List.getElem?_eq_none (by rw [hl]; omega)
      · exact .inl ⟨ho, fun hq => hne (h.ownD g' g e' e ho he hlv' hlv hq)⟩)
    (fun g' g'' e' e'' he' he'' hl1 hl2 hb hb' => by
      rcases set_get _ _ _ _ _ he' with ⟨hg1, _⟩ | ⟨hne, ho⟩ <;> rcases set_get _ _ _ _ _ he'' with ⟨hg2, _⟩ | ⟨hne', ho'⟩
      · omega
      · exact absurd (h.ownD g'' g e'' e ho' he hl2 hlv hb') hne'
      · exact absurd (h.ownD g' g e' e ho he hl1 hlv hb) hne
      · exact h.ownD g' g'' e' e'' ho ho' hl1 hl2 (hb.trans hb'.symm))
  rw [List.map_set, h.lens] at this
  exact this

/-- a row of the call's own moves: a new block that has the old elements and more -/
theorem Sat.moveOwn {K : Kw} {A : AState} {w : World} (h : Sat K A w) (g : Nat) (e : OwnE) (he : K.Om[g]? = some e) (hnr : e.row = false) (arr : Array Value) (ty : TypeId) (n cap sz : Nat) (hlt : e.len < n) (hn : n ≤ cap)
    (hsz : arr.size = cap * sz) :
    K.le { K with S := K.S.set w.heap.size (fun o => if o < n * sz then arr[o]? else none), Om := K.Om.set g ⟨true, w.heap.size, n, cap, sz, false, false⟩ } ∧
    Sat { K with S := K.S.set w.heap.size (fun o => if o < n * sz then arr[o]? else none), Om := K.Om.set g ⟨true, w.heap.size, n, cap, sz, false, false⟩ } { A with lens := A.lens.set g n } (w.alloc (.cells arr ty)) := by
  have hglt : g < K.Om.length := (List.getElem?_eq_some_iff.1 he).1
  have := Sat.update h (w' := w.alloc (.cells arr ty)) w.heap.size (fun o => if o < n * sz then arr[o]? else none) (K.Om.set g ⟨true, w.heap.size, n, cap, sz, false, false⟩) h.base_new h.not_ι_new (fun b' hne hlt => halloc_old w _ hlt) (by simp)
    (fun o v hv => by
      rw [cell_alloc_cells]
      split at hv
      · exact hv
      · cases hv) (fun o v hv => by rw [h.S_new] at hv; cases hv)
    (fun g' e' he' => by
      by_cases hgg : g' = g
      · subst hgg
        rw [he] at he'
        injection he' with he'
        subst he'
        exact ⟨_, by rw [List.getElem?_set_self hglt], by simp; omega, fun hq => by simp at hq; omega, by simp [hnr], fun hq => by rw [hnr] at hq; cases hq⟩
      · exact ⟨e', by rw [List.getElem?_set_ne (fun hh => hgg hh.symm)]; exact he', Nat.le_refl _, fun _ => rfl, rfl, fun _ => rfl⟩) h.row_new
    (fun g' e' he' hlv' => by
      rcases set_get _ _ _ _ _ he' with ⟨_, rfl, _⟩ | ⟨hne, ho⟩
      · exact .inr ⟨rfl, by simp; omega, hn, ⟨arr, ty, halloc_new w _, hsz⟩, fun o ho => by (have ho' := ho); simp only at ho'; rw [if_neg (by omega)]⟩
      · exact .inl ⟨ho, fun heq => absurd (h.own_lt ho hlv') (by rw [heq]; exact Nat.lt_irrefl _)⟩)
    (fun g' g'' e' e'' he' he'' hl1 hl2 hb hb' => by
      rcases set_get _ _ _ _ _ he' with ⟨hg1, _⟩ | ⟨hne, ho⟩
      · rcases set_get _ _ _ _ _ he'' with ⟨hg2, _⟩ | ⟨hne', ho'⟩
        · omega
        · exact absurd (h.own_lt ho' hl2) (by rw [hb']; exact Nat.lt_irrefl _)
      · exact absurd (h.own_lt ho hl1) (by rw [hb]; exact Nat.lt_irrefl _))
  rw [List.map_set, h.lens] at this
  exact this

/-- a number for a row that is not there yet -/
theorem Sat.newDead {K : Kw} {A : AState} {w : World} (h : Sat K A w) (n : Nat) :
    K.le { K with Om := K.Om ++ [⟨false, 0, n, n, 0, false, false⟩] } ∧ Sat { K with Om := K.Om ++ [⟨false, 0, n, n, 0, false, false⟩] } { A with lens := A.lens ++ [n] } w := by
  have hx : Ext K.S K.Om K.S (K.Om ++ [⟨false, 0, n, n, 0, false, false⟩]) := ⟨fun _ _ _ h => h, fun g e he => ⟨e, by rw [List.getElem?_append_left (List.getElem?_eq_some_iff.1 he).1]; exact he, Nat.le_refl _, fun _ => rfl, rfl, fun _ => rfl⟩⟩
  have hlt : ∀ (g : Nat) (e : OwnE), (K.Om ++ [⟨false, 0, n, n, 0, false, false⟩])[g]? = some e → e.live = true → K.Om[g]? = some e := by
    intro g e he hlv
    by_cases hg : g < K.Om.length
    · rwa [List.getElem?_append_left hg] at he
    · rw [List.getElem?_append_right (by omega)] at he
      rw [List.getElem?_singleton] at he
      split at he
      · injection he with he; subst he; simp at hlv
      · cases he
  refine ⟨⟨hx, List.prefix_refl _, rfl⟩, ?_⟩
  exact { cells := h.cells, nbox := h.nbox, box := fun i b cs hi hc => by
            obtain ⟨arr, ty, hh, hsz, hr⟩ := h.box i b cs hi hc
            exact ⟨arr, ty, hh, hsz, fun j c u hc hu => V.mono hx (hr j c u hc hu) (List.prefix_refl _)⟩,
          boxS := h.boxS, boxBase := h.boxBase, nodup := h.nodup, lens := by simp [h.lens], own := fun g e he hlv => h.own g e (hlt g e he hlv) hlv,
          ownD := fun g g' e e' he he' hlv hlv' => h.ownD g g' e e' (hlt g e he hlv) (hlt g' e' he' hlv') hlv hlv',
          rows := fun g es hg => by
            obtain ⟨e, hr⟩ := h.rows g es hg
            exact ⟨e, hr.keep hx rfl rfl hr.noι hr.noS fun g' e' he' hlv => hr.noOwn g' e' (hlt g' e' he' hlv) hlv⟩,
          rowsD := fun g g' es es' e e' hg hg' he he' heq => by
            obtain ⟨e1, hr1⟩ := h.rows g es hg
            obtain ⟨e2, hr2⟩ := h.rows g' es' hg'
            rw [hx.row hr1.om hr1.isrow] at he; rw [hx.row hr2.om hr2.isrow] at he'
            injection he with he; injection he' with he'
            subst he; subst he'
            exact h.rowsD g g' es es' _ _ hg hg' hr1.om hr2.om heq,
          baseEq := h.baseEq, baseS := h.baseS, osEq := h.osEq }

/-- .. and it is told longer -/
theorem Sat.setDead {K : Kw} {A : AState} {w : World} (h : Sat K A w) : Sat K A w := h

def setSeg (cs : List AV) (off : Nat) (news : List AV) : List AV := cs.take off ++ news ++ cs.drop (off + news.length)

theorem setSeg_get {α : Type} (cs news : List α) (off : Nat) (h : off + news.length ≤ cs.length) (j : Nat) :
    (cs.take off ++ news ++ cs.drop (off + news.length))[j]? = if j < off then cs[j]? else if j < off + news.length then news[j - off]? else cs[j]? := by
  have h1 : (cs.take off).length = off := by simp; omega
  rw [List.append_assoc]
  by_cases hj : j < off
  · rw [if_pos hj, List.getElem?_append_left (by omega), List.getElem?_take_of_lt hj]
  · rw [if_neg hj, List.getElem?_append_right (by omega), h1]
    by_cases hj2 : j < off + news.length
    · rw [if_pos hj2, List.getElem?_append_left (by omega)]
    · rw [if_neg hj2, List.getElem?_append_right (by omega), List.getElem?_drop]
      congr 1
      omega

theorem nodup_inj {l : List Nat} (h : l.Nodup) {i j : Nat} (hi : i < l.length) (hj : j < l.length) (he : l[i] = l[j]) : i = j := by
  rcases Nat.lt_trichotomy i j with hlt | heq | hgt
  · exact absurd he (List.pairwise_iff_getElem.1 h i j hi hj hlt)
  · exact heq
  · exact absurd he.symm (List.pairwise_iff_getElem.1 h j i hj hi hgt)

/-- a store into a box -/
theorem Sat.store {K : Kw} {A : AState} {w : World} (h : Sat K A w) (i b : Nat) (cs news : List AV) (us : List Value) (off : Nat) (hi : K.ι[i]? = some b) (hc : A.boxes[i]? = some cs) (hl : us.length = news.length)
    (hfit : off + news.length ≤ cs.length) (hV : ∀ (j : Nat) (c : AV) (u : Value), news[j]? = some c → us[j]? = some u → Go.Ab.V K.S K.Om (K.ι.take i) c u) (arr : Array Value) (ty : TypeId) (hh : w.heap[b]? = some (.cells arr ty (0, 0))) :
    Sat K { A with boxes := A.boxes.set i (setSeg cs off news) } (w.setRow b (arr.toList.take off ++ us ++ arr.toList.drop (off + us.length)).toArray) := by
  have hb : b ∈ K.ι := List.mem_of_getElem? hi
  have hsize : (w.setRow b (arr.toList.take off ++ us ++ arr.toList.drop (off + us.length)).toArray).heap.size = w.heap.size := by simp [World.setRow]
  have hheap := setRow_heap w b arr (arr.toList.take off ++ us ++ arr.toList.drop (off + us.length)).toArray ty (0, 0) hh
  obtain ⟨arr', ty', hh', hsz, hr⟩ := h.box i b cs hi hc
  rw [hh] at hh'
  injection hh' with hh'
  injection hh' with ha ht
  subst ha
  have hilt : i < A.boxes.length := (List.getElem?_eq_some_iff.1 hc).1
  refine { cells := ?_, nbox := by simp [h.nbox], box := ?_, boxS := h.boxS, boxBase := h.boxBase, nodup := h.nodup, lens := h.lens, own := ?_, ownD := h.ownD, rows := ?_, rowsD := h.rowsD, baseEq := ?_, baseS := h.baseS, osEq := h.osEq }
  · intro b' o v hv
    have hne : b' ≠ b := fun heq => by subst heq; rw [h.boxS _ hb] at hv; cases hv
    rw [cell_of_heap (setRow_other w b b' _ hne)]
    exact h.cells b' o v hv
  · intro i' b' cs' hi' hc'
    rcases set_get _ _ _ _ _ hc' with ⟨rfl, rfl, _⟩ | ⟨hne, hc''⟩
    · rw [hi] at hi'
      injection hi' with hi'
      subst hi'
      refine ⟨_, ty, hheap, ?_, ?_⟩
      · simp only [List.size_toArray, List.length_append, List.length_take, List.length_drop, Array.length_toList, setSeg]; omega
      · intro j c u hcj huj
        simp only [setSeg] at hcj
        rw [setSeg_get _ _ _ hfit] at hcj
        rw [List.getElem?_toArray, setSeg_get _ _ _ (by simp; omega)] at huj
        by_cases hj : j < off
        · rw [if_pos hj] at hcj huj
          exact hr j c u hcj (by simpa using huj)
        · rw [if_neg hj] at hcj huj
          by_cases hj2 : j < off + news.length
          · rw [if_pos hj2] at hcj
            rw [if_pos (by omega)] at huj
            exact hV _ c u hcj huj
          · rw [if_neg hj2] at hcj
            rw [if_neg (by omega)] at huj
            exact hr j c u hcj (by simpa using huj)
    · obtain ⟨arr2, ty2, hh2, hsz2, hr2⟩ := h.box i' b' cs' hi' hc''
      have hbne : b' ≠ b := by
        intro heq
        subst heq
        obtain ⟨hlt1, he1⟩ := List.getElem?_eq_some_iff.1 hi
        obtain ⟨hlt2, he2⟩ := List.getElem?_eq_some_iff.1 hi'
        exact hne (nodup_inj h.nodup hlt2 hlt1 (he2.trans he1.symm))
      exact ⟨arr2, ty2, by rw [setRow_other w b b' _ hbne]; exact hh2, hsz2, hr2⟩
  · intro g e he hlv
    obtain ⟨h0, h1, h2, h3, ⟨arr2, ty2, hh2, h4⟩, h5⟩ := h.own g e he hlv
    have hbne : e.blk ≠ b := fun heq => h2 (heq ▸ hb)
    exact ⟨h0, h1, h2, h3, ⟨arr2, ty2, by rw [setRow_other w b _ _ hbne]; exact hh2, h4⟩, h5⟩
  · intro g es hg
    obtain ⟨e, hr⟩ := h.rows g es hg
    have hbne : e.blk ≠ b := fun heq => hr.noι (heq ▸ hb)
    exact ⟨e, hr.keep (.refl _ _) rfl (setRow_other w b _ _ hbne) hr.noι hr.noS hr.noOwn⟩
  · intro b' o ho
    have hne : b' ≠ b := fun heq => by subst heq; have := h.boxBase _ hb; rw [this] at ho; cases ho
    rw [setRow_other w b b' _ hne]
    exact h.baseEq b' o ho

/-- boxes are left behind -/
theorem Sat.drop {K : Kw} {A : AState} {w : World} (h : Sat K A w) (n : Nat) : Sat { K with ι := K.ι.take n } { A with boxes := A.boxes.take n } w where
  cells := h.cells
  nbox := by simp [h.nbox]
  box := fun i b cs hi hc => by
    have hlt : i < n := by
      have := (List.getElem?_eq_some_iff.1 hi).1
      simp at this; omega
    rw [List.getElem?_take_of_lt hlt] at hi hc
    obtain ⟨arr, ty, hh, hsz, hr⟩ := h.box i b cs hi hc
    refine ⟨arr, ty, hh, hsz, ?_⟩
    simp only [List.take_take]
    rw [Nat.min_eq_left (Nat.le_of_lt hlt)]
    exact hr
  boxS := fun b hb => h.boxS b (List.mem_of_mem_take hb)
  boxBase := fun b hb => h.boxBase b (List.mem_of_mem_take hb)
  nodup := h.nodup.sublist (List.take_sublist _ _)
  lens := h.lens
  own := fun g e he hlv => by
    obtain ⟨h0, h1, h2, h3, h4, h5⟩ := h.own g e he hlv
    exact ⟨h0, h1, fun hm => h2 (List.mem_of_mem_take hm), h3, h4, h5⟩
  ownD := h.ownD
  rows := fun g es hg => by
    obtain ⟨e, hr⟩ := h.rows g es hg
    exact ⟨e, hr.keep (.refl _ _) rfl rfl (fun hm => hr.noι (List.mem_of_mem_take hm)) hr.noS hr.noOwn⟩
  rowsD := h.rowsD
  baseEq := h.baseEq
  baseS := h.baseS
  osEq := h.osEq

end Go.Ab
