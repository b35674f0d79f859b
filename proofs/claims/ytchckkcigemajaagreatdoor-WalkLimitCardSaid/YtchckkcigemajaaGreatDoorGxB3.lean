/- A box that is put by for a while: its block is frozen, and later it is a box. -/
import Derived.Test.YtchckkcigemajaaGreatDoorGxA11
namespace Go.Ab
set_option linter.unusedVariables false

def baseSet (B : Base) (b : Nat) (x : Option (Obj × Bool)) : Base := { B with obj := fun b' => if b' = b then x else B b' }

theorem baseSet_self (B : Base) (b : Nat) (x : Option (Obj × Bool)) : baseSet B b x b = x := if_pos rfl
theorem baseSet_ne (B : Base) {b b' : Nat} (x : Option (Obj × Bool)) (h : b' ≠ b) : baseSet B b x b' = B b' := if_neg h

/-- the newest box is put by -/
theorem Sat.freeze {K : Kw} {A : AState} {cs : List AV} {w : World} (h : Sat K { A with boxes := A.boxes ++ [cs] } w) :
    ∃ (b : Nat) (arr : Array Value) (ty : TypeId), K.ι[A.boxes.length]? = some b ∧ b ∉ K.ι.take A.boxes.length ∧ K.base b = none ∧ cs.length ≤ arr.size ∧
      (∀ (j : Nat) (c : AV) (u : Value), cs[j]? = some c → arr[j]? = some u → Go.Ab.V K.S K.Om (K.ι.take A.boxes.length) c u) ∧
      Sat { K with ι := K.ι.take A.boxes.length, base := baseSet K.base b (some (.cells arr ty (0, 0), true)) } A w := by
  have hn : K.ι.length = A.boxes.length + 1 := by rw [h.nbox]; simp
  obtain ⟨b, hb⟩ : ∃ b, K.ι[A.boxes.length]? = some b := ⟨_, List.getElem?_eq_getElem (by omega)⟩
  obtain ⟨arr, ty, hh, hsz, hV⟩ := h.box A.boxes.length b cs hb (by simp)
  have hbm : b ∈ K.ι := List.mem_of_getElem? hb
  have hbn := h.boxBase b hbm
  have hnot : b ∉ K.ι.take A.boxes.length := by
    intro hm
    obtain ⟨i, hi⟩ := List.mem_iff_getElem?.1 hm
    have hil := (List.getElem?_eq_some_iff.1 hi).1
    simp only [List.length_take] at hil
    rw [List.getElem?_take_of_lt (by omega)] at hi
    obtain ⟨h1, e1⟩ := List.getElem?_eq_some_iff.1 hi
    obtain ⟨h2, e2⟩ := List.getElem?_eq_some_iff.1 hb
    have := nodup_inj h.nodup h1 h2 (e1.trans e2.symm)
    omega
  have h2 := h.drop A.boxes.length
  simp only [List.take_left'] at h2
  refine ⟨b, arr, ty, hb, hnot, hbn, hsz, hV, ?_⟩
  refine { cells := h2.cells, nbox := h2.nbox, box := h2.box, boxS := h2.boxS, boxBase := ?_, nodup := h2.nodup, lens := h2.lens, own := ?_, ownD := h2.ownD, rows := ?_, rowsD := h2.rowsD, baseEq := ?_, baseS := ?_, osEq := h2.osEq }
  · intro b' hb'
    simp only
    rw [baseSet_ne _ _ (fun hq => by subst hq; exact hnot hb')]
    exact h2.boxBase b' hb'
  · intro g e he hlv
    obtain ⟨h0, h1, h3, h4, h5, h6⟩ := h.own g e he hlv
    obtain ⟨g0, g1, g3, g4⟩ := h2.own g e he hlv
    refine ⟨h0, ?_, g3, h4, h5, h6⟩
    simp only
    rw [baseSet_ne _ _ (fun hq => h3 (by rw [hq]; exact hbm))]
    exact h1
  · intro g es hg
    obtain ⟨e0, hr0⟩ := h.rows g es hg
    obtain ⟨e, hr⟩ := h2.rows g es hg
    have heq : e0 = e := by have h1 := hr0.om; have h3 := hr.om; simp only at h1 h3; rw [h1] at h3; injection h3
    subst heq
    have hne : e0.blk ≠ b := fun hq => hr0.noι (hq ▸ hbm)
    exact ⟨e0, ⟨hr.om, hr.isrow, by simp only; rw [baseSet_ne _ _ hne]; exact hr.base, hr.noι, hr.noS, hr.noOwn, hr.heap⟩⟩
  · intro b' o ho
    simp only [baseSet] at ho
    split at ho
    · rename_i hq
      subst hq
      injection ho with ho
      subst ho
      exact hh
    · exact h2.baseEq b' o ho
  · intro b' o ho ht i
    simp only [baseSet] at ho
    split at ho
    · rename_i hq
      subst hq
      exact h.boxS _ hbm i
    · exact h2.baseS b' o ho ht i

/-- a block that was put by is a box -/
theorem Sat.thaw {K : Kw} {A : AState} {w : World} (h : Sat K A w) {b : Nat} {arr : Array Value} {ty : TypeId} (hb : K.base b = some (.cells arr ty (0, 0), true)) {cs : List AV} (hl : cs.length ≤ arr.size)
    (hV : ∀ (j : Nat) (c : AV) (u : Value), cs[j]? = some c → arr[j]? = some u → K.V c u) :
    Sat { K with ι := K.ι ++ [b], base := baseSet K.base b none } { A with boxes := A.boxes ++ [cs] } w := by
  have hnι : b ∉ K.ι := fun hm => by have := h.boxBase b hm; rw [hb] at this; cases this
  refine { cells := h.cells, nbox := by simp [h.nbox], box := ?_, boxS := ?_, boxBase := ?_, nodup := ?_, lens := h.lens, own := ?_, ownD := h.ownD, rows := ?_, rowsD := h.rowsD, baseEq := ?_, baseS := ?_, osEq := h.osEq }
  · intro i b' cs' hi hc
    simp only at hi hc
    by_cases hlt : i < K.ι.length
    · rw [List.getElem?_append_left hlt] at hi
      rw [List.getElem?_append_left (by rw [← h.nbox]; exact hlt)] at hc
      obtain ⟨arr', ty', hh, hsz, hr⟩ := h.box i b' cs' hi hc
      refine ⟨arr', ty', hh, hsz, ?_⟩
      simp only
      rw [List.take_append_of_le_length (Nat.le_of_lt hlt)]
      exact hr
    · have hge : K.ι.length ≤ i := by omega
      rw [List.getElem?_append_right hge] at hi
      rw [List.getElem?_append_right (by rw [← h.nbox]; exact hge), ← h.nbox] at hc
      have hi0 : i - K.ι.length = 0 := by
        rcases Nat.eq_zero_or_pos (i - K.ι.length) with h0 | h0
        · exact h0
        · rw [List.getElem?_eq_none (by simp; omega)] at hi; cases hi
      rw [hi0] at hi hc
      simp at hi hc
      subst hi; subst hc
      have hieq : i = K.ι.length := by omega
      refine ⟨arr, ty, h.baseEq _ _ hb, hl, ?_⟩
      intro j c u hc hu
      have hv := hV j c u hc hu
      simp only
      rw [hieq, List.take_append_of_le_length (Nat.le_refl _), List.take_length]
      exact hv
  · intro b' hb' o
    rcases List.mem_append.1 hb' with hb' | hb'
    · exact h.boxS b' hb' o
    · simp at hb'
      subst hb'
      exact h.baseS _ _ hb rfl o
  · intro b' hb'
    simp only
    by_cases hq : b' = b
    · subst hq; exact baseSet_self _ _ _
    · rw [baseSet_ne _ _ hq]
      rcases List.mem_append.1 hb' with hb' | hb'
      · exact h.boxBase b' hb'
      · simp at hb'; exact absurd hb' hq
  · refine List.nodup_append.2 ⟨h.nodup, by simp, ?_⟩
    intro x hx y hy
    simp at hy
    subst hy
    exact fun hq => hnι (hq ▸ hx)
  · intro g e he hlv
    obtain ⟨h0, h1, h3, h4, h5, h6⟩ := h.own g e he hlv
    have hne : e.blk ≠ b := fun hq => by rw [hq, hb] at h1; cases h1
    refine ⟨h0, by simp only; rw [baseSet_ne _ _ hne]; exact h1, ?_, h4, h5, h6⟩
    intro hm
    rcases List.mem_append.1 hm with hm | hm
    · exact h3 hm
    · simp at hm; exact hne hm
  · intro g es hg
    obtain ⟨e, hr⟩ := h.rows g es hg
    have hne : e.blk ≠ b := fun hq => by have := hr.base; rw [hq, hb] at this; cases this
    refine ⟨e, ⟨hr.om, hr.isrow, by simp only; rw [baseSet_ne _ _ hne]; exact hr.base, ?_, hr.noS, hr.noOwn, hr.heap⟩⟩
    intro hm
    rcases List.mem_append.1 hm with hm | hm
    · exact hr.noι hm
    · simp at hm; exact hne hm
  · intro b' o ho
    simp only [baseSet] at ho
    split at ho
    · cases ho
    · exact h.baseEq b' o ho
  · intro b' o ho ht i
    simp only [baseSet] at ho
    split at ho
    · cases ho
    · exact h.baseS b' o ho ht i

end Go.Ab
