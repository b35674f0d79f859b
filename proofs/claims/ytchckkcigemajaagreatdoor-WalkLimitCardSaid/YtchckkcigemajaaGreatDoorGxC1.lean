/- The state handed back: what a call has made of its own is left behind. -/
import Derived.Test.YtchckkcigemajaaGreatDoorGxA14
namespace Go.Ab
set_option linter.unusedVariables false
set_option linter.unusedSimpArgs false

def TagB (m : Nat) : Tag → Prop
  | .own g => g < m
  | _ => True

/-- does a value name rows below m alone? -/
inductive OwnB (m : Nat) : AV → Prop
  | val (v : Value) : OwnB m (.val v)
  | top : OwnB m .top
  | ptr (i off : Nat) : OwnB m (.ptr i off)
  | eptr {cs : List AV} (h : ∀ c ∈ cs, OwnB m c) : OwnB m (.eptr cs)
  | slice {es : List (List AV)} {tag : Tag} (ht : TagB m tag) (h : ∀ e ∈ es, ∀ c ∈ e, OwnB m c) : OwnB m (.slice es tag)
  | mslice (i off len cap : Nat) : OwnB m (.mslice i off len cap)
  | row {g off n : Nat} (h : g < m) : OwnB m (.row g off n)
  | rptr {g k f : Nat} (h : g < m) : OwnB m (.rptr g k f)
  | mapr {g : Nat} (h : g < m) : OwnB m (.mapr g)
  | func {f : FuncId} {caps : List AV} (h : ∀ c ∈ caps, OwnB m c) : OwnB m (.func f caps)
  | iface {t : TypeId} {a : AV} (h : OwnB m a) : OwnB m (.iface t a)
  | agg {cs : List AV} (h : ∀ c ∈ cs, OwnB m c) : OwnB m (.agg cs)
  | tuple {vs : List AV} (h : ∀ c ∈ vs, OwnB m c) : OwnB m (.tuple vs)

theorem lt_of_get {α : Type} {l : List α} {i : Nat} {x : α} (h : l[i]? = some x) : i < l.length := (List.getElem?_eq_some_iff.1 h).1

theorem get_of_len {α β : Type} {l : List α} {l' : List β} (hl : l'.length = l.length) {i : Nat} {x : α} (h : l[i]? = some x) : ∃ y, l'[i]? = some y :=
  ⟨_, List.getElem?_eq_getElem (by have := lt_of_get h; omega)⟩

theorem V.ownB {S : Snap} {Om : List OwnE} {ι : List Nat} {a : AV} {u : Value} (h : V S Om ι a u) : OwnB Om.length a := by
  induction h with
  | val v => exact .val v
  | top v => exact .top
  | ptr h => exact .ptr _ _
  | eptr us hl hS hV ih =>
    refine .eptr fun c hc => ?_
    obtain ⟨j, hj⟩ := List.mem_iff_getElem?.1 hc
    obtain ⟨u, hu⟩ := get_of_len hl hj
    exact ih j c u hj hu
  | empty ht =>
    rename_i base cap tag
    refine .slice ?_ (by simp)
    cases tag <;> first | trivial | skip
    obtain ⟨e, he, _⟩ := ht
    exact lt_of_get he
  | slice us hl hsz hes hS hV hc ht ih =>
    rename_i es tag b off cap sz
    refine .slice ?_ fun e he c hc' => ?_
    · cases tag <;> first | trivial | skip
      obtain ⟨e, he, _⟩ := ht
      exact lt_of_get he
    · obtain ⟨i, hi⟩ := List.mem_iff_getElem?.1 he
      obtain ⟨u, hu⟩ := get_of_len hl hi
      obtain ⟨j, hj⟩ := List.mem_iff_getElem?.1 hc'
      obtain ⟨x, hx⟩ := get_of_len (hes i e u hi hu) hj
      exact ih i e u j c x hi hu hj hx
  | mslice h hc => exact .mslice _ _ _ _
  | row he hr hm hn => exact .row (lt_of_get he)
  | rptr he hr hm => exact .rptr (lt_of_get he)
  | mapr he hr hm => exact .mapr (lt_of_get he)
  | func us hl hV ih =>
    refine .func fun c hc => ?_
    obtain ⟨j, hj⟩ := List.mem_iff_getElem?.1 hc
    obtain ⟨u, hu⟩ := get_of_len hl hj
    exact ih j c u hj hu
  | iface h ih => exact .iface ih
  | agg us hl hV ih =>
    refine .agg fun c hc => ?_
    obtain ⟨j, hj⟩ := List.mem_iff_getElem?.1 hc
    obtain ⟨u, hu⟩ := get_of_len hl hj
    exact ih j c u hj hu
  | tuple us hl hV ih =>
    refine .tuple fun c hc => ?_
    obtain ⟨j, hj⟩ := List.mem_iff_getElem?.1 hc
    obtain ⟨u, hu⟩ := get_of_len hl hj
    exact ih j c u hj hu

theorem TagOk.takeOwn {Om : List OwnE} {m : Nat} {t : Tag} {b off len cap sz : Nat} (h : TagOk Om t b off len cap sz) (ht : TagB m t) : TagOk (Om.take m) t b off len cap sz := by
  cases t with
  | own g => obtain ⟨e, he, h⟩ := h; exact ⟨e, by rw [List.getElem?_take_of_lt ht]; exact he, h⟩
  | any => trivial
  | full => exact h
  | fresh => exact h
  | nil => exact h
theorem TagE.takeOwn {Om : List OwnE} {m : Nat} {t : Tag} {base : Option Addr} {cap : Nat} (h : TagE Om t base cap) (ht : TagB m t) : TagE (Om.take m) t base cap := by
  cases t with
  | own g => obtain ⟨e, he, h⟩ := h; exact ⟨e, by rw [List.getElem?_take_of_lt ht]; exact he, h⟩
  | any => trivial
  | full => exact h
  | fresh => exact h
  | nil => exact h

theorem V.takeOwn {S : Snap} {Om : List OwnE} {ι : List Nat} {a : AV} {u : Value} (h : V S Om ι a u) {m : Nat} : OwnB m a → V S (Om.take m) ι a u := by
  induction h with
  | val v => intro _; exact .val v
  | top v => intro _; exact .top v
  | ptr h => intro _; exact .ptr h
  | eptr us hl hS hV ih => intro hb; cases hb with | eptr hb => exact .eptr us hl hS (fun j c u hc hu => ih j c u hc hu (hb c (List.mem_of_getElem? hc)))
  | empty ht => intro hb; cases hb with | slice hb _ => exact .empty (ht.takeOwn hb)
  | slice us hl hsz hes hS hV hc ht ih =>
    intro hb
    cases hb with
    | slice hbt hb => exact .slice us hl hsz hes hS (fun i e u j c x h1 h2 h3 h4 => ih i e u j c x h1 h2 h3 h4 (hb e (List.mem_of_getElem? h1) c (List.mem_of_getElem? h3))) hc (ht.takeOwn hbt)
  | mslice h hc => intro _; exact .mslice h hc
  | row he hr hm hn => intro hb; cases hb with | row hb => exact .row (by rw [List.getElem?_take_of_lt hb]; exact he) hr hm hn
  | rptr he hr hm => intro hb; cases hb with | rptr hb => exact .rptr (by rw [List.getElem?_take_of_lt hb]; exact he) hr hm
  | mapr he hr hm => intro hb; cases hb with | mapr hb => exact .mapr (by rw [List.getElem?_take_of_lt hb]; exact he) hr hm
  | func us hl hV ih => intro hb; cases hb with | func hb => exact .func us hl (fun j c u hc hu => ih j c u hc hu (hb c (List.mem_of_getElem? hc)))
  | iface h ih => intro hb; cases hb with | iface hb => exact .iface (ih hb)
  | agg us hl hV ih => intro hb; cases hb with | agg hb => exact .agg us hl (fun j c u hc hu => ih j c u hc hu (hb c (List.mem_of_getElem? hc)))
  | tuple us hl hV ih => intro hb; cases hb with | tuple hb => exact .tuple us hl (fun j c u hc hu => ih j c u hc hu (hb c (List.mem_of_getElem? hc)))

/-- what stood is as it was: boxes below ro, rows below rl -/
structure Keep (ro rl : Nat) (A A' : AState) : Prop where
  boxes : A'.boxes.take ro = A.boxes.take ro
  lens : A'.lens.take rl = A.lens.take rl
  rows : ∀ g, g < rl → rowL A'.rows g = rowL A.rows g
  nb : ro ≤ A'.boxes.length
  nl : rl ≤ A'.lens.length

theorem Keep.refl {ro rl : Nat} {A : AState} (h1 : ro ≤ A.boxes.length) (h2 : rl ≤ A.lens.length) : Keep ro rl A A := ⟨rfl, rfl, fun _ _ => rfl, h1, h2⟩
theorem Keep.trans {ro rl : Nat} {A B C : AState} (h : Keep ro rl A B) (h' : Keep ro rl B C) : Keep ro rl A C :=
  ⟨h'.boxes.trans h.boxes, h'.lens.trans h.lens, fun g hg => (h'.rows g hg).trans (h.rows g hg), h'.nb, h'.nl⟩

theorem Sat.om_len {K : Kw} {A : AState} {w : World} (h : Sat K A w) : K.Om.length = A.lens.length := by rw [← h.lens]; simp

theorem Sat.row_lt {K : Kw} {A : AState} {w : World} (h : Sat K A w) {g : Nat} {es : List (List AV)} (hg : rowL A.rows g = some es) : g < A.lens.length := by
  obtain ⟨e, hr⟩ := h.rows g es hg
  rw [← h.om_len]
  exact lt_of_get hr.om

/-- the state as it was -/
theorem Sat.restore {K K' : Kw} {A A' : AState} {w w' : World} (h : Sat K A w) (hK : K.le K') (h' : Sat K' A' w') (hk : Keep A.boxes.length A.lens.length A A') :
    K.le { K' with Om := K'.Om.take A.lens.length, ι := K'.ι.take A.boxes.length } ∧ Sat { K' with Om := K'.Om.take A.lens.length, ι := K'.ι.take A.boxes.length } A w' := by
  have hn := h.om_len
  have h2 := h'.drop A.boxes.length
  have hb : A'.boxes.take A.boxes.length = A.boxes := by rw [hk.boxes, List.take_length]
  have hget : ∀ g, g < A.lens.length → (K'.Om.take A.lens.length)[g]? = K'.Om[g]? := fun g hg => List.getElem?_take_of_lt hg
  have hlt : ∀ (g : Nat) (e : OwnE), (K'.Om.take A.lens.length)[g]? = some e → g < A.lens.length ∧ K'.Om[g]? = some e := fun g e he => by
    have h1 := lt_of_get he
    rw [List.length_take] at h1
    have h3 : g < A.lens.length := by omega
    exact ⟨h3, by rw [← hget g h3]; exact he⟩
  have hext : Ext K.S K.Om K'.S (K'.Om.take A.lens.length) := ⟨hK.ext.snap, fun g e he => by
    obtain ⟨e', he', h3⟩ := hK.ext.own g e he
    exact ⟨e', by rw [hget g (by rw [← hn]; exact lt_of_get he)]; exact he', h3⟩⟩
  refine ⟨⟨hext, prefix_take hK.pre (by rw [h.nbox]; exact Nat.le_refl _), hK.base⟩, ?_⟩
  refine { cells := h'.cells, nbox := ?_, box := ?_, boxS := h2.boxS, boxBase := h2.boxBase, nodup := h2.nodup, lens := ?_, own := ?_, ownD := ?_, rows := ?_, rowsD := ?_, baseEq := h'.baseEq, baseS := h'.baseS, osEq := h'.osEq }
  · have := h2.nbox
    simp only [hb] at this
    exact this
  · intro i b cs hi hc
    obtain ⟨arr, ty, hh, hsz, hr⟩ := h2.box i b cs hi (by simp only [hb]; exact hc)
    refine ⟨arr, ty, hh, hsz, fun j c u hc' hu => V.takeOwn (hr j c u hc' hu) ?_⟩
    obtain ⟨b0, hb0⟩ : ∃ b0, K.ι[i]? = some b0 := get_of_len h.nbox hc
    obtain ⟨arr0, ty0, hh0, hsz0, hr0⟩ := h.box i b0 cs hb0 hc
    have hj := lt_of_get hc'
    obtain ⟨u0, hu0⟩ : ∃ u0, arr0[j]? = some u0 := ⟨_, Array.getElem?_eq_getElem (by omega)⟩
    have := (hr0 j c u0 hc' hu0).ownB
    rw [hn] at this
    exact this
  · simp only [List.map_take, h'.lens, hk.lens, List.take_length]
  · intro g e he hlv
    obtain ⟨hg, he'⟩ := hlt g e he
    obtain ⟨h0, h1, h3, h4, h5, h6⟩ := h2.own g e he' hlv
    exact ⟨h0, h1, h3, h4, h5, h6⟩
  · intro g g' e e' he he' hlv hlv'
    exact h'.ownD g g' e e' (hlt g e he).2 (hlt g' e' he').2 hlv hlv'
  · intro g es hg
    have hgl := h.row_lt hg
    have hg' : rowL A'.rows g = some es := by rw [hk.rows g hgl]; exact hg
    obtain ⟨e, hr⟩ := h2.rows g es hg'
    obtain ⟨e0, hr0⟩ := h.rows g es hg
    refine ⟨e, ⟨by simp only [hget g hgl]; exact hr.om, hr.isrow, hr.base, hr.noι, hr.noS, fun g' e' he' hlv => hr.noOwn g' e' (hlt g' e' he').2 hlv, ?_⟩⟩
    have hmem := hr.heap
    unfold RowMem at hmem ⊢
    split at hmem
    · rename_i hm; rw [if_pos hm]; exact hmem
    · rename_i hm
      rw [if_neg hm]
      obtain ⟨h5, h6, arr, ty, h7, h8, h9, h10⟩ := hmem
      refine ⟨h5, h6, arr, ty, h7, h8, h9, fun i el j c u g1 g2 g3 => V.takeOwn (h10 i el j c u g1 g2 g3) ?_⟩
      have he0 : e0 = e := by
        have h11 := hK.ext.row hr0.om hr0.isrow
        have h12 := hr.om
        simp only at h12
        rw [h11] at h12
        injection h12
      subst he0
      obtain ⟨h13, h14, arr0, ty0, h15, h16, h17, h18⟩ := hr0.cells (by simpa using hm)
      have hil := lt_of_get g1
      have hjl := lt_of_get g2
      have hel := h17 i el g1
      have hbound : i * e0.sz + j < arr0.size := by
        have h1 : (i + 1) * e0.sz ≤ e0.cap * e0.sz := Nat.mul_le_mul_right _ (by omega)
        rw [Nat.add_mul, Nat.one_mul] at h1
        rw [h16]; omega
      have := (h18 i el j c _ g1 g2 (Array.getElem?_eq_getElem hbound)).ownB
      rw [hn] at this
      exact this
  · intro g g' es es' e e' hg hg' he he' heq
    have h1 := h.row_lt hg
    have h3 := h.row_lt hg'
    exact h'.rowsD g g' es es' e e' (by rw [hk.rows g h1]; exact hg) (by rw [hk.rows g' h3]; exact hg') (hlt g e he).2 (hlt g' e' he').2 heq

/-- a call that hands the state back -/
theorem CallsA.restore {P : Program} {k : FuncId} {args : List AV} {A : AState} {R R' : ARes → AState → Prop} (h : CallsA P k args A R)
    (hr : ∀ r A', R r A' → ∃ v v', r = .ret v ∧ Keep A.boxes.length A.lens.length A A' ∧ (∀ (S : Snap) (Om : List OwnE) (ι : List Nat) (u : Value), V S Om ι v u → V S Om ι v' u) ∧ OwnB A.lens.length v' ∧ Below A.boxes.length v' ∧ R' (.ret v') A) : CallsA P k args A R' :=
  have key : ∀ (K : Kw) (w : World) (e : Ending) (w' : World), Sat K A w → postA K R e w' → postA K R' e w' := fun K w e w' hs he => by
    cases e with
    | returned u =>
      obtain ⟨K', A', v, h1, h2, h3, h4⟩ := he
      obtain ⟨v0, v', heq, hk, hw, ho, hb, hR⟩ := hr _ _ h4
      injection heq with heq
      subst heq
      obtain ⟨g1, g2⟩ := Sat.restore hs h1 h2 hk
      exact ⟨_, A, v', g1, g2, V.takeOwn ((hw _ _ _ _ h3).take hb) ho, hR⟩
    | panicked chain =>
      obtain ⟨K', A', v, u, h1, h2, h3, h4, h5⟩ := he
      obtain ⟨v0, v', heq, _⟩ := hr _ _ h5
      cases heq
    | outgrown => exact he
  h.elim (fun h => .inl ⟨h.1, fun K w vals hs hv => (h.2 K w vals hs hv).mono fun e w' he => key K w e w' hs he⟩)
    (fun h => .inr fun K w vals hs hv => by obtain ⟨u, w', h1, h2⟩ := h K w vals hs hv; exact ⟨u, w', h1, key K w _ w' hs h2⟩)

end Go.Ab
