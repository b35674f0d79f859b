/- The state handed back where the result leads to rows of the call's own: they are frozen. -/
import Derived.Test.YtchckkcigemajaaGreatDoorGxC1
namespace Go.Ab
set_option linter.unusedVariables false
set_option linter.unusedSimpArgs false

/-- rows from m on are told by what they hold (looked at to a depth) -/
def fixR (A : AState) (m : Nat) : Nat → AV → AV
  | 0, v => v
  | d + 1, .row g off n => match Nat.ble m g with
    | true => match rowL A.rows g with
      | some es => match Nat.ble (off + n) es.length with
        | true => .slice (((es.drop off).take n).map fun e => e.map (fixR A m d)) .any
        | false => .row g off n
      | none => .row g off n
    | false => .row g off n
  | d + 1, .agg cs => .agg (cs.map (fixR A m d))
  | d + 1, .tuple cs => .tuple (cs.map (fixR A m d))
  | d + 1, .iface t a => .iface t (fixR A m d a)
  | d + 1, .slice es tag => .slice (es.map fun e => e.map (fixR A m d)) tag
  | _ + 1, v => v

def dropRows (m : Nat) (rows : List (Nat × List (List AV))) : List (Nat × List (List AV)) := rows.filter fun p => Nat.blt p.1 m

theorem rowL_drop (m g : Nat) : ∀ rows, rowL (dropRows m rows) g = if g < m then rowL rows g else none
  | [] => by simp [dropRows, rowL]
  | (g', es) :: r => by
    have ih := rowL_drop m g r
    unfold dropRows at ih ⊢
    rw [List.filter_cons]
    by_cases hg : g' < m
    · have : Nat.blt g' m = true := by simpa [Nat.blt_eq] using hg
      rw [if_pos this]
      simp only [rowL, ih]
      by_cases hgg : g' = g
      · subst hgg; simp [hg]
      · simp [hgg]
    · have : ¬ Nat.blt g' m = true := by simpa [Nat.blt_eq] using hg
      rw [if_neg this, ih]
      simp only [rowL]
      by_cases hgg : g' = g
      · subst hgg; simp [hg]
      · simp [hgg]

open Classical in
noncomputable def frozenS (K : Kw) (A : AState) (w : World) (m : Nat) : Snap := fun b o =>
  match K.S b o with
  | some v => some v
  | none => if ∃ (g : Nat) (es : List (List AV)) (e : OwnE), m ≤ g ∧ rowL A.rows g = some es ∧ K.Om[g]? = some e ∧ e.map = false ∧ e.blk = b then w.cell? ⟨b, o, none⟩ else none

theorem frozenS_ext (K : Kw) (A : AState) (w : World) (m : Nat) : Ext K.S K.Om (frozenS K A w m) K.Om :=
  ⟨fun b o v h => by simp only [frozenS, h], (Ext.refl K.S K.Om).own⟩

theorem frozenS_none {K : Kw} {A : AState} {w : World} {m b o : Nat} (hS : K.S b o = none) (h : ∀ (g : Nat) (es : List (List AV)) (e : OwnE), m ≤ g → rowL A.rows g = some es → K.Om[g]? = some e → e.blk ≠ b) : frozenS K A w m b o = none := by
  simp only [frozenS, hS]
  rw [if_neg]
  rintro ⟨g, es, e, h1, h2, h3, _, h4⟩
  exact h g es e h1 h2 h3 h4

theorem frozenS_row {K : Kw} {A : AState} {w : World} {m g : Nat} {es : List (List AV)} {e : OwnE} (h : RowIn K w g es e) (hg : rowL A.rows g = some es) (hm : m ≤ g) (hmap : e.map = false) (o : Nat) : frozenS K A w m e.blk o = w.cell? ⟨e.blk, o, none⟩ := by
  simp only [frozenS, h.noS]
  rw [if_pos ⟨g, es, e, hm, hg, h.om, hmap, rfl⟩]

theorem Sat.freezeRows {K : Kw} {A : AState} {w : World} (h : Sat K A w) (m : Nat) : Sat { K with S := frozenS K A w m } { A with rows := dropRows m A.rows } w := by
  have hx := frozenS_ext K A w m
  have hblk : ∀ (g : Nat) (es : List (List AV)) (e : OwnE), rowL A.rows g = some es → K.Om[g]? = some e → RowIn K w g es e := fun g es e hg he => by
    obtain ⟨e', hr⟩ := h.rows g es hg
    have := hr.om
    rw [he] at this
    injection this with this
    subst this
    exact hr
  refine { cells := ?_, nbox := h.nbox, box := ?_, boxS := ?_, boxBase := h.boxBase, nodup := h.nodup, lens := h.lens, own := ?_, ownD := h.ownD, rows := ?_, rowsD := ?_, baseEq := h.baseEq, baseS := ?_, osEq := h.osEq }
  · intro b o v hv
    simp only [frozenS] at hv
    cases hs : K.S b o with
    | some v' => rw [hs] at hv; simp only at hv; rw [← hv]; exact h.cells b o v' hs
    | none =>
      rw [hs] at hv
      simp only at hv
      split at hv
      · exact hv
      · cases hv
  · intro i b cs hi hc
    obtain ⟨arr, ty, hh, hsz, hr⟩ := h.box i b cs hi hc
    exact ⟨arr, ty, hh, hsz, fun j c u hc hu => V.mono hx (hr j c u hc hu) (List.prefix_refl _)⟩
  · intro b hb o
    exact frozenS_none (h.boxS b hb o) fun g es e _ hg he hq => (hblk g es e hg he).noι (hq ▸ hb)
  · intro g e he hlv
    obtain ⟨h0, h1, h2, h3, h4, h5⟩ := h.own g e he hlv
    exact ⟨h0, h1, h2, h3, h4, fun o ho => frozenS_none (h5 o ho) fun g' es' e' _ hg' he' hq => (hblk g' es' e' hg' he').noOwn g e he hlv hq.symm⟩
  · intro g es hg
    simp only [rowL_drop] at hg
    split at hg
    · rename_i hgm
      obtain ⟨e, hr⟩ := h.rows g es hg
      refine ⟨e, hr.keep hx rfl rfl hr.noι (fun o => frozenS_none (hr.noS o) fun g' es' e' hm' hg' he' hq => ?_) hr.noOwn⟩
      have := h.rowsD g' g es' es e' e hg' hg he' hr.om hq
      omega
    · cases hg
  · intro g g' es es' e e' hg hg' he he' heq
    simp only [rowL_drop] at hg hg'
    split at hg <;> split at hg'
    · exact h.rowsD g g' es es' e e' hg hg' he he' heq
    · cases hg'
    · cases hg
    · cases hg
  · intro b x hb ht i
    exact frozenS_none (h.baseS b x hb ht i) fun g es e _ hg he hq => by have := (hblk g es e hg he).base; rw [hq, hb] at this; cases this

theorem V.fixR {K : Kw} {A : AState} {w : World} (h : Sat K A w) {m : Nat} : ∀ (d : Nat) {ι : List Nat} {a : AV} {u : Value}, V K.S K.Om ι a u → V (frozenS K A w m) K.Om ι (Ab.fixR A m d a) u
  | 0, ι, a, u, hv => V.mono (frozenS_ext K A w m) hv (List.prefix_refl _)
  | d + 1, ι, a, u, hv => by
    have hmono : V (frozenS K A w m) K.Om ι a u := V.mono (frozenS_ext K A w m) hv (List.prefix_refl _)
    have hmap : ∀ {cs : List AV} {us : List Value} {ι : List Nat}, (∀ (j : Nat) (c : AV) (u : Value), cs[j]? = some c → us[j]? = some u → V K.S K.Om ι c u) → ∀ (j : Nat) (c : AV) (u : Value), (cs.map (Ab.fixR A m d))[j]? = some c → us[j]? = some u → V (frozenS K A w m) K.Om ι c u := by
      intro cs us ι hV j c u hc hu
      rw [List.getElem?_map] at hc
      cases hcj : cs[j]? with
      | none => simp [hcj] at hc
      | some c' => simp [hcj] at hc; subst hc; exact V.fixR h d (hV j c' u hcj hu)
    cases hv with
    | agg us hl hV => exact .agg us (by simp [hl]) (hmap hV)
    | tuple us hl hV => exact .tuple us (by simp [hl]) (hmap hV)
    | iface hv => exact .iface (V.fixR h d hv)
    | empty ht => exact .empty (by simpa using ht)
    | slice us hl hsz hes hS hV hc ht =>
      rename_i es tag b off cap sz
      simp only [Ab.fixR]
      have := V.slice (S := frozenS K A w m) (Om := K.Om) (ι := ι) (es := es.map fun e => e.map (Ab.fixR A m d)) (tag := tag) (b := b) (off := off) (cap := cap) (sz := sz) us (by simp [hl]) hsz (fun i e u he hu => ?_) (fun i u j x hu hx => (frozenS_ext K A w m).snap _ _ _ (hS i u j x hu hx)) (fun i e u j c x he hu hc hx => ?_) (by simpa using hc) (by simpa using ht)
      · simpa using this
      · rw [List.getElem?_map] at he
        cases hei : es[i]? with
        | none => simp [hei] at he
        | some e' => simp [hei] at he; subst he; rw [hes i e' u hei hu]; simp
      · rw [List.getElem?_map] at he
        cases hei : es[i]? with
        | none => simp [hei] at he
        | some e' =>
          simp [hei] at he; subst he
          exact hmap (fun j c u hc hu => hV i e' _ j c u hei ‹_› hc hu) j c x hc hx
    | row he hr hm hn =>
      rename_i g off n e
      simp only [Ab.fixR]
      split
      · rename_i hmg
        have hmg' : m ≤ g := Nat.le_of_ble_eq_true hmg
        split
        · rename_i es hg
          split
          · rename_i hon
            have hon' : off + n ≤ es.length := Nat.le_of_ble_eq_true hon
            obtain ⟨e', hrow⟩ := h.rows g es hg
            have hee : e' = e := by have := hrow.om; rw [he] at this; injection this with this; exact this.symm
            subst hee
            obtain ⟨h5, h6, arr, ty, h1, h2, h3, h4⟩ := hrow.cells hm
            rcases Nat.eq_zero_or_pos n with rfl | hn0
            · simp only [List.take_zero, List.map_nil]
              exact .empty trivial
            · have hlen : ((es.drop off).take n).length = n := by simp; omega
              have hget : ∀ i, i < n → ((es.drop off).take n)[i]? = es[off + i]? := fun i hi => by rw [List.getElem?_take_of_lt hi, List.getElem?_drop]
              have hbound : ∀ i j, i < n → j < e'.sz → (off + i) * e'.sz + j < arr.size := fun i j hi hj => by
                have h7 : (off + i + 1) * e'.sz ≤ e'.cap * e'.sz := Nat.mul_le_mul_right _ (by omega)
                rw [Nat.add_mul, Nat.one_mul] at h7
                rw [h2]; omega
              let us : List (List Value) := (List.range n).map fun i => (List.range e'.sz).map fun j => (arr[(off + i) * e'.sz + j]?).getD undef
              have hus : ∀ (i : Nat) (u : List Value), us[i]? = some u → i < n ∧ u = (List.range e'.sz).map fun j => (arr[(off + i) * e'.sz + j]?).getD undef := fun i u hu => by
                simp only [us, List.getElem?_map] at hu
                by_cases hi : i < n
                · rw [List.getElem?_range hi] at hu
                  simp at hu
                  exact ⟨hi, hu.symm⟩
                · rw [List.getElem?_eq_none (by simpa using hi)] at hu
                  cases hu
              have huj : ∀ (i : Nat) (u : List Value) (j : Nat) (x : Value), us[i]? = some u → u[j]? = some x → i < n ∧ j < e'.sz ∧ arr[(off + i) * e'.sz + j]? = some x := fun i u j x hu hx => by
                obtain ⟨hi, rfl⟩ := hus i u hu
                rw [List.getElem?_map] at hx
                by_cases hj : j < e'.sz
                · rw [List.getElem?_range hj] at hx
                  simp only [Option.map_some, Option.some.injEq] at hx
                  refine ⟨hi, hj, ?_⟩
                  rw [← hx]
                  have := hbound i j hi hj
                  simp [Array.getD, this]
                · rw [List.getElem?_eq_none (by simpa using hj)] at hx
                  cases hx
              have hcell : ∀ o, w.cell? ⟨e'.blk, o, none⟩ = arr[o]? := fun o => by simp [World.cell?, h1]
              have hoff : (off * e'.sz) = off * e'.sz := rfl
              have := V.slice (S := frozenS K A w m) (Om := K.Om) (ι := ι) (es := ((es.drop off).take n).map fun e => e.map (Ab.fixR A m d)) (tag := .any) (b := e'.blk) (off := off * e'.sz) (cap := e'.cap - off) (sz := e'.sz) us (by simp only [us, List.length_map, List.length_range, hlen]) (fun u hu => ?_) (fun i el u hel hu => ?_) (fun i u j x hu hx => ?_) (fun i el u j c x hel hu hc hx => ?_) (by rw [List.length_map, hlen]; omega) trivial
              · rw [List.length_map, hlen] at this
                exact this
              · obtain ⟨i, hi⟩ := List.mem_iff_getElem?.1 hu
                obtain ⟨_, rfl⟩ := hus i u hi
                simp
              · obtain ⟨hi, rfl⟩ := hus i u hu
                rw [List.getElem?_map, hget i hi] at hel
                cases hei : es[off + i]? with
                | none => simp [hei] at hel
                | some e0 => simp [hei] at hel; subst hel; simp [h3 _ _ hei]
              · obtain ⟨hi, hj, hx'⟩ := huj i u j x hu hx
                rw [frozenS_row hrow hg hmg' hm, hcell, ← hx', Nat.add_mul]
              · obtain ⟨hi, hj, hx'⟩ := huj i u j x hu hx
                rw [List.getElem?_map, hget i hi] at hel
                cases hei : es[off + i]? with
                | none => simp [hei] at hel
                | some e0 =>
                  simp [hei] at hel; subst hel
                  rw [List.getElem?_map] at hc
                  cases hcj : e0[j]? with
                  | none => simp [hcj] at hc
                  | some c0 =>
                    simp [hcj] at hc; subst hc
                    exact V.fixR h d (h4 (off + i) e0 j c0 x hei hcj hx')
          · exact .row he hr hm hn
        · exact .row he hr hm hn
      · exact .row he hr hm hn
    | val => exact .val _
    | top => exact .top _
    | ptr hb => exact .ptr hb
    | eptr us hl hS hV => exact hmono
    | mslice hb hc => exact .mslice hb hc
    | rptr he hr hm => exact .rptr he hr hm
    | mapr he hr hm => exact .mapr he hr hm
    | func us hl hV => exact hmono

/-- a call that hands the state back, its own rows frozen -/
theorem CallsA.restoreR {P : Program} {k : FuncId} {args : List AV} {A : AState} {R R' : ARes → AState → Prop} (d : Nat) (h : CallsA P k args A R)
    (hr : ∀ r A', R r A' → ∃ v v', r = .ret v ∧ Keep A.boxes.length A.lens.length A A' ∧ (∀ (S : Snap) (Om : List OwnE) (ι : List Nat) (u : Value), V S Om ι (Ab.fixR A' A.lens.length d v) u → V S Om ι v' u) ∧ OwnB A.lens.length v' ∧ Below A.boxes.length v' ∧ R' (.ret v') A) : CallsA P k args A R' :=
  have key : ∀ (K : Kw) (w : World) (e : Ending) (w' : World), Sat K A w → postA K R e w' → postA K R' e w' := fun K w e w' hs he => by
    cases e with
    | returned u =>
      obtain ⟨K', A', v, h1, h2, h3, h4⟩ := he
      obtain ⟨v0, v', heq, hk, hw, ho, hb, hR⟩ := hr _ _ h4
      injection heq with heq
      subst heq
      have h2f := h2.freezeRows A.lens.length
      have hle : K.le { K' with S := frozenS K' A' w' A.lens.length } := ⟨h1.ext.trans (frozenS_ext K' A' w' _), h1.pre, h1.base⟩
      have hkf : Keep A.boxes.length A.lens.length A { A' with rows := dropRows A.lens.length A'.rows } := ⟨hk.boxes, hk.lens, fun g hg => by simp only [rowL_drop, if_pos hg]; exact hk.rows g hg, hk.nb, hk.nl⟩
      obtain ⟨g1, g2⟩ := Sat.restore hs hle h2f hkf
      exact ⟨_, A, v', g1, g2, V.takeOwn ((hw _ _ _ _ (V.fixR h2 d h3)).take hb) ho, hR⟩
    | panicked chain =>
      obtain ⟨K', A', v, u, h1, h2, h3, h4, h5⟩ := he
      obtain ⟨v0, v', heq, _⟩ := hr _ _ h5
      cases heq
    | outgrown => exact he
  h.elim (fun h => .inl ⟨h.1, fun K w vals hs hv => (h.2 K w vals hs hv).mono fun e w' he => key K w e w' hs he⟩)
    (fun h => .inr fun K w vals hs hv => by obtain ⟨u, w', h1, h2⟩ := h K w vals hs hv; exact ⟨u, w', h1, key K w _ w' hs h2⟩)

end Go.Ab
