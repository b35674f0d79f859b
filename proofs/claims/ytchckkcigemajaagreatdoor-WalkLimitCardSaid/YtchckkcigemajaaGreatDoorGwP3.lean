/- All paths of a tree: the hook tells the truth. -/
import Derived.Test.YtchckkcigemajaaGreatDoorGwP2
import Derived.Test.YtchckkcigemajaaGreatDoorGxN2
namespace Go.Proofs.YtchckkcigemajaaGreatDoor
open Go.Ab Go.Maps Go.Sort
set_option linter.unusedVariables false

set_option maxRecDepth 10000 in
theorem hPaths_fits : HookFits Tryz.prog 59 (hPaths 4) := by
  intro ro rl args A v A' h h1 h2
  unfold hPaths at h
  split at h
  case h_2 => cases h
  rename_i i off
  split at h
  case h_2 => cases h
  rename_i cs hcs
  split at h
  case h_2 => cases h
  rename_i g hg
  split at h
  case h_2 => cases h
  rename_i es hes
  split at h
  case h_2 => cases h
  rename_i ks hks hlen
  simp only [Option.some.injEq, Prod.mk.injEq] at h
  obtain ⟨rfl, rfl⟩ := h
  have hb : hasBody Tryz.prog 59 = true := by kernel_rfl
  refine ⟨.inl ⟨hb, fun K w vals hs hv => ?_⟩, .refl h1 h2⟩
  -- the argument
  obtain ⟨u, rfl⟩ : ∃ u, vals = #[u] := by
    have h3 : vals.toList.length = 1 := by simpa using hv.1
    obtain ⟨u, hu⟩ := List.length_eq_one_iff.1 h3
    exact ⟨u, by rw [← Array.toArray_toList (xs := vals), hu]⟩
  have hvu := hv.2 0 (.ptr i off) u rfl rfl
  cases hvu with
  | ptr hι =>
  rename_i b
  obtain ⟨arr, ty, hh, hsz, hV⟩ := hs.box i b cs hι hcs
  have hfl := (List.getElem?_eq_some_iff.1 hg).1
  obtain ⟨x, hx⟩ : ∃ x, arr[off + 4]? = some x := ⟨_, Array.getElem?_eq_getElem (by omega)⟩
  have hvx := hV (off + 4) (.mapr g) x hg hx
  cases hvx with
  | mapr he hrow hmap =>
  rename_i e
  obtain ⟨e', hr⟩ := hs.rows g es hes
  obtain rfl : e' = e := Option.some.inj (hr.om.symm.trans he)
  obtain ⟨ents, clock, hm, hms, hent, hst⟩ := hr.ents hmap
  obtain ⟨hreads, hkeys⟩ := keysOfRow_spec es ents.toList ks hks (by simpa using hms) (fun i el x h1 h2 => hent i el x h1 (by simpa using h2))
  have hle : es.length ≤ 1000000 := by
    generalize es.length = m at hlen
    exact Nat.le_of_ble_eq_true hlen
  have hcell : w.cell? ⟨b, off + 4, none⟩ = some (.map (some e'.blk)) := by
    simp only [World.cell?, hh]; simpa using hx
  -- the map reads as data
  have hrd : ∀ x ∈ ents.toList, Go.WideElems.rd (H := Unit) Tryz.prog 9 (plainElem Tryz.prog 3) x = some (.string (entBytes x), (Go.WideElems.rg Tryz.prog 9 (plainElem Tryz.prog 3) x).2) := by
    intro x hx
    obtain ⟨s, z, g1, g2, g3, g4⟩ := hreads x hx
    have hk : keyOf Tryz.prog 9 x.key = some (.string s.data.toList) := by
      rw [g1]; exact Go.WideMaps.keyOf_string_mk Tryz.underlying9 (Nat.le_trans g2 (by decide))
    have hp : plainElem (H := Unit) Tryz.prog 3 x.val = some (.lit (.int .i64 z), []) := by rw [g3]; exact plainElem_int Tryz.underlying3 g4
    unfold Go.WideElems.rg
    unfold Go.WideElems.rd
    rw [hk, hp]
    simp [entBytes, g1]
  have hown : w.ownsMap (H := Unit) Tryz.prog 9 (plainElem Tryz.prog 3) e'.blk ents.size (.map ((ents.toList.map (Go.WideElems.rg Tryz.prog 9 (plainElem Tryz.prog 3))).foldr DataW.insert [])) :=
    ⟨ents, clock, hm, ⟨by rw [hms]; exact Nat.le_trans hle (by decide), hst, fun x hx => ⟨_, hrd x hx⟩⟩, Nat.le_refl _, rfl⟩
  have hsk : (strKeys (.map ((ents.toList.map (Go.WideElems.rg (H := Unit) Tryz.prog 9 (plainElem Tryz.prog 3))).foldr DataW.insert []))).Perm ks := by
    show (((ents.toList.map (Go.WideElems.rg (H := Unit) Tryz.prog 9 (plainElem Tryz.prog 3))).foldr DataW.insert []).map fun p => strOf p.1).Perm ks
    refine ((Go.WideShapes.sorted_perm _).map _).trans ?_
    rw [List.map_map, ← hkeys]
    have : ents.toList.map ((fun p => strOf p.1) ∘ Go.WideElems.rg (H := Unit) Tryz.prog 9 (plainElem Tryz.prog 3)) = ents.toList.map entBytes := by
      apply List.map_congr_left
      intro x hx
      have h3 := hrd x hx
      simp only [Function.comp]
      have h4 : Go.WideElems.rg (H := Unit) Tryz.prog 9 (plainElem Tryz.prog 3) x = (.string (entBytes x), (Go.WideElems.rg (H := Unit) Tryz.prog 9 (plainElem Tryz.prog 3) x).2) := by
        conv => lhs; unfold Go.WideElems.rg
        rw [h3]; rfl
      rw [h4]; rfl
    rw [this]
  have hsize : Maps.size (.map ((ents.toList.map (Go.WideElems.rg (H := Unit) Tryz.prog 9 (plainElem Tryz.prog 3))).foldr DataW.insert [])) = ents.size := by
    show ((ents.toList.map _).foldr DataW.insert []).length = _
    rw [DataW.length_sorted]; simp
  refine (paths_any b off e'.blk ents.size sortStrs sortNil _ w hcell hown (by rw [hsize, hms]; exact Nat.le_trans hle (by decide)) (by rw [hsize, hms]; omega)).mono ?_
  rintro e0 w' ⟨vv, ss, rfl, hperm, hrw, hstays⟩
  have hsat := hs.grow hstays.block hstays.size ⟨hstays.os, hstays.out⟩
  have hsort : ss.mergeSort (fun x y => decide (x ≤ y)) = sortBytes ks := sortBytes_eq (hperm.trans hsk)
  rw [hsort] at hrw
  have hlen2 : (sortBytes ks).length = ss.length := by rw [(sortBytes_perm ks).length_eq, (hperm.trans hsk).length_eq]
  rcases hrw.2 with ⟨rfl, hz⟩ | ⟨g', cap, cur, rfl, hbase, hb', hn, hcap, hcsz, hxs⟩
  · have : sortBytes ks = [] := List.eq_nil_of_length_eq_zero (by omega)
    rw [this]
    exact ⟨K, A, _, .refl K, hsat, V.empty (tag := .any) trivial, rfl, rfl⟩
  · have hbn : K.base g' = none := by
      cases hbb : K.base g' with
      | none => rfl
      | some o => exact absurd (lt_of_heap (hs.baseEq _ o hbb)) (by omega)
    have hgι : g' ∉ K.ι := fun hm => absurd (hs.ι_lt hm) (by omega)
    obtain ⟨hK, hsat2⟩ := Sat.update hsat (w' := w') g' (fun o => if o < ss.length then cur[o]? else none) K.Om hbn hgι (fun _ _ _ => rfl) (Nat.le_refl _)
      (fun o v ho => by
        split at ho
        · simp only [World.cell?, hb']; simpa using ho
        · cases ho)
      (fun o v ho => absurd (hs.S_lt ho) (by omega))
      (fun g e he => ⟨e, he, Nat.le_refl _, fun _ => rfl, rfl, fun _ => rfl⟩)
      (fun g es e hg he hq => by
        obtain ⟨e2, hr2⟩ := hs.rows g es hg
        obtain rfl : e2 = e := Option.some.inj (hr2.om.symm.trans he)
        have := hr2.lt; omega)
      (fun g e he hlv => .inl ⟨he, fun hq => by have := hs.own_lt he hlv; omega⟩)
      (fun g g' e e' he he' hlv hlv' hq _ => by have := hs.own_lt he hlv; omega)
    have hA : ({ A with lens := K.Om.map (·.len) } : AState) = A := by rw [hs.lens]
    rw [hA] at hsat2
    refine ⟨_, A, _, hK, hsat2, ?_, rfl, rfl⟩
    have hget : ∀ j, j < ss.length → cur[j]? = ((sortBytes ks).map encStr)[j]? := fun j hj => by
      rw [← hxs, Nat.mul_one, List.getElem?_take_of_lt hj, Array.getElem?_toList]
    rcases Nat.eq_zero_or_pos ss.length with hz | hpos
    · have : sortBytes ks = [] := List.eq_nil_of_length_eq_zero (by omega)
      rw [this, hz]
      exact V.empty (tag := .any) trivial
    · have hV2 := V.slice (S := K.S.set g' fun o => if o < ss.length then cur[o]? else none) (Om := K.Om) (ι := K.ι) (es := (sortBytes ks).map fun k => [AV.val (.string ⟨k.toArray⟩)]) (tag := .any) (b := g') (off := 0) (cap := cap) (sz := 1)
        ((sortBytes ks).map fun k => [encStr k]) (by simp) (fun u hu => by
          obtain ⟨k, _, rfl⟩ := List.mem_map.1 hu; rfl)
        (fun i e u he hu => by
          rw [List.getElem?_map] at he hu
          cases hk : (sortBytes ks)[i]? with
          | none => rw [hk] at he; cases he
          | some k => rw [hk] at he hu; simp at he hu; subst he; subst hu; rfl)
        (fun i u j x hu hx => by
          rw [List.getElem?_map] at hu
          cases hk : (sortBytes ks)[i]? with
          | none => rw [hk] at hu; cases hu
          | some k =>
            rw [hk] at hu; simp at hu; subst hu
            have hi := (List.getElem?_eq_some_iff.1 hk).1
            cases j with
            | zero =>
              simp at hx
              subst hx
              simp only [Snap.set, if_true, Nat.zero_add, Nat.mul_one, Nat.add_zero]
              rw [if_pos (by omega), hget i (by omega), List.getElem?_map, hk]
              rfl
            | succ j => simp at hx)
        (fun i e u j c x he hu hc hx => by
          rw [List.getElem?_map] at he hu
          cases hk : (sortBytes ks)[i]? with
          | none => rw [hk] at he; cases he
          | some k =>
            rw [hk] at he hu; simp at he hu; subst he; subst hu
            cases j with
            | zero => simp at hc hx; subst hc; subst hx; exact .val _
            | succ j => simp at hc)
        (by simp; omega) trivial
      simp only [List.length_map, hlen2] at hV2
      exact hV2
end Go.Proofs.YtchckkcigemajaaGreatDoor
