/- Maps of plain keys and plain values. -/
import Derived.Test.YtchckkcigemajaaGreatDoorGxA8
import Derived.MapKept
import Derived.Laws.StructEq
namespace Go.Ab
set_option linter.unusedVariables false
set_option linter.unusedSimpArgs false
section
variable {P : Program}

def tyMap (P : Program) (t : TypeId) : Option (TypeId × TypeId) :=
  match P.underlying t with
  | some (.map k e) => some (k, e)
  | _ => none
theorem tyMap_some {t k e : TypeId} (h : tyMap P t = some (k, e)) : P.underlying t = some (.map k e) := by
  unfold tyMap at h
  split at h
  · rename_i k' e' he; injection h with h; injection h with h1 h2; subst h1; subst h2; exact he
  · cases h

theorem beq_bytes {a b : ByteArray} (h : (a == b) = true) : a = b := by
  rw [beq_toListBytes] at h
  have h2 := eq_of_beq h
  rw [ByteArray.toList_eq, ByteArray.toList_eq] at h2
  exact ByteArray.ext (by simpa using h2)
theorem beq_bytes_self (a : ByteArray) : (a == a) = true := by rw [beq_toListBytes]; simp

/-- may values of this type be keys here? -/
def keyD : TypeDesc → Value → Bool
  | .int k, .int k' _ => k == k'
  | .string, .string _ => true
  | _, _ => false

/-- a map's entry of a key -/
def findA (kv : Value) : List (List AV) → Nat → Option (Option (Nat × Value))
  | [], _ => some none
  | [.val k, .val v] :: r, i =>
    match kv, k with
    | .int j a, .int j' b => if j = j' then (if a == b then some (some (i, v)) else findA kv r (i + 1)) else none
    | .string a, .string b => if a == b then some (some (i, v)) else findA kv r (i + 1)
    | _, _ => none
  | _, _ => none

theorem findA_ok {d : TypeDesc} {kv : Value} (hk : keyD d kv = true) : ∀ {es : List (List AV)} {ents : List MapEntry} {i : Nat} {r : Option (Nat × Value)}, ents.length = es.length →
    (∀ (i : Nat) (el : List AV) (x : MapEntry), es[i]? = some el → ents[i]? = some x → el = [.val x.key, .val x.val]) → findA kv es i = some r → Instr.findNow d kv ents i = some r
  | [], ents, i, r, hl, _, h => by
    have : ents = [] := List.eq_nil_of_length_eq_zero (by simpa using hl)
    subst this
    simp only [findA, Option.some.injEq] at h
    subst h; rfl
  | el :: es, [], i, r, hl, _, h => by simp at hl
  | el :: es, x :: ents, i, r, hl, he, h => by
    have hx := he 0 el x rfl rfl
    subst hx
    have ih := findA_ok hk (es := es) (ents := ents) (i := i + 1) (r := r) (by simpa using hl) (fun i el x h1 h2 => he (i + 1) el x (by simpa using h1) (by simpa using h2))
    simp only [findA] at h
    unfold keyD at hk
    split at hk
    · rename_i k k' n
      have : k = k' := by simpa using hk
      subst this
      split at h
      · rename_i j a j' b h1 h2
        injection h1 with h1 h3
        subst h1; subst h3
        split at h
        · rename_i hj
          subst hj
          have hs : Instr.sameNow (.int k) (.int k n) x.key = some (n == b) := by rw [h2]; simp [Instr.sameNow]
          unfold Instr.findNow
          rw [hs]
          split at h
          · rename_i hab; rw [hab]; exact h
          · rename_i hab
            have : (n == b) = false := by simpa using hab
            rw [this]; exact ih h
        · cases h
      · simp_all
      · cases h
    · rename_i s
      split at h
      · simp_all
      · rename_i a b h1 h2
        injection h1 with h1
        subst h1
        have hs : Instr.sameNow .string (.string s) x.key = some (s == b) := by rw [h2]; simp [Instr.sameNow]
        unfold Instr.findNow
        rw [hs]
        split at h
        · rename_i hab; rw [hab]; exact h
        · rename_i hab
          have : (s == b) = false := by simpa using hab
          rw [this]; exact ih h
      · cases h
    · cases hk

theorem run_findKey {k : TypeId} {d : TypeDesc} (hu : P.underlying k = some d) {kv : Value} {ents : List MapEntry} {r : Option (Nat × Value)} (h : Instr.findNow d kv ents 0 = some r) (w : World) : (Instr.findKey k kv ents).run P w = .ok r w := by
  simp [Instr.findKey, run_underlying hu, h]

theorem run_checkKey {k : TypeId} {d : TypeDesc} (hu : P.underlying k = some d) {kv : Value} (hk : keyD d kv = true) (b : Bool) (n : Nat) (w : World) : (Instr.checkKey b (n + 1) k kv).run P w = .ok () w := by
  unfold keyD at hk
  split at hk
  · simp [Instr.checkKey, run_underlying hu]
  · simp [Instr.checkKey, run_underlying hu]
  · cases hk

theorem findA_none {d : TypeDesc} {kv : Value} (hk : keyD d kv = true) : ∀ {es : List (List AV)} {ents : List MapEntry} {i : Nat}, findA kv es i = some none → ents.length = es.length →
    (∀ (i : Nat) (el : List AV) (x : MapEntry), es[i]? = some el → ents[i]? = some x → el = [.val x.key, .val x.val]) → ∀ x ∈ ents, x.key ≠ kv
  | [], ents, i, _, hl, _ => by
    have : ents = [] := List.eq_nil_of_length_eq_zero (by simpa using hl)
    subst this
    intro x hx; cases hx
  | el :: es, [], i, h, hl, _ => by simp at hl
  | el :: es, x :: ents, i, h, hl, he => by
    have hx := he 0 el x rfl rfl
    subst hx
    have step : ∀ (h2 : findA kv es (i + 1) = some none), ∀ y ∈ ents, y.key ≠ kv := fun h2 => findA_none hk h2 (by simpa using hl) (fun i el x h1 h2 => he (i + 1) el x (by simpa using h1) (by simpa using h2))
    simp only [findA] at h
    split at h
    · rename_i j a j' b h1
      split at h
      · split at h
        · cases h
        · rename_i hab
          intro y hy
          rcases List.mem_cons.1 hy with rfl | hy
          · intro hq
            rw [h1] at hq
            injection hq with _ hq
            exact hab (by simp [hq])
          · exact step h y hy
      · cases h
    · rename_i a b h1
      split at h
      · cases h
      · rename_i hab
        intro y hy
        rcases List.mem_cons.1 hy with rfl | hy
        · intro hq
          rw [h1] at hq
          injection hq with hq
          subst hq
          exact hab (beq_bytes_self _)
        · exact step h y hy
    · cases h

theorem findA_some {d : TypeDesc} {kv : Value} (hk : keyD d kv = true) : ∀ {es : List (List AV)} {ents : List MapEntry} {i j : Nat} {v : Value}, findA kv es i = some (some (j, v)) → ents.length = es.length →
    (∀ (i : Nat) (el : List AV) (x : MapEntry), es[i]? = some el → ents[i]? = some x → el = [.val x.key, .val x.val]) → ∀ (y : MapEntry), ents[j - i]? = some y → i ≤ j ∧ y.key = kv
  | [], ents, i, j, v, h, _, _ => by simp [findA] at h
  | el :: es, [], i, j, v, h, hl, _ => by simp at hl
  | el :: es, x :: ents, i, j, v, h, hl, he => by
    have hx := he 0 el x rfl rfl
    subst hx
    intro y hy
    have step : ∀ (h2 : findA kv es (i + 1) = some (some (j, v))), i ≤ j ∧ y.key = kv := fun h2 => by
      by_cases hij : i + 1 ≤ j
      · have hsub : j - i = (j - (i + 1)) + 1 := by omega
        rw [hsub] at hy
        have := findA_some hk h2 (by simpa using hl) (fun i el x h1 h2 => he (i + 1) el x (by simpa using h1) (by simpa using h2)) y (by simpa using hy)
        exact ⟨by omega, this.2⟩
      · exfalso
        cases ents with
        | nil =>
          have : es = [] := List.eq_nil_of_length_eq_zero (by simpa using hl.symm)
          subst this
          simp [findA] at h2
        | cons x0 ents0 =>
          have := findA_some hk (ents := x0 :: ents0) h2 (by simpa using hl) (fun i el x h1 h2 => he (i + 1) el x (by simpa using h1) (by simpa using h2)) x0 (by rw [show j - (i + 1) = 0 by omega]; rfl)
          omega
    simp only [findA] at h
    split at h
    · rename_i k a k' b h1
      split at h
      · rename_i hkk
        split at h
        · rename_i hab
          simp only [Option.some.injEq, Prod.mk.injEq] at h
          obtain ⟨rfl, _⟩ := h
          simp at hy
          subst hy
          refine ⟨Nat.le_refl _, ?_⟩
          rw [h1, hkk, eq_of_beq hab]
        · exact step h
      · cases h
    · rename_i a b h1
      split at h
      · rename_i hab
        simp only [Option.some.injEq, Prod.mk.injEq] at h
        obtain ⟨rfl, _⟩ := h
        simp at hy
        subst hy
        refine ⟨Nat.le_refl _, ?_⟩
        rw [h1, beq_bytes hab]
      · exact step h
    · cases h

/-- make(map[..]..) -/
theorem makeMapA_ok {K : Kw} {A : AState} {w : World} (h : Sat K A w) (t : TypeId) :
    ∃ K' y w', (Instr.makeMap t none).run P w = .ok y w' ∧ K.le K' ∧ Sat K' { A with lens := A.lens ++ [0], rows := (A.lens.length, []) :: A.rows } w' ∧ K'.V (.mapr A.lens.length) y := by
  obtain ⟨hK, hsat⟩ := Sat.addRowG h w.heap.size h.base_new h.not_ι_new (fun o => h.S_new o) (fun g e he hlv hq => absurd (h.own_lt he hlv) (by rw [hq]; exact Nat.lt_irrefl _)) h.row_new
    (fun b' hne hlt => halloc_old w (.map #[] 0) hlt) (by simp) ⟨false, w.heap.size, 0, 0, 0, true, true⟩ rfl rfl rfl [] (by
      unfold RowMem
      rw [if_pos rfl]
      exact ⟨#[], 0, halloc_new w _, rfl, by simp, Go.MapKept.stamped_empty 0⟩)
  refine ⟨_, .map (some w.heap.size), _, ?_, hK, hsat, ?_⟩
  · simp [Instr.makeMap]
  · have hlen : A.lens.length = K.Om.length := by rw [← h.lens]; simp
    exact V.mapr (e := ⟨false, w.heap.size, 0, 0, 0, true, true⟩) (by rw [hlen]; simp) rfl rfl

def lookupA (P : Program) (A : AState) (t : TypeId) (m : AV) (kv : AV) (commaOk : Bool) : Option AV :=
  match m, kv, tyMap P t with
  | .mapr g, .val kv, some (k, e) =>
    match rowL A.rows g, P.underlying k, tyZero P e with
    | some es, some d, some z =>
      if keyD d kv = true then
        match findA kv es 0 with
        | some (some (_, v)) => some (if commaOk then .tuple [.val v, .val (.bool true)] else .val v)
        | some none => some (if commaOk then .tuple [ofVal z, .val (.bool false)] else ofVal z)
        | none => none
      else none
    | _, _, _ => none
  | _, _, _ => none

theorem lookupA_ok {K : Kw} {A : AState} {w : World} (h : Sat K A w) {m kv : AV} {u uk : Value} (hm : K.V m u) (hk : K.V kv uk) {t : TypeId} {c : Bool} {v : AV} (hl : lookupA P A t m kv c = some v) :
    ∃ y, (Instr.lookup t u uk c).run P w = .ok y w ∧ K.V v y := by
  unfold lookupA at hl
  split at hl
  case h_2 => cases hl
  rename_i g kv k e hty
  have ht := tyMap_some hty
  split at hl
  case h_2 => cases hl
  rename_i es d z hes hd hz
  split at hl
  case isFalse => cases hl
  rename_i hkd
  cases hk
  cases hm with
  | mapr he hrow hmap =>
    rename_i ent
    obtain ⟨e', hr⟩ := h.rows g es hes
    have : e' = ent := by have := hr.om; rw [he] at this; injection this with this; exact this.symm
    subst this
    obtain ⟨ents, clock, hh, hsz, hent, hst⟩ := hr.ents hmap
    have hgo := Go.MapKept.run_getObj_map (P := P) hh
    have hck := run_checkKey (P := P) hd hkd
    have hz0 := run_zero_some hz w
    split at hl
    · rename_i i v' hf
      injection hl with hl
      have hfk := run_findKey (P := P) hd (findA_ok hkd (ents := ents.toList) (by simpa using hsz) (by simpa using hent) hf) w
      cases c
      · simp at hl; subst hl
        exact ⟨v', by simp [Instr.lookup, run_underlying ht, hgo, hck, hfk], .val _⟩
      · simp at hl; subst hl
        exact ⟨.tuple #[v', .bool true], by simp [Instr.lookup, run_underlying ht, hgo, hck, hfk], V.pair (.val _) (.val _)⟩
    · rename_i hf
      injection hl with hl
      have hfk := run_findKey (P := P) hd (findA_ok hkd (ents := ents.toList) (by simpa using hsz) (by simpa using hent) hf) w
      cases c
      · simp at hl; subst hl
        exact ⟨z, by simp [Instr.lookup, run_underlying ht, hgo, hck, hfk, hz0], V.ofVal _⟩
      · simp at hl; subst hl
        exact ⟨.tuple #[z, .bool false], by simp [Instr.lookup, run_underlying ht, hgo, hck, hfk, hz0], V.pair (V.ofVal _) (.val _)⟩
    · cases hl

def mapUpdateA (P : Program) (A : AState) (t : TypeId) (m kv x : AV) : Option AState :=
  match m, kv, x, tyMap P t with
  | .mapr g, .val kv, .val x, some (k, _) =>
    match rowL A.rows g, P.underlying k with
    | some es, some d =>
      if keyD d kv = true then
        match findA kv es 0 with
        | some (some (i, _)) => some { A with rows := (g, es.set i [.val kv, .val x]) :: killL A.rows g }
        | some none => some { A with rows := (g, es ++ [[.val kv, .val x]]) :: killL A.rows g }
        | none => none
      else none
    | _, _ => none
  | _, _, _, _ => none

theorem sameBits_of {d : TypeDesc} {kv : Value} (hk : keyD d kv = true) {es : List (List AV)} {ents : List MapEntry} : ∀ {i j : Nat} {v : Value}, findA kv es i = some (some (j, v)) → ents.length = es.length →
    (∀ (i : Nat) (el : List AV) (x : MapEntry), es[i]? = some el → ents[i]? = some x → el = [.val x.key, .val x.val]) → i ≤ j ∧ ∃ x, ents[j - i]? = some x ∧ Instr.sameBits 10000 x.key kv = true := by
  induction es generalizing ents with
  | nil => intro i j v h; simp [findA] at h
  | cons el es ih =>
    intro i j v h hl he
    cases ents with
    | nil => simp at hl
    | cons x ents =>
      have hx := he 0 el x rfl rfl
      subst hx
      have step : findA kv es (i + 1) = some (some (j, v)) → i ≤ j ∧ ∃ y, (x :: ents)[j - i]? = some y ∧ Instr.sameBits 10000 y.key kv = true := by
        intro h
        obtain ⟨h1, y, h2, h3⟩ := ih (ents := ents) h (by simpa using hl) (fun i el x h1 h2 => he (i + 1) el x (by simpa using h1) (by simpa using h2))
        refine ⟨by omega, y, ?_, h3⟩
        have : j - i = (j - (i + 1)) + 1 := by omega
        rw [this]; simpa using h2
      simp only [findA] at h
      split at h
      · rename_i j0 a j' b h2
        split at h
        · rename_i hj
          subst hj
          split at h
          · rename_i hab
            injection h with h; injection h with h; injection h with h3 h4
            subst h3
            refine ⟨Nat.le_refl _, x, by simp, ?_⟩
            have : b = a := by have := hab; simp at this; exact this.symm
            rw [h2, this]; simp [Instr.sameBits]
          · exact step h
        · cases h
      · rename_i a b h2
        split at h
        · rename_i hab
          injection h with h; injection h with h; injection h with h3 h4
          subst h3
          refine ⟨Nat.le_refl _, x, by simp, ?_⟩
          rw [h2, ← beq_bytes hab]; simp [Instr.sameBits, beq_bytes_self]
        · exact step h
      · cases h

theorem mapUpdateA_ok {K : Kw} {A A' : AState} {w : World} (h : Sat K A w) {m kv x : AV} {u uk ux : Value} (hm : K.V m u) (hk : K.V kv uk) (hx : K.V x ux) {t : TypeId} (hl : mapUpdateA P A t m kv x = some A') :
    ∃ w', (Instr.mapUpdate t u uk ux).run P w = .ok () w' ∧ Sat K A' w' := by
  unfold mapUpdateA at hl
  split at hl
  case h_2 => cases hl
  rename_i g kv x k e hty
  have ht := tyMap_some hty
  split at hl
  case h_2 => cases hl
  rename_i es d hes hd
  split at hl
  case isFalse => cases hl
  rename_i hkd
  cases hk; cases hx
  cases hm with
  | mapr he hrow hmap =>
    rename_i ent
    obtain ⟨e', hr⟩ := h.rows g es hes
    have : e' = ent := by have := hr.om; rw [he] at this; injection this with this; exact this.symm
    subst this
    obtain ⟨ents, clock, hh, hsz, hent, hst⟩ := hr.ents hmap
    have hgo := Go.MapKept.run_getObj_map (P := P) hh
    have hck := run_checkKey (P := P) hd hkd
    have hlt := lt_of_heap hh
    have fin : ∀ (ents' : Array MapEntry) (clock' : Nat) (es' : List (List AV)), ents'.size = es'.length → (∀ (i : Nat) (el : List AV) (x : MapEntry), es'[i]? = some el → ents'[i]? = some x → el = [.val x.key, .val x.val]) → Go.MapKept.Stamped ents' clock' →
        Sat K { A with rows := (g, es') :: killL A.rows g } { w with heap := w.heap.setIfInBounds e'.blk (.map ents' clock') } := by
      intro ents' clock' es' h1 h2 h3
      refine Sat.storeRowG h hes hr es' (fun b' hne => ?_) (by simp) ?_
      · simp only [Array.getElem?_setIfInBounds_ne (fun hq => hne hq.symm)]
      · unfold RowMem
        rw [if_pos hmap]
        exact ⟨ents', clock', by simp [hlt], h1, h2, h3⟩
    split at hl
    · rename_i i v' hf
      injection hl with hl
      subst hl
      have hfk := run_findKey (P := P) hd (findA_ok hkd (ents := ents.toList) (by simpa using hsz) (by simpa using hent) hf) w
      obtain ⟨_, y, hy, hsb⟩ := sameBits_of hkd (ents := ents.toList) hf (by simpa using hsz) (by simpa using hent)
      simp only [Nat.sub_zero] at hy
      have hy' : ents[i]? = some y := by simpa using hy
      refine ⟨_, ?_, fin (ents.modify i fun e => { e with key := uk, val := ux }) clock (es.set i [.val uk, .val ux]) (by simp [hsz]) ?_ ?_⟩
      · have hso := Go.MapKept.run_setObj_map (P := P) (w := w) (.map (ents.modify i fun e => { e with key := uk, val := ux }) clock) hh
        simp [Instr.mapUpdate, run_underlying ht, hgo, hck, hfk, hy', Instr.keyThatStays, hsb, hso]
      · intro j el z hel hz
        rw [Array.getElem?_modify] at hz
        rcases set_get _ _ _ _ _ hel with ⟨rfl, rfl, _⟩ | ⟨hne, hel'⟩
        · simp only [if_true, hy', Option.map_some, Option.some.injEq] at hz
          subst hz; rfl
        · rw [if_neg (fun hq => hne hq.symm)] at hz
          exact hent j el z hel' hz
      · refine Go.MapKept.stamped_modify hst i _ (fun _ _ => rfl) (fun e _ he => ?_)
        rw [hy'] at he
        injection he with he
        subst he
        exact (findA_some hkd (ents := ents.toList) hf (by simpa using hsz) (by simpa using hent) y (by simpa using hy)).2.symm
    · rename_i hf
      injection hl with hl
      subst hl
      have hfk := run_findKey (P := P) hd (findA_ok hkd (ents := ents.toList) (by simpa using hsz) (by simpa using hent) hf) w
      refine ⟨_, ?_, fin (ents.push ⟨uk, ux, clock⟩) (clock + 1) (es ++ [[.val uk, .val ux]]) (by simp [hsz]) ?_ ?_⟩
      · have hso := Go.MapKept.run_setObj_map (P := P) (w := w) (.map (ents.push ⟨uk, ux, clock⟩) (clock + 1)) hh
        simp [Instr.mapUpdate, run_underlying ht, hgo, hck, hfk, hso]
      · intro j el z hel hz
        by_cases hj : j < es.length
        · rw [List.getElem?_append_left hj] at hel
          rw [Array.getElem?_push, if_neg (by omega)] at hz
          exact hent j el z hel hz
        · rw [List.getElem?_append_right (by omega)] at hel
          have hj0 : j - es.length = 0 := by
            rcases Nat.eq_zero_or_pos (j - es.length) with h0 | h0
            · exact h0
            · rw [List.getElem?_eq_none (by simp; omega)] at hel; cases hel
          have hje : j = ents.size := by omega
          rw [hj0] at hel
          simp at hel
          rw [Array.getElem?_push, if_pos hje] at hz
          injection hz with hz
          subst hz; subst hel; rfl
      · exact Go.MapKept.stamped_push hst (findA_none hkd (ents := ents.toList) hf (by simpa using hsz) (by simpa using hent))
    · cases hl

end
end Go.Ab
