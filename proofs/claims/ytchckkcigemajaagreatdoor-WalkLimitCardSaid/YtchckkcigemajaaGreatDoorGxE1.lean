/- Running a function on abstract values, by computation. -/
import Derived.Test.YtchckkcigemajaaGreatDoorGxC2
namespace Go.Ab
set_option linter.unusedVariables false
set_option linter.unusedSimpArgs false

def isLoudOp : Op → Bool
  | .alloc _ | .box _ _ | .store .. | .mapUpdate .. | .makeMap .. | .makeSlice .. | .defer _ | .panic _ => true
  | .call { callee := .builtin .append, .. } => true
  | .call { callee := .builtin .panic, .. } => true
  | _ => false

def loudIdx : Nat → List Oper → List Nat
  | _, [] => []
  | i, o :: r => if isLoudOp o.op then i :: loudIdx (i + 1) r else loudIdx (i + 1) r

/-- may an operation be done where boxes below ro and rows below rl are not to be touched? -/
def roOk (ro rl : Nat) (env : Env) : Op → Bool
  | .store _ p _ => match ev env p with | .ptr i _ => Nat.ble ro i | .rptr g _ _ => Nat.ble rl g | _ => false
  | .mapUpdate _ m _ _ => match ev env m with | .mapr g => Nat.ble rl g | _ => false
  | .call { callee := .builtin .append, args, .. } => match args.toList.map (ev env) with
    | .slice _ (.own g) :: _ => Nat.ble rl g
    | .row g _ _ :: _ => Nat.ble rl g
    | _ => true
  | _ => true

section
variable {P : Program}

theorem take_append_keep {α : Type} {l r : List α} {n : Nat} (h : n ≤ l.length) : (l ++ r).take n = l.take n := List.take_append_of_le_length h

theorem take_set_keep {α : Type} {l : List α} {n i : Nat} {x : α} (h : n ≤ i) : (l.set i x).take n = l.take n := by
  apply List.ext_getElem?
  intro j
  by_cases hj : j < n
  · rw [List.getElem?_take_of_lt hj, List.getElem?_take_of_lt hj, List.getElem?_set_ne (by omega)]
  · rw [List.getElem?_eq_none (by simp; omega), List.getElem?_eq_none (by simp; omega)]

theorem keep_rows {ro rl : Nat} {A : AState} {n : Nat} {es : List (List AV)} {rows : List (Nat × List (List AV))} (h1 : ro ≤ A.boxes.length) (h2 : rl ≤ A.lens.length) (hr : ∀ g, g < rl → rowL rows g = rowL A.rows g) :
    Keep ro rl A { A with lens := A.lens ++ [n], rows := (A.lens.length, es) :: rows } :=
  ⟨rfl, take_append_keep h2, fun g hg => by simp only [rowL]; rw [if_neg (by omega)]; exact hr g hg, h1, by simp; omega⟩

theorem keep_kill {ro rl : Nat} {A : AState} {g : Nat} {es : List (List AV)} (h1 : ro ≤ A.boxes.length) (h2 : rl ≤ A.lens.length) (hg : rl ≤ g) : Keep ro rl A { A with rows := (g, es) :: killL A.rows g } :=
  ⟨rfl, rfl, fun g' hg' => by simp only [rowL]; rw [if_neg (by omega), rowL_kill, if_neg (by omega)], h1, h2⟩

theorem appendA0_keep {ro rl : Nat} {A A' : AState} {t : TypeId} {s x v : AV} (h1 : ro ≤ A.boxes.length) (h2 : rl ≤ A.lens.length) (hs : match s with | .slice _ (.own g) => rl ≤ g | .row g _ _ => rl ≤ g | _ => True) (ha : appendA0 P A t s x = some (v, A')) : Keep ro rl A A' := by
  unfold appendA0 at ha
  split at ha
  · rename_i es tag xs i _ _
    split at ha
    · cases tag with
      | any => simp at ha
      | nil => simp at ha
      | full => simp only [Option.some.injEq, Prod.mk.injEq] at ha; obtain ⟨_, rfl⟩ := ha; exact ⟨rfl, take_append_keep h2, fun _ _ => rfl, h1, by simp; omega⟩
      | own g =>
        simp only at ha hs
        split at ha
        · simp only [Option.some.injEq, Prod.mk.injEq] at ha; obtain ⟨_, rfl⟩ := ha; exact ⟨rfl, take_set_keep hs, fun _ _ => rfl, h1, by simpa using h2⟩
        · cases ha
      | fresh =>
        simp only at ha
        split at ha
        · split at ha
          · simp only [Option.some.injEq, Prod.mk.injEq] at ha; obtain ⟨_, rfl⟩ := ha; exact .refl h1 h2
          · simp only [Option.some.injEq, Prod.mk.injEq] at ha; obtain ⟨_, rfl⟩ := ha; exact keep_rows h1 h2 fun _ _ => rfl
        · cases ha
    · cases ha
  · rename_i g off n xs i _ _
    split at ha
    · split at ha
      · split at ha
        · simp only [Option.some.injEq, Prod.mk.injEq] at ha; obtain ⟨_, rfl⟩ := ha; exact .refl h1 h2
        · simp only [Option.some.injEq, Prod.mk.injEq] at ha
          obtain ⟨_, rfl⟩ := ha
          exact keep_rows h1 h2 fun g' hg' => by simp only at hs; rw [rowL_kill, if_neg (by omega)]
      · cases ha
    · cases ha
  · cases ha

def ORes.state : ORes → Option AState
  | .next _ A => some A
  | .skip A => some A
  | _ => none

theorem appendA_keep {ro rl : Nat} {A A' : AState} {t : TypeId} {s x v : AV} (h1 : ro ≤ A.boxes.length) (h2 : rl ≤ A.lens.length) (hs : match s with | .slice _ (.own g) => rl ≤ g | .row g _ _ => rl ≤ g | _ => True) (ha : appendA P A t s x = some (v, A')) : Keep ro rl A A' := by
  unfold appendA at ha
  split at ha
  · split at ha
    · simp only [Option.some.injEq, Prod.mk.injEq] at ha; obtain ⟨_, rfl⟩ := ha; exact .refl h1 h2
    · exact appendA0_keep h1 h2 trivial ha
  · exact appendA0_keep h1 h2 hs ha

theorem ofV_state {A A' : AState} {x : Option AV} (h : (ORes.ofV A x).state = some A') : A' = A := by
  cases x <;> simp [ORes.ofV, ORes.state] at h; exact h.symm

theorem aOp_keep {ro rl : Nat} {env : Env} {A A' : AState} {op : Op} {ty : TypeId} (h1 : ro ≤ A.boxes.length) (h2 : rl ≤ A.lens.length) (hro : roOk ro rl env op = true) (h : (aOp P env A op ty).state = some A') : Keep ro rl A A' ∧ (isLoudOp op = false → A' = A) := by
  have same : A' = A → Keep ro rl A A' ∧ (isLoudOp op = false → A' = A) := fun hq => by subst hq; exact ⟨.refl h1 h2, fun _ => rfl⟩
  have loud : ∀ {X : Prop}, isLoudOp op = true → Keep ro rl A A' → Keep ro rl A A' ∧ (isLoudOp op = false → X) := fun hl hk => ⟨hk, fun hq => by rw [hl] at hq; cases hq⟩
  unfold aOp at h
  split at h
  · exact same (by simpa [ORes.state] using h.symm)
  · exact same (by simpa [ORes.state] using h.symm)
  · split at h
    · exact same (by simpa [ORes.state] using h.symm)
    · cases h
  · split at h
    · simp only [ORes.state, Option.some.injEq] at h; subst h; exact loud rfl ⟨take_append_keep h1, rfl, fun _ _ => rfl, by simp; omega, h2⟩
    · cases h
  · split at h
    · simp only [ORes.state, Option.some.injEq] at h; subst h; exact loud rfl ⟨take_append_keep h1, rfl, fun _ _ => rfl, by simp; omega, h2⟩
    · cases h
  · split at h
    · exact same (ofV_state h)
    · cases h
  · exact same (ofV_state h)
  · exact same (ofV_state h)
  · rename_i t a x
    split at h
    · rename_i A2 hst
      simp only [ORes.state, Option.some.injEq] at h
      subst h
      refine loud rfl ?_
      simp only [roOk] at hro
      unfold storeA at hst
      split at hst
      · rename_i i off news n hp _ _
        rw [hp] at hro
        have hi : ro ≤ i := Nat.le_of_ble_eq_true hro
        split at hst
        · split at hst
          · simp only [Option.some.injEq] at hst; subst hst; exact ⟨take_set_keep hi, rfl, fun _ _ => rfl, by simpa using h1, h2⟩
          · cases hst
        · cases hst
      · rename_i g k f news n hp _ _
        rw [hp] at hro
        have hi : rl ≤ g := Nat.le_of_ble_eq_true hro
        split at hst
        · split at hst
          · split at hst
            · simp only [Option.some.injEq] at hst; subst hst; exact keep_kill h1 h2 hi
            · cases hst
          · cases hst
        · cases hst
      · cases hst
    · cases h
  · split at h <;> first | exact same (by simpa [ORes.state] using h.symm) | cases h
  · exact same (ofV_state h)
  · exact same (ofV_state h)
  · exact same (ofV_state h)
  · split at h
    · split at h
      · cases h
      · exact same (by simpa [ORes.state] using h.symm)
    · cases h
  · split at h
    · exact same (by simpa [ORes.state] using h.symm)
    · cases h
  · split at h
    · rename_i l c _ _
      refine loud rfl ?_
      generalize hm : makeSliceA P A _ l c = r at h
      cases r with
      | none => simp [ORes.ofVA, ORes.state] at h
      | some p =>
        obtain ⟨v, A2⟩ := p
        simp only [ORes.ofVA, ORes.state, Option.some.injEq] at h
        subst h
        unfold makeSliceA at hm
        split at hm
        · split at hm
          · split at hm
            · split at hm
              · simp only [Option.some.injEq, Prod.mk.injEq] at hm; obtain ⟨_, rfl⟩ := hm; exact ⟨take_append_keep h1, rfl, fun _ _ => rfl, by simp; omega, h2⟩
              · cases hm
            · cases hm
          · cases hm
        · cases hm
    · cases h
  · split at h
    · exact same (ofV_state h)
    · cases h
  · exact same (ofV_state h)
  · exact same (ofV_state h)
  · exact same (ofV_state h)
  · split at h
    · exact same (ofV_state h)
    · cases h
  · split at h
    · exact same (ofV_state h)
    · cases h
  · exact same (ofV_state h)
  · simp only [ORes.state, Option.some.injEq] at h; subst h; exact loud rfl (keep_rows h1 h2 fun _ _ => rfl)
  · exact same (ofV_state h)
  · rename_i t m k x
    split at h
    · rename_i A2 hst
      simp only [ORes.state, Option.some.injEq] at h
      subst h
      refine loud rfl ?_
      simp only [roOk] at hro
      unfold mapUpdateA at hst
      split at hst
      · rename_i g kv x k' e hp _ _ _
        rw [hp] at hro
        have hi : rl ≤ g := Nat.le_of_ble_eq_true hro
        split at hst
        · split at hst
          · split at hst
            · simp only [Option.some.injEq] at hst; subst hst; exact keep_kill h1 h2 hi
            · simp only [Option.some.injEq] at hst; subst hst; exact keep_kill h1 h2 hi
            · cases hst
          · cases hst
        · cases hst
      · cases hst
    · cases h
  · split at h
    · exact same (ofV_state h)
    · cases h
  · split at h <;> cases h
  · rename_i b args argTypes
    unfold builtinA at h
    split at h
    · exact same (ofV_state h)
    · rename_i _ _ _ t t' s x hat hargs
      split at h
      · refine loud rfl ?_
        simp only [roOk, hargs] at hro
        generalize hm : appendA P A t s x = r at h
        cases r with
        | none => simp [ORes.ofVA, ORes.state] at h
        | some p =>
          obtain ⟨v, A2⟩ := p
          simp only [ORes.ofVA, ORes.state, Option.some.injEq] at h
          subst h
          refine appendA_keep h1 h2 ?_ hm
          cases s with
          | slice es tag => cases tag with
            | own g => exact Nat.le_of_ble_eq_true hro
            | _ => trivial
          | row g off n => exact Nat.le_of_ble_eq_true hro
          | _ => trivial
      · cases h
    · exact same (ofV_state h)
    · exact same (ofV_state h)
    · injection h with h; exact same h.symm
    · split at h
      · injection h with h; exact same h.symm
      · cases h
    · cases h
    · cases h
  · split at h <;> cases h
  · split at h
    · split at h <;> cases h
    · cases h
  · cases h

end
end Go.Ab
