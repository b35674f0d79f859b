/- A tree of the program's functions. -/
import Derived.Test.YtchckkcigemajaaGreatDoorGxE3
namespace Go.Ab

inductive FT where
  | leaf (f : Func)
  | node (n : Nat) (l r : FT)

def FT.toList : FT → List Func
  | .leaf f => [f]
  | .node _ l r => l.toList ++ r.toList
def FT.size : FT → Nat
  | .leaf _ => 1
  | .node _ l r => l.size + r.size
def FT.wf : FT → Bool
  | .leaf _ => true
  | .node n l r => l.size == n && l.wf && r.wf
def FT.get : FT → Nat → Option Func
  | .leaf f, i => match i with | 0 => some f | _ => none
  | .node n l r, i => match Nat.blt i n with | true => l.get i | false => r.get (i - n)

theorem FT.len : ∀ t : FT, t.toList.length = t.size
  | .leaf _ => rfl
  | .node n l r => by simp [FT.toList, FT.size, FT.len l, FT.len r]

theorem FT.get_ok : ∀ (t : FT) (i : Nat) (f : Func), t.wf = true → t.get i = some f → t.toList[i]? = some f
  | .leaf f0, i, f, _, h => by
    cases i with
    | zero => simpa [FT.get, FT.toList] using h
    | succ i => simp [FT.get] at h
  | .node n l r, i, f, hw, h => by
    simp only [FT.wf, Bool.and_eq_true, beq_iff_eq] at hw
    obtain ⟨⟨hn, hl⟩, hr⟩ := hw
    simp only [FT.get] at h
    simp only [FT.toList]
    split at h
    · rename_i hb
      have hb' : i < n := by simpa [Nat.blt_eq] using hb
      rw [List.getElem?_append_left (by rw [FT.len]; omega)]
      exact FT.get_ok l i f hl h
    · rename_i hb
      have hb' : ¬ i < n := by
        intro hlt
        have : Nat.blt i n = true := by simpa [Nat.blt_eq] using hlt
        rw [this] at hb; cases hb
      rw [List.getElem?_append_right (by rw [FT.len]; omega), FT.len, hn]
      exact FT.get_ok r (i - n) f hr h

def tblOf (t : FT) (k : FuncId) : Option Func :=
  match t.get k with
  | some fn => match fn.body with | some _ => some fn | none => none
  | none => none

theorem tblOk_of {P : Program} {t : FT} (hw : t.wf = true) (hl : t.toList = P.funcs.toList) (hn : (P.funcs.toList.all fun f => !(f.name == "runtime.NumGoroutine")) = true) : TblOk P (tblOf t) := by
  intro k fn h
  unfold tblOf at h
  split at h
  · rename_i fn' hg
    split at h
    · rename_i c hb
      injection h with h
      subst h
      have h1 := FT.get_ok t k _ hw hg
      rw [hl] at h1
      have h2 : P.funcs[k]? = some fn' := by simpa using h1
      refine ⟨h2, ?_⟩
      unfold hasBody
      rw [h2]
      have := List.all_eq_true.1 hn fn' (List.mem_of_getElem? h1)
      simp only [hb, Option.isSome_some, Bool.true_and]
      exact this
    · cases h
  · cases h
end Go.Ab
