/- From abstract calls to calls: what is there stays. -/
import Derived.Test.YtchckkcigemajaaGreatDoorGxE3
import Derived.ProofKit
namespace Go.Ab
set_option linter.unusedVariables false

/-- all blocks as they were, the outside and the output too -/
structure Stays (w w' : World) : Prop where
  os : w'.os = w.os
  out : w'.output = w.output
  size : w.heap.size ≤ w'.heap.size
  block : ∀ i, i < w.heap.size → w'.heap[i]? = w.heap[i]?

theorem Stays.frame {w w' : World} (h : Stays w w') (may : MemPlace → Prop) : w.keptBut w' may := by
  refine ⟨h.os, h.out, fun i hi => ?_⟩
  rw [h.block i hi]
  cases ho : w.heap[i]? with
  | none => rfl
  | some o =>
    cases o with
    | cells c t fr => exact ⟨rfl, rfl, rfl, fun _ _ => rfl⟩
    | map es clock => exact .inr ⟨rfl, rfl⟩
    | _ => rfl

/-- the start -/
def Kw.start (w : World) : Kw := ⟨fun _ _ => none, [], [], ⟨fun b => (w.heap[b]?).map fun o => (o, false), w.os, w.output⟩⟩

theorem Sat.start (w : World) : Sat (Kw.start w) ⟨[], [], []⟩ w where
  cells := fun b o v h => by cases h
  nbox := rfl
  box := fun i b cs h => by simp [Kw.start] at h
  boxS := fun b h => by cases h
  boxBase := fun b h => by cases h
  nodup := List.nodup_nil
  lens := rfl
  own := fun g e h => by simp [Kw.start] at h
  ownD := fun g g' e e' h => by simp [Kw.start] at h
  rows := fun g es h => by simp [rowL] at h
  rowsD := fun g g' es es' e e' h => by simp [rowL] at h
  baseEq := fun b o h => by
    simp only [Kw.start, Option.map_eq_some_iff] at h
    obtain ⟨x, h1, rfl⟩ := h
    exact h1
  baseS := fun b o h ht i => rfl
  osEq := ⟨rfl, rfl⟩

theorem Sat.stays {w w' : World} {K' : Kw} {A' : AState} (hK : (Kw.start w).le K') (h : Sat K' A' w') : Stays w w' := by
  have hb : ∀ i, i < w.heap.size → w'.heap[i]? = w.heap[i]? := fun i hi => by
    have h1 : (Kw.start w).base i = some (w.heap[i], false) := by simp [Kw.start, hi]
    rw [hK.base] at h1
    rw [h.baseEq i _ h1, Array.getElem?_eq_getElem hi]
  refine ⟨?_, ?_, ?_, hb⟩
  · rw [h.osEq.1, ← hK.base]; rfl
  · rw [h.osEq.2, ← hK.base]; rfl
  · rcases Nat.lt_or_ge w'.heap.size w.heap.size with hlt | hge
    · have := hb w'.heap.size hlt
      rw [Array.getElem?_eq_none (Nat.le_refl _), Array.getElem?_eq_getElem hlt] at this
      cases this
    · exact hge

theorem calls_top {P : Program} {k : FuncId} {args : List AV} {vals : Array Value} {u : Value} (hb : hasBody P k = true) (h : CallsA P k args ⟨[], [], []⟩ (fun r _ => r = .ret (.val u))) (w : World) (hv : VArgs (Kw.start w) args vals) :
    Calls P k vals w fun e w' => e = .returned u ∧ Stays w w' := by
  rcases h with h | h
  · refine (h.2 (Kw.start w) w vals (Sat.start w) hv).mono fun e w' he => ?_
    cases e with
    | returned v =>
      obtain ⟨K', A', v', h1, h2, h3, h4⟩ := he
      injection h4 with h4
      subst h4
      cases h3
      exact ⟨rfl, h2.stays h1⟩
    | panicked chain =>
      obtain ⟨K', A', v', u', h1, h2, h3, h4, h5⟩ := he
      cases h5
    | outgrown => exact he.elim
  · obtain ⟨u', w', h1, _⟩ := h (Kw.start w) w vals (Sat.start w) hv
    rw [run_callFunc_body hb] at h1
    cases h1

theorem vargs_vals {K : Kw} : ∀ (vs : List Value), VArgs K (vs.map .val) vs.toArray
  | vs => ⟨by simp, fun j a u ha hu => by
    rw [List.getElem?_map] at ha
    simp only [List.getElem?_toArray] at hu
    rw [hu] at ha
    simp at ha
    subst ha
    exact .val _⟩

/-- a run that comes to a value -/
theorem calls_of_run {P : Program} (hm : P.follows .mixedOrders = true) {tbl : FuncId → Option Func} {hook : FuncId → Option Hook} {hint : FuncId → List (Nat × AV)} {F f : Nat} (ht : TblOk P tbl) (hh : HookOk P hook)
    {k : FuncId} {vs : List Value} {u : Value} {A' : AState} {o : Obs} (hb : hasBody P k = true) (hr : runCall P tbl hook hint F f 0 0 k (vs.map .val) ⟨[], [], []⟩ = some (.ret (.val u), A', o)) (ho : ObsOk o) (w : World) :
    Calls P k vs.toArray w fun e w' => e = .returned u ∧ Stays w w' := by
  obtain ⟨h1, _⟩ := runCall_ok hm ht hh f _ _ _ _ _ _ _ _ hr (Nat.zero_le _) (Nat.zero_le _) ho
  refine calls_top hb (h1.mono ?_) w (vargs_vals vs)
  rintro r A0 ⟨rfl, rfl⟩
  rfl

end Go.Ab
