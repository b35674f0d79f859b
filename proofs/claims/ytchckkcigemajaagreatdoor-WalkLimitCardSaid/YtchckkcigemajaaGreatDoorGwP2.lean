/- slices.Sort of nothing, by a run; of strings, off the shelf. -/
import Derived.Test.YtchckkcigemajaaGreatDoorGwP1
import Derived.Test.YtchckkcigemajaaGreatDoorGwSh
import Derived.Test.YtchckkcigemajaaGreatDoorGwF2
import Derived.Test.YtchckkcigemajaaGreatDoorGxH1
namespace Go.Ab
theorem calls_top_unit {P : Program} {k : FuncId} {args : List AV} {vals : Array Value} (hb : hasBody P k = true) (h : CallsA P k args ⟨[], [], []⟩ (fun r _ => r = .ret (.tuple []))) (w : World) (hv : VArgs (Kw.start w) args vals) :
    Calls P k vals w fun e w' => e = .returned (.tuple #[]) ∧ Stays w w' := by
  rcases h with h | h
  · refine (h.2 (Kw.start w) w vals (Sat.start w) hv).mono fun e w' he => ?_
    cases e with
    | returned v =>
      obtain ⟨K', A', v', h1, h2, h3, h4⟩ := he
      injection h4 with h4
      subst h4
      cases h3 with
      | tuple us hl hV =>
        obtain rfl : us = [] := List.eq_nil_of_length_eq_zero hl
        exact ⟨rfl, h2.stays h1⟩
    | panicked chain =>
      obtain ⟨K', A', v', u', h1, h2, h3, h4, h5⟩ := he
      cases h5
    | outgrown => exact he.elim
  · obtain ⟨u', w', h1, _⟩ := h (Kw.start w) w vals (Sat.start w) hv
    rw [run_callFunc_body hb] at h1
    cases h1
end Go.Ab
namespace Go.Proofs.YtchckkcigemajaaGreatDoor
open Go.Ab
set_option maxRecDepth 100000
def isUnit : COut → Option Obs
  | some (.ret (.tuple []), _, o) => some o
  | _ => none
theorem isUnit_some {x : COut} {o : Obs} (h : isUnit x = some o) : ∃ A', x = some (.ret (.tuple []), A', o) := by
  unfold isUnit at h
  split at h
  · injection h with h; subst h; exact ⟨_, rfl⟩
  · cases h
theorem sort_nil_run : isUnit (runCall Tryz.prog (tblOf tree) noHook noHint 100000 1000 0 0 82 [.slice [] .nil] A0) = some [] := by kernel_rfl
theorem sortNil : SortNil := by
  intro w
  obtain ⟨A', hr⟩ := isUnit_some sort_nil_run
  obtain ⟨h1, _⟩ := runCall_ok mixed tbl_ok noHook_ok _ _ _ _ _ _ _ _ _ hr (Nat.zero_le _) (Nat.zero_le _) (fun p hp => by cases hp)
  have hb : hasBody Tryz.prog 82 = true := by kernel_rfl
  refine (calls_top_unit (vals := #[.slice none 0 0]) hb (h1.mono (by rintro r A1 ⟨rfl, _⟩; rfl)) w ⟨rfl, fun j a u ha hu => ?_⟩).mono fun e w' ⟨he, hs⟩ => ⟨he, hs.os, hs.out, hs.size, hs.block⟩
  cases j with
  | zero =>
    simp at ha hu
    subst ha; subst hu
    exact .empty ⟨rfl, rfl⟩
  | succ j => simp at ha
theorem sortStrs : SortStrs := fun blk off cap ss w hH hb hl => Tryz.slices_Sort_string blk off cap ss w hH hb hl
end Go.Proofs.YtchckkcigemajaaGreatDoor
