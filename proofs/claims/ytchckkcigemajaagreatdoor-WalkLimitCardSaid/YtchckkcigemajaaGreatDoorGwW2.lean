/- WalkLimit holds for every n and every data: all names of one file are told, the first as it is, all others as links to it; condition: the package-level variables that the row lists read as it lists them (the card ties them to the program's text). The code is run by the kernel on abstract values (texts GxA to GxF: an executable semantics of the operations, proved sound), at each n % 9, once with empty data and once with data of a first byte and a rest that stay variables; a map's keys, ranged over in any order and sorted, by a walk and the shelf's contract of slices.Sort. -/
import Derived.Laws.BitsLemmas
import Derived.Test.YtchckkcigemajaaGreatDoorGwW1
import Derived.Test.YtchckkcigemajaaGreatDoorGwR0
import Derived.Test.YtchckkcigemajaaGreatDoorGwR1
import Derived.Test.YtchckkcigemajaaGreatDoorGwR2
import Derived.Test.YtchckkcigemajaaGreatDoorGwR3
import Derived.Test.YtchckkcigemajaaGreatDoorGwR4
import Derived.Test.YtchckkcigemajaaGreatDoorGwR5
import Derived.Test.YtchckkcigemajaaGreatDoorGwR6
import Derived.Test.YtchckkcigemajaaGreatDoorGwR7
import Derived.Test.YtchckkcigemajaaGreatDoorGwR8
namespace Go.Proofs.YtchckkcigemajaaGreatDoor
open Go.Ab

theorem bodied : hasBody Tryz.prog 3 = true := by kernel_rfl

theorem of_run {hint : FuncId → List (Nat × AV)} {n : Int} {s : ByteArray} {o : Obs} (h : outB (runW hint n s) = some (true, o)) (ho : ObsOk o) (w : World) :
    Calls Tryz.prog 3 #[.int .u8 n, .string s] w fun e w' => e = .returned (.bool true) ∧ Stays w w' := by
  obtain ⟨A', hr⟩ := outB_some h
  exact calls_of_run (vs := [.int .u8 n, .string s]) mixed tbl_ok hooks_ok bodied hr ho w

theorem wrap_u8 {n : Int} (h0 : 0 ≤ n) (h1 : n ≤ 255) : IntKind.i64.wrap n = n := by
  rw [IntKind.wrap_i64]; omega

theorem obsL_ok {s : ByteArray} (h : 50 < s.size) : ObsOk (obsL s) := by
  intro p hp
  simp only [obsL, List.mem_cons, List.mem_nil_iff, or_false] at hp
  subst hp
  have : decide ((s.size : Int) > 50) = true := decide_eq_true (by omega)
  simp only [this]
  rfl

theorem rem_ok {j n : Int} (h0 : 0 ≤ n) (h1 : n ≤ 255) (hj : n % 9 = j) : (IntKind.i64.wrap n).tmod 9 = j := by
  rw [wrap_u8 h0 h1, Int.tmod_eq_emod_of_nonneg h0, hj]

theorem obsE_ok {j n : Int} (h0 : 0 ≤ n) (h1 : n ≤ 255) (hj : n % 9 = j) : ObsOk (obsE j n) := by
  intro p hp
  simp only [obsE, List.mem_cons, List.mem_nil_iff, or_false] at hp
  subst hp
  simp only [rem_ok h0 h1 hj]

theorem eqB_self (l : List UInt8) : eqB l l = true := by rw [eqB_eq]; simp

theorem obsK_ok {j n : Int} {b : UInt8} {bs : List UInt8} (h0 : 0 ≤ n) (h1 : n ≤ 255) (hj : n % 9 = j) (hl : (⟨⟨b :: bs⟩⟩ : ByteArray).size ≤ 50) : ObsOk (obsK j n b bs) := by
  intro p hp
  simp only [obsK, List.mem_cons, List.mem_nil_iff, or_false] at hp
  rcases hp with rfl | rfl | rfl | rfl | rfl | rfl
  · have : decide (((⟨⟨b :: bs⟩⟩ : ByteArray).size : Int) > 50) = false := decide_eq_false (by omega)
    simp only [this]; rfl
  · have : decide (((⟨⟨b :: bs⟩⟩ : ByteArray).size : Int) > 65536) = false := decide_eq_false (by omega)
    simp only [this]; rfl
  · have : decide (((⟨⟨b :: bs⟩⟩ : ByteArray).size : Int) > if (100 : Int) > 0 then 100 else 0) = false := decide_eq_false (by rw [if_pos (by decide)]; omega)
    simp only [this]; rfl
  · simp only [rem_ok h0 h1 hj]
  · have : decide (((⟨⟨b :: bs⟩⟩ : ByteArray).size : Int) ≤ 65536) = true := decide_eq_true (by omega)
    simp only [this]; rfl
  · simp only [eqB_self]; rfl

theorem contract : Contract := by
  intro n s w h0 h1
  by_cases hs : 50 < s.size
  · exact of_run (run_L n s) (obsL_ok hs) w
  · have h9 : n % 9 = 0 ∨ n % 9 = 1 ∨ n % 9 = 2 ∨ n % 9 = 3 ∨ n % 9 = 4 ∨ n % 9 = 5 ∨ n % 9 = 6 ∨ n % 9 = 7 ∨ n % 9 = 8 := by omega
    match s, hs with
    | ⟨⟨[]⟩⟩, _ =>
      rcases h9 with h | h | h | h | h | h | h | h | h
      · exact of_run (run_E0 n) (obsE_ok h0 h1 h) w
      · exact of_run (run_E1 n) (obsE_ok h0 h1 h) w
      · exact of_run (run_E2 n) (obsE_ok h0 h1 h) w
      · exact of_run (run_E3 n) (obsE_ok h0 h1 h) w
      · exact of_run (run_E4 n) (obsE_ok h0 h1 h) w
      · exact of_run (run_E5 n) (obsE_ok h0 h1 h) w
      · exact of_run (run_E6 n) (obsE_ok h0 h1 h) w
      · exact of_run (run_E7 n) (obsE_ok h0 h1 h) w
      · exact of_run (run_E8 n) (obsE_ok h0 h1 h) w
    | ⟨⟨b :: bs⟩⟩, hs =>
      have hl : (⟨⟨b :: bs⟩⟩ : ByteArray).size ≤ 50 := by omega
      rcases h9 with h | h | h | h | h | h | h | h | h
      · exact of_run (run_K0 n b bs) (obsK_ok h0 h1 h hl) w
      · exact of_run (run_K1 n b bs) (obsK_ok h0 h1 h hl) w
      · exact of_run (run_K2 n b bs) (obsK_ok h0 h1 h hl) w
      · exact of_run (run_K3 n b bs) (obsK_ok h0 h1 h hl) w
      · exact of_run (run_K4 n b bs) (obsK_ok h0 h1 h hl) w
      · exact of_run (run_K5 n b bs) (obsK_ok h0 h1 h hl) w
      · exact of_run (run_K6 n b bs) (obsK_ok h0 h1 h hl) w
      · exact of_run (run_K7 n b bs) (obsK_ok h0 h1 h hl) w
      · exact of_run (run_K8 n b bs) (obsK_ok h0 h1 h hl) w

theorem walkLimit_card : Rows.WalkLimitCardSaid := card_holds contract
end Go.Proofs.YtchckkcigemajaaGreatDoor
