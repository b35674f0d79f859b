/- The hooks of this program, and the example that all statements end with. -/
import Derived.Test.YtchckkcigemajaaGreatDoorGwP3
import Derived.Test.YtchckkcigemajaaGreatDoorGxN1
namespace Go.Proofs.YtchckkcigemajaaGreatDoor
open Go.Ab
set_option maxRecDepth 100000

theorem fits194 : HookFits Tryz.prog 194 hIndexByte := hIndexByte_fits Tryz.func194 (by kernel_rfl) (by kernel_rfl) (by kernel_rfl) (by kernel_rfl)
theorem fits162 : HookFits Tryz.prog 162 hCountByte := hCountByte_fits Tryz.func162 (by kernel_rfl) (by kernel_rfl) (by kernel_rfl) (by kernel_rfl)

def hooks0 (k : FuncId) : Option Hook := match Nat.beq k 194 with
  | true => some hIndexByte
  | false => match Nat.beq k 162 with
    | true => some hCountByte
    | false => match Nat.beq k 59 with
      | true => some (hPaths 4)
      | false => none

theorem hooks0_fits : ∀ k h, hooks0 k = some h → HookFits Tryz.prog k h := by
  intro k h hk
  unfold hooks0 at hk
  split at hk
  · rename_i hb
    obtain rfl := Nat.eq_of_beq_eq_true hb
    injection hk with hk; subst hk; exact fits194
  · split at hk
    · rename_i hb
      obtain rfl := Nat.eq_of_beq_eq_true hb
      injection hk with hk; subst hk; exact fits162
    · split at hk
      · rename_i hb
        obtain rfl := Nat.eq_of_beq_eq_true hb
        injection hk with hk; subst hk; exact hPaths_fits
      · cases hk

theorem awake_run : outB (runCall Tryz.prog (tblOf tree) hooks0 noHint 100000 1000 0 0 4 [] A0) = some (true, []) := by kernel_rfl
theorem outB_some {x : COut} {b : Bool} {o : Obs} (h : outB x = some (b, o)) : ∃ A', x = some (.ret (.val (.bool b)), A', o) := by
  unfold outB at h
  split at h
  · simp only [Option.some.injEq, Prod.mk.injEq] at h
    obtain ⟨rfl, rfl⟩ := h
    exact ⟨_, rfl⟩
  · cases h

theorem awake_calls (w : World) : Calls Tryz.prog 4 #[] w fun e w' => e = .returned (.bool true) ∧ Stays w w' := by
  obtain ⟨A', hr⟩ := outB_some awake_run
  exact calls_of_run (vs := []) mixed tbl_ok (hookOk_of hooks0_fits) (by kernel_rfl) hr (fun p hp => by cases hp) w

def hAwake : Hook := fun _ _ args A => match args with
  | [] => some (.val (.bool true), A)
  | _ => none
theorem hAwake_fits : HookFits Tryz.prog 4 hAwake := by
  intro ro rl args A v A' h h1 h2
  unfold hAwake at h
  split at h
  · simp only [Option.some.injEq, Prod.mk.injEq] at h
    obtain ⟨rfl, rfl⟩ := h
    refine ⟨.inl ⟨by kernel_rfl, fun K w vals hs hv => ?_⟩, .refl h1 h2⟩
    obtain rfl : vals = #[] := Array.eq_empty_of_size_eq_zero hv.1
    refine (awake_calls w).mono ?_
    rintro e w' ⟨rfl, hst⟩
    exact ⟨K, A, _, .refl K, hs.grow hst.block hst.size ⟨hst.os, hst.out⟩, .val _, rfl, rfl⟩
  · cases h

def hooks (k : FuncId) : Option Hook := match Nat.beq k 4 with
  | true => some hAwake
  | false => hooks0 k
theorem hooks_fits : ∀ k h, hooks k = some h → HookFits Tryz.prog k h := by
  intro k h hk
  unfold hooks at hk
  split at hk
  · rename_i hb
    obtain rfl := Nat.eq_of_beq_eq_true hb
    injection hk with hk; subst hk; exact hAwake_fits
  · exact hooks0_fits k h hk
theorem hooks_ok : HookOk Tryz.prog hooks := hookOk_of hooks_fits

def bF : AV := .val (.bool false)
def bT : AV := .val (.bool true)
/-- what is told: the bytes' number, n % 9, and what hangs on the data -/
def hintK (j : Int) (k : FuncId) : List (Nat × AV) := match Nat.beq k 3 with
  | true => [(15, bF), (25, .val (.int .i64 j)), (81, bF)]
  | false => match Nat.beq k 27 with
    | true => [(28, bT)]
    | false => match Nat.beq k 12 with
      | true => [(14, bF)]
      | false => match Nat.beq k 5 with
        | true => [(166, bF)]
        | false => []
def hintE (j : Int) (k : FuncId) : List (Nat × AV) := match Nat.beq k 3 with
  | true => [(25, .val (.int .i64 j))]
  | false => []
def hintL (k : FuncId) : List (Nat × AV) := match Nat.beq k 3 with
  | true => [(15, bT)]
  | false => []
noncomputable def runW (hint : FuncId → List (Nat × AV)) (n : Int) (s : ByteArray) : COut := runCall Tryz.prog (tblOf tree) hooks hint 100000 1000 0 0 3 [.val (.int .u8 n), .val (.string s)] A0

/-- what is owed where the data is not empty -/
def obsK (j n : Int) (b : UInt8) (bs : List UInt8) : Obs :=
  [(.val (.bool (decide (((⟨⟨b :: bs⟩⟩ : ByteArray).size : Int) > 50))), bF),
   (.val (.bool (decide (((⟨⟨b :: bs⟩⟩ : ByteArray).size : Int) > 65536))), bF),
   (.val (.bool (decide (((⟨⟨b :: bs⟩⟩ : ByteArray).size : Int) > if (100 : Int) > 0 then 100 else 0))), bF),
   (.val (.int .i64 ((IntKind.i64.wrap n).tmod 9)), .val (.int .i64 j)),
   (.val (.bool (decide (((⟨⟨b :: bs⟩⟩ : ByteArray).size : Int) ≤ 65536))), bT),
   (.val (.bool (!eqB (⟨⟨b :: bs⟩⟩ : ByteArray).data.toList (⟨⟨b :: bs⟩⟩ : ByteArray).data.toList)), bF)]
def obsE (j n : Int) : Obs := [(.val (.int .i64 ((IntKind.i64.wrap n).tmod 9)), .val (.int .i64 j))]
def obsL (s : ByteArray) : Obs := [(.val (.bool (decide ((s.size : Int) > 50))), bT)]

theorem run_L (n : Int) (s : ByteArray) : outB (runW hintL n s) = some (true, obsL s) := by kernel_rfl
end Go.Proofs.YtchckkcigemajaaGreatDoor
