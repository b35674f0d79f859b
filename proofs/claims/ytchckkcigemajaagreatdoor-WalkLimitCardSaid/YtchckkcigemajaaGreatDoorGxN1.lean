/- Calls that the model itself answers, as hooks. -/
import Derived.Test.YtchckkcigemajaaGreatDoorGxF1
import Derived.Lib.Bytealg
namespace Go.Ab
set_option linter.unusedVariables false

def HookFits (P : Program) (k : FuncId) (h : Hook) : Prop := ∀ ro rl args A v A', h ro rl args A = some (v, A') → ro ≤ A.boxes.length → rl ≤ A.lens.length →
  CallsA P k args A (fun r0 A0 => r0 = .ret v ∧ A0 = A') ∧ Keep ro rl A A'

theorem hookOk_of {P : Program} {hook : FuncId → Option Hook} (h : ∀ k h, hook k = some h → HookFits P k h) : HookOk P hook := fun k hk he => h k hk he

/-- what the model answers by itself, as a value -/
theorem native_fits {P : Program} {k : FuncId} {fn : Func} {e : Array Value → Sem Value} (hf : P.funcs[k]? = some fn) (hname : (fn.name == "runtime.NumGoroutine") = false)
    (hb : fn.body.isNone = true) (hn : Extern.findNext fn = none) (he : Extern.find fn = some e) {h : Hook}
    (hh : ∀ ro rl args A v A', h ro rl args A = some (v, A') → A' = A ∧ ∀ (K : Kw) (vals : Array Value) (w : World), VArgs K args vals → ∃ u, (e vals).run P w = .ok u w ∧ K.V v u) : HookFits P k h := by
  intro ro rl args A v A' hr h1 h2
  obtain ⟨rfl, hv⟩ := hh ro rl args A v A' hr
  refine ⟨.inr fun K w vals hs hva => ?_, .refl h1 h2⟩
  obtain ⟨u, hrun, hvu⟩ := hv K vals w hva
  refine ⟨u, w, ?_, K, A', v, .refl K, hs, hvu, rfl, rfl⟩
  rw [run_callFunc_extern hf hname hb hn he, hrun]
  rfl

theorem vargs_two {K : Kw} {a b : Value} {vals : Array Value} (h : VArgs K [.val a, .val b] vals) : vals = #[a, b] :=
  leafs_ok h (vs := [a, b]) rfl

def hIndexByte : Hook := fun _ _ args A => match args with
  | [.val (.string s), .val (.int .u8 c)] => some (.val (.int .i64 (Lib.indexByte s.data.toList c.toNat.toUInt8)), A)
  | _ => none
def hCountByte : Hook := fun _ _ args A => match args with
  | [.val (.string s), .val (.int .u8 c)] => some (.val (.int .i64 (Lib.countByte s.data.toList c.toNat.toUInt8)), A)
  | _ => none

theorem hIndexByte_fits {P : Program} {k : FuncId} {fn : Func} (hf : P.funcs[k]? = some fn) (hname : (fn.name == "runtime.NumGoroutine") = false)
    (hb : fn.body.isNone = true) (hn : Extern.findNext fn = none) (he : Extern.find fn = some Extern.BytealgIndexByte.indexByte) : HookFits P k hIndexByte := by
  refine native_fits hf hname hb hn he fun ro rl args A v A' hr => ?_
  unfold hIndexByte at hr
  split at hr
  · rename_i s c
    simp only [Option.some.injEq, Prod.mk.injEq] at hr
    obtain ⟨rfl, rfl⟩ := hr
    refine ⟨rfl, fun K vals w hv => ?_⟩
    rw [vargs_two hv]
    exact ⟨_, Lib.run_indexByteString s c w, .val _⟩
  · cases hr
theorem hCountByte_fits {P : Program} {k : FuncId} {fn : Func} (hf : P.funcs[k]? = some fn) (hname : (fn.name == "runtime.NumGoroutine") = false)
    (hb : fn.body.isNone = true) (hn : Extern.findNext fn = none) (he : Extern.find fn = some Extern.BytealgCount.count) : HookFits P k hCountByte := by
  refine native_fits hf hname hb hn he fun ro rl args A v A' hr => ?_
  unfold hCountByte at hr
  split at hr
  · rename_i s c
    simp only [Option.some.injEq, Prod.mk.injEq] at hr
    obtain ⟨rfl, rfl⟩ := hr
    refine ⟨rfl, fun K vals w hv => ?_⟩
    rw [vargs_two hv]
    exact ⟨_, Lib.run_countString s c w, .val _⟩
  · cases hr
end Go.Ab
