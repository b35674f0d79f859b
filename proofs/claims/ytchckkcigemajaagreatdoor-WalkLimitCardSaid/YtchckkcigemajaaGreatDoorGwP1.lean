/- All paths of a tree, walked: a map's keys, in whatever order, sorted. -/
import Derived.Test.YtchckkcigemajaaGreatDoorProg
import Derived.Sort.KeysCollected
import Derived.Sort.OwnSorted
import Derived.Maps.RangeWalk
import Derived.Maps.AppendAt
import Derived.Laws.AppendOwn
import Derived.WalkKit
namespace Go.Proofs.YtchckkcigemajaaGreatDoor
open Go.RowKit Go.Maps Go.Sort

/-- all blocks ahead of n as they were, the outside and the output too -/
structure StaysN (n : Nat) (w w' : World) : Prop where
  os : w'.os = w.os
  out : w'.output = w.output
  size : w.heap.size ≤ w'.heap.size
  block : ∀ i, i < n → w'.heap[i]? = w.heap[i]?

theorem StaysN.refl (n : Nat) (w : World) : StaysN n w w := ⟨rfl, rfl, Nat.le_refl _, fun _ _ => rfl⟩
theorem StaysN.grown {n : Nat} {w w' w'' : World} {row : Option Nat} (h : StaysN n w w') (hg : w'.grownBy w'' row) (hn : n ≤ w'.heap.size) (hr : ∀ k, row = some k → n ≤ k) : StaysN n w w'' :=
  ⟨hg.os.trans h.os, hg.output.trans h.out, Nat.le_trans h.size hg.size, fun i hi => (hg.block i (by omega) (fun e => by have := hr i e.symm; omega)).trans (h.block i hi)⟩
theorem StaysN.alloc {n : Nat} {w w' : World} (h : StaysN n w w') (hn : n ≤ w'.heap.size) (o : Obj) : StaysN n w (w'.alloc o) :=
  ⟨h.os, h.out, Nat.le_trans h.size (by simp), fun i hi => by rw [← h.block i hi]; show (w'.heap.push o)[i]? = _; rw [Array.getElem?_push, if_neg (by omega)]⟩

def SortStrs : Prop := ∀ (blk off cap : Nat) (ss : List (List UInt8)) (w : World), Holds encStr w blk off ss.toArray → blk < w.heap.size → ss.length < 4611686018427387904 →
  Calls Tryz.prog 82 #[.slice (some ⟨blk, off, none⟩) ss.length cap] w fun e w' =>
    e = .returned (.tuple #[]) ∧ ∃ n os, w' = grow (putRow encStr (Sort.ahead w n) blk off (ss.mergeSort fun x y => decide (x ≤ y)).toArray) os
def SortNil : Prop := ∀ w : World, Calls Tryz.prog 82 #[.slice none 0 0] w fun e w' => e = .returned (.tuple #[]) ∧ StaysN w.heap.size w w'

theorem law9 : Keyed Tryz.prog 9 := string_keyed Tryz.underlying9
theorem info9 : (Tryz.prog.info? 9).map (fun i => (i.zero, i.size, i.bytes)) = some (some (.string ⟨#[]⟩), 1, 16) := by kernel_rfl

set_option maxRecDepth 100000 in
set_option maxHeartbeats 2000000 in
theorem paths_any {H : Type} (pb po b n : Nat) (hsort : SortStrs) (hsnil : SortNil) (D0 : DataW H) (w : World) (hcell : w.cell? ⟨pb, po + 4, none⟩ = some (.map (some b))) (hown : w.ownsMap Tryz.prog 9 (plainElem Tryz.prog 3) b n D0) (hmax : Maps.size D0 ≤ maxLen) (hbytes : 16 * Maps.size D0 ≤ 140737488355328) :
    Calls Tryz.prog 59 #[.pointer (some ⟨pb, po, none⟩)] w fun e w' => ∃ (v : Value) (ss : List (List UInt8)), e = .returned v ∧ ss.Perm (strKeys D0) ∧
      w'.ownsRow w.heap.size 9 1 v ss.length ((ss.mergeSort (fun x y => decide (x ≤ y))).map encStr) ∧ StaysN w.heap.size w w' := by
  obtain ⟨i0, hi, hz0, hz1, hz2⟩ := info_parts info9
  have hbl := hown.lt
  go_enter Tryz.func59, Tryz.ntmps59
  go_wp2_with (first
    | (at_range; refine wpList_range_own _ rfl _ 146 rfl 9 3 law9 Tryz.underlying146 _ b n _ rfl hown ?_; intro w0 hrg0 hg0 hs0)
    | go_in)
  go_frame
  go_loopw [3] (fun v wr => ∃ (left : Lit → Bool) (cnt : Nat) (ss : List (List UInt8)), wr.ranges Tryz.prog 9 (plainElem Tryz.prog 3) b w.heap.size n D0 left cnt ∧ ss.length + cnt ≤ Maps.size D0 ∧
      wr.ownsRow w.heap.size 9 1 v ss.length (ss.map encStr) ∧ Collected D0 left ss ∧ StaysN w.heap.size w wr)
    (fun _ wr => wr.rangeLeft b w.heap.size)
  case atStart =>
    exact ⟨_, _, [], hrg0, by simp, ⟨by simp, .inl ⟨rfl, rfl⟩⟩, Collected.start D0, (StaysN.refl _ _).grown hg0 (Nat.le_refl _) (fun j hj => by cases hj)⟩
  case round =>
    obtain ⟨left, cnt, ss, hrg, hcs, hrow, hC, hnx⟩ := hrel
    go_wp2_with (first
      | (at_next; refine wpList_next_ranges _ rfl _ rfl 9 law9 (plainElem Tryz.prog 3) encStr (Value.int .i64) (fun key kl hk => by obtain ⟨x, hx, _⟩ := Maps.keyOf_str Tryz.underlying9 hk; exact ⟨x, hx⟩) (fun v y hv => by obtain ⟨c, rfl, _⟩ := plainElem_int_inv Tryz.underlying3 hv; exact ⟨c, rfl⟩) b w.heap.size n _ _ _ rfl hrg ?_ ?_)
      | go_in)
    · intro hc0 hl0
      have hperm := hC.perm hown law9 Tryz.underlying9 hl0
      rcases hrow.2 with ⟨hnil, hz⟩ | ⟨g, cap, cur, rfl, hbase, hb, h1, h2, h3, h4⟩
      · subst hnil
        obtain rfl : ss = [] := List.eq_nil_of_length_eq_zero hz
        have hc := hsnil wr
        go_wp2_with fail
        refine hc.mono ?_
        rintro e w' ⟨rfl, hst⟩
        go_wp2
        go_ret
        exact ⟨_, [], rfl, hperm, ⟨by simp, .inl ⟨rfl, rfl⟩⟩, ⟨hst.os.trans hnx.os, hst.out.trans hnx.out, Nat.le_trans hnx.size hst.size, fun i hi => (hst.block i (by have := hnx.size; omega)).trans (hnx.block i hi)⟩⟩
      · have hH : Holds encStr wr g 0 ss.toArray := holds_of_block hb (by simpa using h4)
        have hgl : g < wr.heap.size := (Array.getElem?_eq_some_iff.1 hb).1
        have hc := hsort g 0 cap ss wr hH hgl (by unfold maxLen at hmax; omega)
        go_wp2_with fail
        refine hc.mono ?_
        rintro e w' ⟨rfl, nn, os, rfl⟩
        go_wp2
        go_ret
        exact ⟨_, ss, rfl, hperm, ownsRow_sorted (by simp) hbase hb h1 h2 h3, hnx.grown (grownBy_sorted _) hnx.size (fun j hj => by cases hj; exact hbase)⟩
    · intro x c kl yd yp w2 cnt2 hkey hlk hv hat hrg2 hlt hg2 hs2 hen
      obtain ⟨x', ex, rfl, _⟩ := Maps.keyOf_str Tryz.underlying9 hkey
      obtain rfl : x = x' := encStr_inj ex
      have hrow2 := hrow.kept hg2 (Or.inr (row_ne_iter hrow hrg).symm)
      clear hs2
      go_wp2_with (first
        | (at_builtin; refine wpList_append_own _ rfl _ _ 56 rfl w.heap.size 9 i0 (.string ⟨#[]⟩) 1 16 Tryz.underlying56 hi hz0 hz1 hz2 rfl (by decide) _ _ _ rfl (hrow2.alloc _) ⟨w2.heap.size, 0, none⟩ 1 1 [encStr x] rfl rfl (cell_one_new _ _ _) (by simp [Value.oneCell', encStr]) (by unfold maxLen at *; omega) (by omega) (by have := hnx.size; have := hg2.size; simp; omega) ?_; intro v' w3 hown' hg3 hnil3; go_frame)
        | go_in)
      have hrg3 := (hrg2.alloc _).kept hg3 (row_ne_low hrow2 hbl) (row_ne_iter hrow2 hrg2)
      go_roundw
      case rel =>
        refine ⟨_, cnt2, ss ++ [x], hrg3, by simp; omega, by simpa using hown', hC.step hlk hat, ?_⟩
        exact ((hnx.grown hg2 hnx.size (fun j hj => by cases hj; exact Nat.le_refl _)).alloc (by have := hnx.size; have := hg2.size; omega) _).grown hg3 (by have := hnx.size; have := hg2.size; simp; omega) (fun j hj => (hrow2.lt j hj).1)
      case measure => rw [hrg3.left_eq, hrg.left_eq]; exact hlt
end Go.Proofs.YtchckkcigemajaaGreatDoor
