/- All paths of a tree: the hook; what it computes. -/
import Derived.Test.YtchckkcigemajaaGreatDoorGxN1
import Derived.Sort.KeysCollected
namespace Go.Ab
set_option linter.unusedVariables false

def leBytes : List UInt8 → List UInt8 → Bool
  | [], _ => true
  | _ :: _, [] => false
  | a :: as, b :: bs => match Nat.blt a.toNat b.toNat with
    | true => true
    | false => match Nat.blt b.toNat a.toNat with
      | true => false
      | false => leBytes as bs
def insBytes (x : List UInt8) : List (List UInt8) → List (List UInt8)
  | [] => [x]
  | y :: r => match leBytes x y with
    | true => x :: y :: r
    | false => y :: insBytes x r
def sortBytes : List (List UInt8) → List (List UInt8)
  | [] => []
  | x :: r => insBytes x (sortBytes r)

theorem leBytes_eq : ∀ (a b : List UInt8), leBytes a b = leB a b
  | [], b => by simp [leBytes, leB]
  | a :: as, [] => by simp [leBytes, leB]
  | a :: as, b :: bs => by
    have ih := leBytes_eq as bs
    simp only [leB] at ih ⊢
    simp only [leBytes]
    have h1 : (Nat.blt a.toNat b.toNat = true) ↔ a < b := by rw [Nat.blt_eq, UInt8.lt_iff_toNat_lt]
    have h2 : (Nat.blt b.toNat a.toNat = true) ↔ b < a := by rw [Nat.blt_eq, UInt8.lt_iff_toNat_lt]
    split
    · rename_i h
      have := h1.1 h
      rw [eq_comm, decide_eq_true_eq, List.cons_le_cons_iff]
      exact .inl this
    · rename_i h
      have hn : ¬ a < b := fun hq => by rw [h1.2 hq] at h; cases h
      split
      · rename_i h'
        have h3 := h2.1 h'
        rw [eq_comm, decide_eq_false_iff_not, List.cons_le_cons_iff]
        rintro (h4 | ⟨rfl, _⟩)
        · exact hn h4
        · exact hn h3
      · rename_i h'
        have hn' : ¬ b < a := fun hq => by rw [h2.2 hq] at h'; cases h'
        have heq : a = b := by
          apply UInt8.toNat_inj.1
          rw [UInt8.lt_iff_toNat_lt] at hn hn'
          omega
        subst heq
        rw [ih]
        have hiff : (a :: as ≤ a :: bs) ↔ as ≤ bs := by
          rw [List.cons_le_cons_iff]
          exact ⟨fun hq => by rcases hq with hq | ⟨_, hq⟩
                              · exact absurd hq hn
                              · exact hq, fun hq => .inr ⟨rfl, hq⟩⟩
        exact (decide_eq_decide.2 hiff).symm

theorem insBytes_perm (x : List UInt8) : ∀ l, (insBytes x l).Perm (x :: l)
  | [] => .refl _
  | y :: r => by
    simp only [insBytes]
    split
    · exact .refl _
    · exact ((insBytes_perm x r).cons y).trans (List.Perm.swap x y r)
theorem sortBytes_perm : ∀ l, (sortBytes l).Perm l
  | [] => .refl _
  | x :: r => (insBytes_perm x _).trans ((sortBytes_perm r).cons x)

theorem leB_trans {a b c : List UInt8} (h1 : leB a b = true) (h2 : leB b c = true) : leB a c = true := by
  simp only [leB, decide_eq_true_eq] at *; exact List.le_trans h1 h2
theorem leB_total (a b : List UInt8) : (leB a b || leB b a) = true := by
  simp only [leB, Bool.or_eq_true, decide_eq_true_eq]; exact List.le_total a b

theorem insBytes_sorted (x : List UInt8) : ∀ l : List (List UInt8), l.Pairwise (fun a b => leB a b = true) → (insBytes x l).Pairwise (fun a b => leB a b = true)
  | [], _ => by simp [insBytes]
  | y :: r, h => by
    have hy := List.pairwise_cons.1 h
    simp only [insBytes]
    split
    · rename_i hxy
      rw [leBytes_eq] at hxy
      refine List.pairwise_cons.2 ⟨fun z hz => ?_, h⟩
      rcases List.mem_cons.1 hz with rfl | hz
      · exact hxy
      · exact leB_trans hxy (hy.1 z hz)
    · rename_i hxy
      rw [leBytes_eq] at hxy
      have hyx : leB y x = true := by
        have := leB_total x y
        rw [hxy] at this
        simpa using this
      refine List.pairwise_cons.2 ⟨fun z hz => ?_, insBytes_sorted x r hy.2⟩
      rcases List.mem_cons.1 ((insBytes_perm x r).mem_iff.1 hz) with rfl | hz
      · exact hyx
      · exact hy.1 z hz
theorem sortBytes_sorted : ∀ l : List (List UInt8), (sortBytes l).Pairwise (fun a b => leB a b = true)
  | [] => List.Pairwise.nil
  | x :: r => insBytes_sorted x _ (sortBytes_sorted r)

theorem sortBytes_eq {l ks : List (List UInt8)} (h : l.Perm ks) : l.mergeSort leB = sortBytes ks := by
  refine List.Perm.eq_of_pairwise (le := fun a b => leB a b = true) (fun a b _ _ h1 h2 => ?_) (List.pairwise_mergeSort (le := leB) (fun a b c h1 h2 => leB_trans h1 h2) leB_total l) (sortBytes_sorted ks) (((List.mergeSort_perm l leB).trans h).trans (sortBytes_perm ks).symm)
  simp only [leB, decide_eq_true_eq] at h1 h2
  exact List.le_antisymm h1 h2

def entKey : List AV → Option (List UInt8)
  | [.val (.string s), .val (.int .i64 z)] => match Nat.ble s.data.toList.length 65536, (Lit.int .i64 z).wf with
    | true, true => some s.data.toList
    | _, _ => none
  | _ => none
def keysOfRow : List (List AV) → Option (List (List UInt8))
  | [] => some []
  | e :: r => match entKey e, keysOfRow r with
    | some k, some ks => some (k :: ks)
    | _, _ => none

theorem entKey_some {e : List AV} {k : List UInt8} (h : entKey e = some k) : ∃ (s : ByteArray) (z : Int), e = [.val (.string s), .val (.int .i64 z)] ∧ s.size ≤ 65536 ∧ (Lit.int .i64 z).wf = true ∧ k = s.data.toList := by
  unfold entKey at h
  split at h
  · rename_i s z
    split at h
    · rename_i h1 h2
      injection h with h
      exact ⟨s, z, rfl, Nat.le_of_ble_eq_true h1, h2, h.symm⟩
    · cases h
  · cases h

def entBytes (x : MapEntry) : List UInt8 := match x.key with | .string s => s.data.toList | _ => []

theorem keysOfRow_spec : ∀ (es : List (List AV)) (l : List MapEntry) (ks : List (List UInt8)), keysOfRow es = some ks → l.length = es.length →
    (∀ (i : Nat) (el : List AV) (x : MapEntry), es[i]? = some el → l[i]? = some x → el = [.val x.key, .val x.val]) →
    (∀ x ∈ l, ∃ (s : ByteArray) (z : Int), x.key = .string s ∧ s.size ≤ 65536 ∧ x.val = .int .i64 z ∧ (Lit.int .i64 z).wf = true) ∧ l.map entBytes = ks
  | [], l, ks, h, hl, _ => by
    obtain rfl : l = [] := List.eq_nil_of_length_eq_zero (by simpa using hl)
    simp [keysOfRow] at h
    subst h
    exact ⟨fun x hx => (by cases hx), rfl⟩
  | e :: es, [], ks, h, hl, _ => by simp at hl
  | e :: es, x :: l, ks, h, hl, he => by
    simp only [keysOfRow] at h
    split at h
    · rename_i k ks' hk hks
      injection h with h
      subst h
      obtain ⟨s, z, h1, h2, h3, rfl⟩ := entKey_some hk
      have h0 := he 0 e x rfl rfl
      rw [h1] at h0
      simp only [List.cons.injEq, AV.val.injEq, and_true] at h0
      obtain ⟨hkx, hvx⟩ := h0
      obtain ⟨g1, g2⟩ := keysOfRow_spec es l ks' hks (by simpa using hl) (fun i el y h1 h2 => he (i + 1) el y (by simpa using h1) (by simpa using h2))
      refine ⟨fun y hy => ?_, ?_⟩
      · rcases List.mem_cons.1 hy with rfl | hy
        · exact ⟨s, z, hkx.symm, h2, hvx.symm, h3⟩
        · exact g1 y hy
      · rw [List.map_cons, g2]
        simp [entBytes, ← hkx]
    · cases h

/-- [pointer to a walker]: the keys of the map that lies at cell fld of it, sorted -/
def hPaths (fld : Nat) : Hook := fun _ _ args A => match args with
  | [.ptr i off] => match A.boxes[i]? with
    | some cs => match cs[off + fld]? with
      | some (.mapr g) => match rowL A.rows g with
        | some es => match keysOfRow es, Nat.ble es.length 1000000 with
          | some ks, true => some (.slice ((sortBytes ks).map fun k => [.val (.string ⟨k.toArray⟩)]) .any, A)
          | _, _ => none
        | none => none
      | _ => none
    | none => none
  | _ => none
end Go.Ab
