/- Rows sorted, compacted and asked by the library, in the words of rows. -/
import Derived.Test.YtminhlpbdpbolaaShelf
import Derived.Test.YtminhlpbdpbolaaWk
import Derived.Sort.OwnSortedInts
namespace Go.Proofs.Ytminhlpbdpbolaa
open Go.RowKit Mir

namespace Mir
theorem insertI_perm (x : Int) (l : List Int) : (insertI x l).Perm (x :: l) := by
  induction l with
  | nil => exact .refl _
  | cons y l ih =>
    unfold insertI
    split
    · exact .refl _
    · exact (ih.cons y).trans (.swap x y l)
theorem sorted_perm (l : List Int) : (sorted l).Perm l := by
  induction l with
  | nil => exact .refl _
  | cons x l ih => exact (insertI_perm x _).trans (ih.cons x)
theorem insertI_pairwise {x : Int} {l : List Int} (h : l.Pairwise (· ≤ ·)) : (insertI x l).Pairwise (· ≤ ·) := by
  induction l with
  | nil => simp [insertI]
  | cons y l ih =>
    unfold insertI
    have h' := List.pairwise_cons.1 h
    split
    · rename_i hle
      refine List.pairwise_cons.2 ⟨fun z hz => ?_, h⟩
      rcases List.mem_cons.1 hz with rfl | hz
      · exact hle
      · exact Int.le_trans hle (h'.1 z hz)
    · rename_i hle
      refine List.pairwise_cons.2 ⟨fun z hz => ?_, ih h'.2⟩
      rcases List.mem_cons.1 ((insertI_perm x l).mem_iff.1 hz) with rfl | hz
      · omega
      · exact h'.1 z hz
theorem sorted_pairwise (l : List Int) : (sorted l).Pairwise (· ≤ ·) := by
  induction l with
  | nil => exact .nil
  | cons x l ih => exact insertI_pairwise ih
theorem sorted_length (l : List Int) : (sorted l).length = l.length := (sorted_perm l).length_eq
theorem mem_sorted {l : List Int} {x : Int} : x ∈ sorted l ↔ x ∈ l := (sorted_perm l).mem_iff
theorem mergeSort_sorted (l : List Int) : (l.mergeSort fun x y => decide (x ≤ y)) = sorted l := by
  refine List.Perm.eq_of_pairwise (le := (· ≤ ·)) (fun a b _ _ h1 h2 => Int.le_antisymm h1 h2) ?_ (sorted_pairwise l) ((List.mergeSort_perm _ _).trans (sorted_perm l).symm)
  have h := List.pairwise_mergeSort (le := fun x y : Int => decide (x ≤ y)) (fun a b c h1 h2 => by simp at h1 h2 ⊢; omega) (fun a b => by simp; omega) l
  exact h.imp fun h => by simpa using h

theorem compact_snoc (l : List Int) (x : Int) : compact (l ++ [x]) = if l.getLast? = some x then compact l else compact l ++ [x] := by
  induction l with
  | nil => simp [compact]
  | cons y l ih =>
    cases l with
    | nil =>
      by_cases h : y = x
      · subst h; simp [compact]
      · simp [compact, h]
    | cons z l =>
      have hne : (compact (z :: l)) ≠ [] := by
        unfold compact
        split
        · simp
        · split <;> simp
      have e : compact (y :: (z :: l) ++ [x]) = match compact (z :: l ++ [x]) with | [] => [y] | u :: t => if y = u then u :: t else y :: u :: t := by
        rw [List.cons_append]; rfl
      have e2 : compact (y :: z :: l) = match compact (z :: l) with | [] => [y] | u :: t => if y = u then u :: t else y :: u :: t := rfl
      have el : (y :: z :: l).getLast? = (z :: l).getLast? := by simp
      rw [e, e2, el, ih]
      by_cases h : (z :: l).getLast? = some x
      · simp only [h, if_true]
      · simp only [h, if_false]
        cases hc : compact (z :: l) with
        | nil => exact (hne hc).elim
        | cons u t =>
          simp only [List.cons_append]
          split <;> rfl

theorem mem_compact {l : List Int} {x : Int} : x ∈ compact l ↔ x ∈ l := by
  induction l with
  | nil => simp [compact]
  | cons y l ih =>
    unfold compact
    split
    · rename_i h
      rw [h] at ih
      simp only [List.not_mem_nil, false_iff] at ih
      simp [ih]
    · rename_i z t h
      rw [h] at ih
      split
      · rename_i e
        subst e
        simp only [List.mem_cons] at ih ⊢
        rw [← ih]
        simp
      · rw [List.mem_cons, ih, List.mem_cons]

theorem compact_le (l : List Int) : (compact l).length ≤ l.length := by
  induction l with
  | nil => simp [compact]
  | cons x l ih =>
    unfold compact
    split
    · simp
    · rename_i y t h
      rw [h] at ih
      split <;> simp at ih ⊢ <;> omega

theorem compact_lib (l : List Int) : Lib.compact l = compact l := by
  have key : ∀ m, m ≤ l.length → Lib.compactUpTo l.toArray m = compact (l.take m) := by
    intro m
    induction m with
    | zero => intro _; rfl
    | succ m ih =>
      intro hm
      have hlt : m < l.length := by omega
      rw [Lib.compactUpTo_succ, ih (by omega), List.take_succ_eq_append_getElem hlt, compact_snoc]
      have e1 : l.toArray[m]! = l[m] := by simp [hlt]
      have e2 : (l.take m).getLast? = if m = 0 then none else some (l[m - 1]'(by omega)) := by
        by_cases h0 : m = 0
        · subst h0; simp
        · rw [if_neg h0, List.getLast?_eq_getElem?, List.length_take, Nat.min_eq_left (by omega), List.getElem?_take_of_lt (by omega), List.getElem?_eq_getElem]
      rw [e1, e2]
      by_cases h0 : m = 0
      · subst h0
        simp [Lib.keeps]
      · have e3 : l.toArray[m - 1]! = l[m - 1]'(by omega) := by simp [show m - 1 < l.length by omega]
        by_cases h : l[m - 1]'(by omega) = l[m]
        · simp [Lib.keeps, h0, e1, e3, h]
        · have h' : ¬ l[m] = l[m - 1]'(by omega) := fun q => h q.symm
          simp [Lib.keeps, h0, e1, e3, h, h']
  have := key l.length (Nat.le_refl _)
  rw [List.take_length] at this
  exact this
end Mir

open Go.Sort in
theorem sort_c {w : World} {a : Option Addr} {n c : Nat} {xs : List Int} (hr : Row w 3 1 a n c (xs.map vi)) (hb : n < 4611686018427387904) :
    Calls Try.prog 63 #[.slice a n c] w fun e w' => e = .returned (.tuple #[]) ∧ w.grownBy w' (blk a) ∧ Row w' 3 1 a n c ((sorted xs).map vi) := by
  have hl : xs.length = n := by have := hr.1; simpa using this
  rcases hr.2 with ⟨rfl, rfl, rfl⟩ | ⟨g, cur, rfl, hg, h1, h2, h3, ht⟩
  · have hx : xs = [] := List.eq_nil_of_length_eq_zero hl
    subst hx
    exact (Try.slices_Sort_int_none none 0 w).mono fun e w' ⟨he, hw⟩ => ⟨he, hw ▸ grownBy_refl _ _, by rw [hw]; exact hr⟩
  · subst hl
    have ht' : cur.toList.take xs.length = xs.map (Value.int .i64) := by simpa using ht
    have hH := holds_of_blockI hg ht'
    refine (Try.slices_Sort_int g 0 c xs w hH (Array.getElem?_eq_some_iff.1 hg).1 hb).mono ?_
    rintro e w' ⟨he, q, os, rfl⟩
    rw [mergeSort_sorted]
    have hs : (sorted xs).length = xs.length := sorted_length xs
    refine ⟨he, grownBy_sortedI _, by simp [hs], .inr ⟨g, _, rfl, heap_sortedI _ hg, h1, h2, by simp [putCells, h3], ?_⟩⟩
    rw [Nat.mul_one, ← hs]
    exact take_putCellsI cur (sorted xs) (by rw [hs, h3]; omega)

open Go.Sort in
theorem compact_c {w : World} {a : Option Addr} {n c : Nat} {xs : List Int} (hr : Row w 3 1 a n c (xs.map vi)) :
    Calls Try.prog 64 #[.slice a n c] w fun e w' => e = .returned (.slice a (compact xs).length c) ∧ w.grownBy w' (blk a) ∧ Row w' 3 1 a (compact xs).length c ((compact xs).map vi) := by
  have hl : xs.length = n := by have := hr.1; simpa using this
  rcases hr.2 with ⟨rfl, rfl, rfl⟩ | ⟨g, cur, rfl, hg, h1, h2, h3, ht⟩
  · have hx : xs = [] := List.eq_nil_of_length_eq_zero hl
    subst hx
    exact (Try.slices_Compact_int_empty none 0 w).mono fun e w' ⟨he, hw⟩ => ⟨he, hw ▸ grownBy_refl _ _, by rw [hw]; exact hr⟩
  · subst hl
    have ht' : cur.toList.take xs.length = xs.map (Value.int .i64) := by simpa using ht
    have hH := holds_of_blockI hg ht'
    have hm : (xs.length : Nat) ≤ 9223372036854775807 := by simp only [maxLen] at h2; omega
    refine (Try.slices_Compact_int g 0 c xs w hH hm h1).mono ?_
    rintro e w' ⟨he, q, rfl⟩
    rw [compact_lib] at he ⊢
    have hle : (compact xs).length ≤ xs.length := compact_le xs
    generalize hD : (compact xs ++ List.replicate (xs.length - (compact xs).length) 0) = D
    have hDl : D.length = xs.length := by rw [← hD]; simp; omega
    have e0 : putRow (Value.int .i64) (Sort.ahead w q) g 0 D.toArray = Go.Sort.grow (putRow (Value.int .i64) (Sort.ahead w q) g 0 D.toArray) #[] := (Go.Sort.grow_empty _).symm
    rw [e0]
    refine ⟨he, grownBy_sortedI _, by simp, .inr ⟨g, _, rfl, heap_sortedI _ hg, by omega, h2, by simp [putCells, h3], ?_⟩⟩
    have e1 := take_putCellsI cur D (by rw [hDl, h3]; omega)
    have e2 : (putCells (Value.int .i64) 0 D.toArray cur).toList.take (compact xs).length = ((putCells (Value.int .i64) 0 D.toArray cur).toList.take D.length).take (compact xs).length := by
      rw [List.take_take, Nat.min_eq_left (by omega)]
    rw [Nat.mul_one, e2, e1, ← hD, ← List.map_take, List.take_left]

/-- Is a number in a row? -/
theorem contains_c {w : World} {a : Option Addr} {n c : Nat} {xs : List Int} (hr : Row w 3 1 a n c (xs.map vi)) (x : Int) :
    Calls Try.prog 62 #[.slice a n c, .int .i64 x] w fun e w' => e = .returned (.bool (decide (x ∈ xs))) ∧ w = w' := by
  have hl : xs.length = n := by have := hr.1; simpa using this
  have hc : ∀ x : Int, xs.contains x = decide (x ∈ xs) := fun x => by rw [Bool.eq_iff_iff]; simp
  rcases hr.2 with ⟨rfl, rfl, rfl⟩ | ⟨g, cur, rfl, hg, h1, h2, h3, ht⟩
  · have hx : xs = [] := List.eq_nil_of_length_eq_zero hl
    subst hx
    exact (Try.slices_Contains_int_empty none 0 x w).mono fun e w' ⟨he, hw⟩ => ⟨by simpa using he, hw.symm⟩
  · subst hl
    have hm : (xs.length : Nat) ≤ 9223372036854775807 := by simp only [maxLen] at h2; omega
    refine (Try.slices_Contains_int g 0 xs.length c xs x w (Nat.le_refl _) hm ?_).mono ?_
    · intro j hj
      rw [Nat.zero_add]
      exact hr.cell (by simp [List.getD, List.getElem?_eq_getElem hj])
    · rintro e w' ⟨he, hw⟩
      rw [List.take_length, hc] at he
      exact ⟨he, hw.symm⟩

end Go.Proofs.Ytminhlpbdpbolaa
