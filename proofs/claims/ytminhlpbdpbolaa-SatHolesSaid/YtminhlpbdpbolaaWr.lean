/- Whether literals may be: cnf.Check. -/
import Derived.Test.YtminhlpbdpbolaaWa
import Derived.Deep.LoopGhost
import Derived.Deep.CutRange
namespace Go.Proofs.Ytminhlpbdpbolaa
open Go.RowKit Mir

theorem ret_b {a b : Bool} (h : a = b) : Ending.returned (.bool a) = .returned (.bool b) := by rw [h]

set_option maxHeartbeats 400000 in
theorem right_c (n : Int) (w : World) : Calls Try.prog 52 #[.int .i64 n] w fun e w' => e = .returned (.bool (Mir.right n)) ∧ w = w' := by
  have e : Mir.right n = (!(n == 0) && (decide (-1048576 ≤ n) && decide (n ≤ 1048576))) := rfl
  rw [e]
  by_cases h0 : n = 0
  · subst h0
    go_enter Try.func52, Try.ntmps52
    go_wp2
    go_ret
    exact ⟨rfl, rfl⟩
  · have b0 : (n == 0) = false := by simpa using h0
    have b1 : (n != 0) = true := by simpa using h0
    by_cases h1 : -1048576 ≤ n
    · have c1 : decide (-1048576 ≤ n) = true := decide_eq_true h1
      by_cases h2 : n ≤ 1048576
      · have c2 : decide (n ≤ 1048576) = true := decide_eq_true h2
        clear h0 h1 h2
        go_enter Try.func52, Try.ntmps52
        go_wp2
        go_ret
        exact ⟨ret_b (by rw [b0, c1, c2]; rfl), rfl⟩
      · have c2 : decide (n ≤ 1048576) = false := decide_eq_false h2
        clear h0 h1 h2
        go_enter Try.func52, Try.ntmps52
        go_wp2
        go_ret
        exact ⟨ret_b (by rw [b0, c1, c2]; rfl), rfl⟩
    · have c1 : decide (-1048576 ≤ n) = false := decide_eq_false h1
      clear h0 h1
      go_enter Try.func52, Try.ntmps52
      go_wp2
      go_ret
      exact ⟨ret_b (by rw [b0, c1]; rfl), rfl⟩

set_option maxHeartbeats 400000 in
theorem notRight_c (n : Int) (w : World) : Calls Try.prog 51 #[.int .i64 n] w fun e w' => e = .returned (.bool (!Mir.right n)) ∧ w = w' := by
  go_enter Try.func51, Try.ntmps51
  go_wp2_with (go_at_call 52; refine (right_c _ _).mono ?_; rintro e w' ⟨rfl, rfl⟩)
  go_ret
  exact ⟨rfl, rfl⟩

/-- The first place of a number that is not right, or -1. -/
def firstBad : List Int → Int → Int
  | [], _ => -1
  | x :: r, i => if Mir.right x then firstBad r (i + 1) else i

theorem firstBad_neg (l : List Int) (i : Int) (h : 0 ≤ i) : decide (0 ≤ firstBad l i) = !l.all Mir.right := by
  induction l generalizing i with
  | nil => rfl
  | cons x l ih =>
    unfold firstBad
    by_cases hx : Mir.right x
    · rw [if_pos hx, ih (i + 1) (by omega), List.all_cons, hx, Bool.true_and]
    · rw [if_neg hx]
      simp [hx, h]

/-- What a slice of numbers reads as, wherever it lies. -/
def Reads (w : World) (a : Option Addr) (xs : List Int) : Prop := xs ≠ [] → ∃ g off, a = some ⟨g, off, none⟩ ∧ ∀ j x, xs[j]? = some x → w.cell? ⟨g, off + j, none⟩ = some (.int .i64 x)

theorem Row.reads {w : World} {a : Option Addr} {n c : Nat} {xs : List Int} (h : Row w 3 1 a n c (xs.map vi)) : Reads w a xs := by
  intro hne
  have hl : xs.length = n := by have := h.1; simpa using this
  obtain ⟨g, rfl⟩ := h.pos (by have := List.length_pos_iff.2 hne; omega)
  exact ⟨g, 0, rfl, fun j x hj => by rw [Nat.zero_add]; exact h.cell (by simp [hj])⟩

theorem Reads.drewN {w : World} {a : Option Addr} {xs : List Int} (h : Reads w a xs) (d : Nat) : Reads (w.drewN d) a xs := h

theorem Reads.keep {w w' : World} {a : Option Addr} {xs : List Int} (h : Reads w a xs) (k : ∀ g, blk a = some g → w'.heap[g]? = w.heap[g]?) : Reads w' a xs := by
  intro hne
  obtain ⟨g, off, rfl, hc⟩ := h hne
  exact ⟨g, off, rfl, fun j x hj => (World.cell?_of_block (a := ⟨g, off + j, none⟩) (k g rfl)).trans (hc j x hj)⟩

def BadI (w : World) (xs : List Int) (r : Int) (k : Nat) (v8 : Value) (wr : World) : Prop :=
  ∃ i : Nat, v8 = .int .i64 (i : Nat) ∧ i ≤ xs.length ∧ k = xs.length - i ∧ wr = w ∧ firstBad (xs.drop i) i = r

set_option maxHeartbeats 400000 in
theorem indexBad_c {w : World} {a : Option Addr} {n c : Nat} {xs : List Int} (hN : xs.length = n) (hc : Reads w a xs) (hb : n ≤ 9223372036854775807) :
    Calls Try.prog 66 #[.slice a n c, .func (.func 51) #[] #[]] w fun e w' => e = .returned (.int .i64 (firstBad xs 0)) ∧ w = w' := by
  subst hN
  have HC := Lib.hid hc
  clear hc
  obtain ⟨r, hr⟩ : ∃ r, firstBad xs 0 = r := ⟨_, rfl⟩
  rw [hr]
  go_enter Try.func66, Try.ntmps66
  go_wp2
  go_loopg [8] xs.length (BadI w xs r)
  case atStart => exact ⟨0, rfl, Nat.zero_le _, rfl, rfl, by simpa using hr⟩
  case round =>
    clear hr
    obtain ⟨i, rfl, hi, rfl, rfl, hf⟩ := hrel
    by_cases hlt : i < xs.length
    · rw [List.drop_eq_getElem_cons hlt] at hf
      have hget : xs[i]? = some xs[i] := List.getElem?_eq_getElem hlt
      generalize xs[i] = x at hf hget
      obtain ⟨g, off, hg, hcel⟩ := HC.out (by intro q; rw [q] at hget; cases hget)
      subst hg
      replace hcel := hcel i x hget
      have hlti : (i : Int) < (xs.length : Int) := by omega
      unfold firstBad at hf
      clear hget
      by_cases hx : Mir.right x = true
      · rw [if_pos hx] at hf
        have b1 : (!Mir.right x) = false := by rw [hx]; rfl
        have HF := Lib.hid hf
        clear hf hx
        go_wp2_with (go_at_call 51; refine (notRight_c _ _).mono ?_; rintro e w' ⟨rfl, rfl⟩)
        go_roundg (xs.length - (i + 1))
        case measure => omega
        case rel => exact ⟨i + 1, by go_num, hlt, rfl, rfl, HF.out⟩
      · rw [if_neg hx] at hf
        have b1 : (!Mir.right x) = true := by simpa using hx
        subst hf
        clear hx
        go_wp2_with (go_at_call 51; refine (notRight_c _ _).mono ?_; rintro e w' ⟨rfl, rfl⟩)
        go_ret
        exact ⟨rfl, rfl⟩
    · have hie : i = xs.length := by omega
      subst hie
      rw [List.drop_length] at hf
      simp only [firstBad] at hf
      subst hf
      go_wp2
      go_ret
      exact ⟨rfl, rfl⟩

set_option maxHeartbeats 400000 in
theorem anyBad_c {w : World} {a : Option Addr} {n c : Nat} {xs : List Int} (hN : xs.length = n) (hc : Reads w a xs) (hb : n ≤ 9223372036854775807) :
    Calls Try.prog 44 #[.slice a n c, .func (.func 51) #[] #[]] w fun e w' => e = .returned (.bool (!xs.all Mir.right)) ∧ w = w' := by
  have hf := firstBad_neg xs 0 (Int.le_refl _)
  have HF := Lib.hid hf
  clear hf
  go_enter Try.func44, Try.ntmps44
  go_wp2_with (go_at_call 66; refine (indexBad_c hN hc hb).mono ?_; rintro e w' ⟨rfl, rfl⟩)
  go_ret
  exact ⟨ret_b HF.out, rfl⟩

/-- cnf.Check at one clause alone. -/
def badE (xs : List Int) : Int := if xs.all Mir.right then 0 else 60

def CheckI (w : World) (b : Bool) (k : Nat) (v7 : Value) (wr : World) : Prop :=
  ∃ i : Nat, v7 = .int .i64 (i : Nat) ∧ i ≤ 1 ∧ k = 1 - i ∧ wr = w ∧ (i = 1 → b = true)

set_option maxHeartbeats 400000 in
theorem check1_c {w : World} {a : Option Addr} {n c : Nat} {xs : List Int} (hN : xs.length = n) (hc : Reads w a xs) (hb : n ≤ 9223372036854775807) {g : Nat} (hg : w.cell? ⟨g, 0, none⟩ = some (.slice a n c)) :
    Calls Try.prog 27 #[.slice (some ⟨g, 0, none⟩) 1 1] w fun e w' => e = .returned (.int .i64 (badE xs)) ∧ w = w' := by
  unfold badE
  have hcall := anyBad_c (c := c) hN hc hb
  generalize xs.all Mir.right = b at *
  have HC := Lib.hid hcall
  clear hcall
  go_enter Try.func27, Try.ntmps27
  go_wp2
  go_loopg [7] 1 (CheckI w b)
  case atStart => exact ⟨0, rfl, Nat.zero_le _, rfl, rfl, fun q => by cases q⟩
  case round =>
    obtain ⟨i, rfl, hi, rfl, rfl, hf⟩ := hrel
    by_cases h0 : i = 0
    · subst h0
      clear hc
      cases b with
      | true =>
        have hcall := HC.out
        go_wp2_with (go_at_call 44; refine hcall.mono ?_; rintro e w' ⟨rfl, rfl⟩)
        go_roundg 0
        case measure => omega
        case rel => exact ⟨1, rfl, Nat.le_refl _, rfl, rfl, fun _ => rfl⟩
      | false =>
        have hcall := HC.out
        go_wp2_with (go_at_call 44; refine hcall.mono ?_; rintro e w' ⟨rfl, rfl⟩)
        go_ret
        exact ⟨rfl, rfl⟩
    · obtain rfl : i = 1 := by omega
      have hb1 := hf rfl
      subst hb1
      clear h0 hf hc hg
      go_wp2
      go_ret
      exact ⟨rfl, rfl⟩

end Go.Proofs.Ytminhlpbdpbolaa
