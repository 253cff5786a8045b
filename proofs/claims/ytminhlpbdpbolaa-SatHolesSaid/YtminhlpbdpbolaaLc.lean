/- The pigeonholes: what SatHoles adds and what comes of it. -/
import Derived.Test.YtminhlpbdpbolaaLb
namespace Go.Proofs.Ytminhlpbdpbolaa
open Go.RowKit Mir

def hat (k p h : Nat) : Int := (p * (k - 1) + h + 1 : Nat)
/-- Pigeon p and the pigeons from q on do not share hole h. -/
def hq (k p h : Nat) : Nat → Nat → List (List Int)
  | _, 0 => []
  | q, n + 1 => [-(hat k p h), -(hat k q h)] :: hq k p h (q + 1) n
def hh (k p : Nat) : Nat → Nat → List (List Int)
  | _, 0 => []
  | h, n + 1 => hq k p h 0 p ++ hh k p (h + 1) n
def hsome (k p n : Nat) : List Int := (List.range n).map (hat k p)
def hp (k : Nat) : Nat → Nat → List (List Int)
  | _, 0 => []
  | p, n + 1 => hh k p 0 (k - 1) ++ hsome k p (k - 1) :: hp k (p + 1) n

theorem adds_append (xs ys : List (List Int)) (M : St) : adds (xs ++ ys) M = (adds xs M).bind (adds ys) := by
  induction xs generalizing M with
  | nil => rfl
  | cons x r ih =>
    show (add M x).bind (adds (r ++ ys)) = ((add M x).bind (adds r)).bind (adds ys)
    cases add M x with
    | none => rfl
    | some M1 => exact ih M1

def holesB (k : Nat) : Bool :=
  match adds (hp k 0 k) news with
  | none => false
  | some M => match solveF 1000 M 0 [] with
    | some (_, .unsat []) => true
    | _ => false
theorem holes2 : holesB 2 = true := by decide +kernel
theorem holes3 : holesB 3 = true := by decide +kernel
theorem holes4 : holesB 4 = true := by decide +kernel
theorem holes5 : holesB 5 = true := by decide +kernel

theorem holes_steps (k : Nat) (h2 : 2 ≤ k) (h5 : k ≤ 5) : ∃ M Mf, adds (hp k 0 k) news = some M ∧ solveF 1000 M 0 [] = some (Mf, .unsat []) := by
  have h : holesB k = true := by
    match k, h2, h5 with
    | 2, _, _ => exact holes2
    | 3, _, _ => exact holes3
    | 4, _, _ => exact holes4
    | 5, _, _ => exact holes5
  unfold holesB at h
  split at h
  · cases h
  rename_i M h1
  split at h
  case h_2 => cases h
  rename_i Mf hs
  exact ⟨M, Mf, h1, hs⟩

theorem hat_pos (k p h : Nat) (hk : k ≤ 5) (hp : p ≤ 5) (hh : h ≤ 5) : 1 ≤ hat k p h ∧ hat k p h ≤ 26 := by
  simp only [hat]
  have : p * (k - 1) ≤ 5 * 4 := Nat.mul_le_mul hp (by omega)
  omega

theorem right_of {x : Int} (h : 1 ≤ x ∧ x ≤ 26) : Mir.right x = true ∧ Mir.right (-x) = true := by
  simp only [Mir.right, ok, Bool.and_eq_true, Bool.not_eq_true', beq_eq_false_iff_ne, decide_eq_true_eq]
  omega

theorem hsome_right (k p n : Nat) (hk : k ≤ 5) (hp : p ≤ 5) (hn : n ≤ 5) : (hsome k p n).all Mir.right = true := by
  rw [List.all_eq_true]
  intro x hx
  simp only [hsome, List.mem_map, List.mem_range] at hx
  obtain ⟨h, hh, rfl⟩ := hx
  exact (right_of (hat_pos k p h hk hp (by omega))).1

theorem hsome_succ (k p h : Nat) : hsome k p (h + 1) = hsome k p h ++ [hat k p h] := by simp [hsome, List.range_succ]
theorem hsome_len (k p h : Nat) : (hsome k p h).length = h := by simp [hsome]

set_option maxHeartbeats 1000000 in
theorem at_c {w : World} {kb k p h : Nat} (hc : w.cell? ⟨kb, 0, none⟩ = some (.int .i64 (k : Nat))) (h2 : 2 ≤ k) (h5 : k ≤ 5) (hp5 : p ≤ 5) (hh5 : h ≤ 5) :
    Calls Try.prog 25 #[.int .i64 (p : Nat), .int .i64 (h : Nat), .pointer (some ⟨kb, 0, none⟩)] w fun e w' => e = .returned (.int .i64 (hat k p h)) ∧ w = w' := by
  have e1 : hat k p h = (p : Int) * ((k : Int) - 1) + (h : Int) + 1 := by
    simp only [hat]
    push_cast
    rw [Int.ofNat_sub (by omega)]
    rfl
  have hb : (p : Int) * ((k : Int) - 1) ≤ 20 ∧ 0 ≤ (p : Int) * ((k : Int) - 1) := by
    have a := hat_pos k p 0 h5 hp5 (by omega)
    have e0 : hat k p 0 = (p : Int) * ((k : Int) - 1) + 1 := by
      simp only [hat]
      push_cast
      rw [Int.ofNat_sub (by omega)]
      simp
    have m : p * (k - 1) ≤ 5 * 4 := Nat.mul_le_mul hp5 (by omega)
    have m2 : ((p * (k - 1) : Nat) : Int) = (p : Int) * ((k : Int) - 1) := by
      push_cast
      rw [Int.ofNat_sub (by omega)]
      rfl
    rw [← m2]
    omega
  obtain ⟨hb1, hb2⟩ := hb
  rw [e1]
  have q1 : IntKind.i64.wrap ((k : Int) - 1) = (k : Int) - 1 := IntWalk.i64_in _ (by omega)
  have q2 : IntKind.i64.wrap ((p : Int) * ((k : Int) - 1)) = (p : Int) * ((k : Int) - 1) := IntWalk.i64_in _ (by omega)
  have q3 : IntKind.i64.wrap ((p : Int) * ((k : Int) - 1) + (h : Int)) = (p : Int) * ((k : Int) - 1) + (h : Int) := IntWalk.i64_in _ (by omega)
  have q4 : IntKind.i64.wrap ((p : Int) * ((k : Int) - 1) + (h : Int) + 1) = (p : Int) * ((k : Int) - 1) + (h : Int) + 1 := IntWalk.i64_in _ (by omega)
  clear e1
  go_enter Try.func25, Try.ntmps25
  go_wp2
  go_ret
  exact ⟨by simp, rfl⟩

end Go.Proofs.Ytminhlpbdpbolaa
