/- A clause rising, each literal once: cnf.Clean. -/
import Derived.Test.YtminhlpbdpbolaaSrt
import Derived.Test.YtminhlpbdpbolaaWr
namespace Go.Proofs.Ytminhlpbdpbolaa
open Go.RowKit Mir

/-- All that was there is as it was. -/
abbrev Kept (w w' : World) : Prop := Fr (fun _ => none) w w'
/-- The blocks from a number on alone. -/
def From (n : Nat) (a : Option Addr) : Prop := ∀ g, blk a = some g → n ≤ g

theorem Kept.of_below {w w' : World} (h : Below w.heap.size w w') : Kept w w' := ⟨h.os, h.output, h.size, fun b hb _ => h.block b hb⟩
theorem Kept.grown' {w0 w w' : World} (h : Kept w0 w) {a : Option Addr} (hg : w.grownBy w' (blk a)) (ha : From w0.heap.size a) : Kept w0 w' :=
  h.grown hg fun g hg' hlt => absurd (ha g hg') (by omega)
theorem Kept.reads {w w' : World} (h : Kept w w') {a : Option Addr} {xs : List Int} (hr : Reads w a xs) (hl : ∀ g, blk a = some g → g < w.heap.size) : Reads w' a xs :=
  hr.keep fun g hg => h.block g (hl g hg) rfl
theorem Kept.row {w w' : World} (h : Kept w w') {E sz : Nat} {a : Option Addr} {n c : Nat} {xs : List Value} (hr : Row w E sz a n c xs) : Row w' E sz a n c xs :=
  hr.keep fun g hg => h.block g (hr.lt hg) rfl

theorem Next.kept {w0 w w' : World} {L0 L : Lay} {M0 M : St} (hn : Next w0 L0 M0 w L M) (h : Kept w w') : Next w0 L0 M0 w' L M :=
  ⟨hn.rep.touch (fun _ h => h) h.size fun b r hb _ _ => h.block b hb rfl, hn.fr.trans' ⟨h.os, h.output, h.size, fun b hb _ => h.block b hb rfl⟩, hn.ext, hn.cls⟩

theorem row_of_owns {w : World} {base n : Nat} {v : Value} {xs : List Value} (h : w.ownsRow base 3 1 v n xs) : ∃ a c, v = .slice a n c ∧ Row w 3 1 a n c xs ∧ From base a := by
  rcases h.2 with ⟨rfl, rfl⟩ | ⟨g, cap, cur, rfl, hb, r⟩
  · exact ⟨none, 0, rfl, ⟨h.1, .inl ⟨rfl, rfl, rfl⟩⟩, fun g hg => by cases hg⟩
  · exact ⟨_, cap, rfl, ⟨h.1, .inr ⟨g, cur, rfl, r⟩⟩, fun g' hg => by cases hg; exact hb⟩

/-- A copy. -/
theorem clone_c {w : World} {a : Option Addr} {n c : Nat} {xs : List Int} (hN : xs.length = n) (hr : Reads w a xs) (hb : n ≤ LIM) :
    Calls Try.prog 65 #[.slice a n c] w fun e w' => ∃ a' c', e = .returned (.slice a' n c') ∧ Row w' 3 1 a' n c' (xs.map vi) ∧ From w.heap.size a' ∧ Kept w w' := by
  subst hN
  simp only [LIM] at hb
  by_cases hne : xs = []
  · subst hne
    cases a with
    | none => exact (Try.slices_Clone_int_nil 0 c w).mono fun e w' ⟨he, hw⟩ => ⟨none, 0, he, Row.nil _ _ _, (fun g hg => by cases hg), hw ▸ Fr.refl _ _⟩
    | some a =>
      refine (Try.slices_Clone_int_zero a c w).mono fun e w' ⟨v', he, ho, _, hbel⟩ => ?_
      obtain ⟨a', c', rfl, h1, h2⟩ := row_of_owns ho
      exact ⟨a', c', he, h1, h2, Kept.of_below hbel⟩
  · obtain ⟨g, off, rfl, hc⟩ := hr hne
    refine (Try.slices_Clone_int g off xs.length c xs w (Nat.le_refl _) (by omega) (fun j hj => ?_)).mono fun e w' ⟨v', he, ho, _, hbel⟩ => ?_
    · have := hc j xs[j] (List.getElem?_eq_getElem hj)
      simpa [List.getD, List.getElem?_eq_getElem hj] using this
    · obtain ⟨a', c', rfl, h1, h2⟩ := row_of_owns ho
      rw [List.take_length] at h1
      exact ⟨a', c', he, h1, h2, Kept.of_below hbel⟩

/-- What cnf.Clean comes to. -/
def CleanPost (w : World) (r : Option (List Int)) (e : Ending) (w' : World) : Prop :=
  Kept w w' ∧ match r with
    | none => e = .returned (.tuple #[.slice none 0 0, .bool false])
    | some d => ∃ a c, e = .returned (.tuple #[.slice a d.length c, .bool true]) ∧ Row w' 3 1 a d.length c (d.map vi) ∧ From w.heap.size a

def isTaut (d : List Int) (n : Int) : Bool := !(n == 0) && d.contains (-n)
theorem clean_eq (xs : List Int) : Mir.clean xs = if (compact (sorted xs)).any (isTaut (compact (sorted xs))) then none else some (compact (sorted xs)) := rfl

def CleanI (w : World) (d : List Int) (b : Bool) (k : Nat) (v14 : Value) (wr : World) : Prop :=
  ∃ i : Nat, v14 = .int .i64 (i : Nat) ∧ i ≤ d.length ∧ k = d.length - i ∧ wr = w ∧ (d.drop i).any (isTaut d) = b

set_option maxHeartbeats 1000000 in
set_option maxRecDepth 100000 in
theorem clean_c {w : World} {a : Option Addr} {n c : Nat} {xs : List Int} (hN : xs.length = n) (hr : Reads w a xs) (hb : n ≤ LIM) (hok : ∀ x ∈ xs, ok x = true) :
    Calls Try.prog 43 #[.slice a n c] w (CleanPost w (Mir.clean xs)) := by
  rw [clean_eq]
  have hn1 : n < 4611686018427387904 := by simp only [LIM] at hb; omega
  have hd : ∀ x ∈ compact (sorted xs), ok x = true := fun x hx => hok x (Mir.mem_sorted.1 (Mir.mem_compact.1 hx))
  obtain ⟨b, hbq⟩ : ∃ b, (compact (sorted xs)).any (isTaut (compact (sorted xs))) = b := ⟨_, rfl⟩
  rw [hbq]
  obtain ⟨r, hre⟩ : ∃ r, (if b = true then none else some (compact (sorted xs))) = r := ⟨_, rfl⟩
  rw [hre]
  have HRE := Lib.hid hre
  clear hre
  have HBQ := Lib.hid hbq
  have HD := Lib.hid hd
  clear hbq hd hok
  go_enter Try.func43, Try.ntmps43
  go_upto_region 2 with (go_at_call 65; refine (clone_c hN hr hb).mono ?_; rintro e w1 ⟨a1, c1, rfl, hr1, hf1, hk1⟩)
  go_upto_region 3 with (go_at_call 63; refine (sort_c hr1 hn1).mono ?_; rintro e w2 ⟨rfl, hg2, hr2⟩)
  have hk2 := hk1.grown' hg2 hf1
  clear hg2 hk1 hr1
  go_upto_region 4 with (go_at_call 64; refine (compact_c hr2).mono ?_; rintro e w3 ⟨rfl, hg3, hr3⟩)
  have hk3 := hk2.grown' hg3 hf1
  clear hg3 hk2 hr2
  generalize compact (sorted xs) = d at *
  have hlen := hr3.len
  simp only [maxLen] at hlen
  have hlen1 : d.length ≤ 9223372036854775807 := by omega
  have HR := Lib.hid hr3
  have HK := Lib.hid hk3
  have HF := Lib.hid hf1
  clear hlen hr3 hk3 hf1
  go_wp2
  go_loopg [14] d.length (CleanI w3 d b)
  case atStart => exact ⟨0, rfl, Nat.zero_le _, rfl, rfl, by simpa using HBQ.out⟩
  case round =>
    clear HBQ
    obtain ⟨i, rfl, hi, rfl, rfl, hq⟩ := hrel
    by_cases hlt : i < d.length
    · have hlti : (i : Int) < (d.length : Int) := by omega
      rw [List.drop_eq_getElem_cons hlt, List.any_cons] at hq
      have hget : d[i]? = some d[i] := List.getElem?_eq_getElem hlt
      have hokx : ok d[i] = true := HD.out _ (List.getElem_mem hlt)
      generalize d[i] = x at hq hget hokx
      obtain ⟨n0, n1⟩ := ok_spec hokx
      obtain ⟨g, rfl⟩ := HR.out.pos (by omega)
      have cel : wr.cell? ⟨g, i, none⟩ = some (.int .i64 x) := HR.out.cell (by simp [hget])
      have hcon : d.contains (-x) = decide (-x ∈ d) := by rw [Bool.eq_iff_iff]; simp
      have HC : Hid (Calls Try.prog 62 #[.slice (some ⟨g, 0, none⟩) d.length c1, .int .i64 (-x)] wr fun e w' => e = .returned (.bool (decide (-x ∈ d))) ∧ wr = w') := contains_c HR.out (-x)
      clear hget
      by_cases h0 : x = 0
      · subst h0
        have hq' : (d.drop (i + 1)).any (isTaut d) = b := by simpa [isTaut] using hq
        have HQ := Lib.hid hq'
        clear hq hq' hcon
        go_wp2
        go_roundg (d.length - (i + 1))
        case measure => omega
        case rel => exact ⟨i + 1, by go_num, hlt, rfl, rfl, HQ.out⟩
      · have hx0 : (x == 0) = false := by simpa using h0
        have t1 : (x != -x) = true := by simp; omega
        have t2 : (x == -x) = false := by simp; omega
        rw [show isTaut d x = decide (-x ∈ d) by unfold isTaut; rw [hx0, hcon]; rfl] at hq
        by_cases hm : -x ∈ d
        · have hb1 : b = true := by rw [← hq]; simp [hm]
          subst hb1
          have hre := HRE.out
          rw [if_pos rfl] at hre
          subst hre
          have b2 : decide (-x ∈ d) = true := decide_eq_true hm
          have HC2 := HC.out
          rw [b2] at HC2
          clear hq hcon hm b2 h0 hx0 HRE
          go_wp2_with (go_at_call 62; refine HC2.mono ?_; rintro e w' ⟨rfl, rfl⟩)
          go_ret2
          exact ⟨HK.out, rfl⟩
        · have hq' : (d.drop (i + 1)).any (isTaut d) = b := by simpa only [decide_eq_false hm, Bool.false_or] using hq
          have HQ := Lib.hid hq'
          have b2 : decide (-x ∈ d) = false := decide_eq_false hm
          have HC2 := HC.out
          rw [b2] at HC2
          clear hq hq' hcon hm b2 h0 hx0
          go_wp2_with (go_at_call 62; refine HC2.mono ?_; rintro e w' ⟨rfl, rfl⟩)
          go_roundg (d.length - (i + 1))
          case measure => omega
          case rel => exact ⟨i + 1, by go_num, hlt, rfl, rfl, HQ.out⟩
    · have hie : i = d.length := by omega
      subst hie
      rw [List.drop_length] at hq
      have hb1 : b = false := by simpa using hq.symm
      subst hb1
      have hre := HRE.out
      rw [if_neg (by decide)] at hre
      subst hre
      clear hq HRE
      go_wp2
      go_ret2
      exact ⟨HK.out, a1, c1, rfl, HR.out, HF.out⟩

end Go.Proofs.Ytminhlpbdpbolaa
