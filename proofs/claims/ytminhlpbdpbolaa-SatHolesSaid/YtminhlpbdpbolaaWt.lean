/- The closures of Add, and the library's functions that call them. -/
import Derived.Test.YtminhlpbdpbolaaWs
import Derived.Test.YtminhlpbdpbolaaWo
import Derived.Lib.SliceRun
namespace Go.Proofs.Ytminhlpbdpbolaa
open Go.RowKit Mir

/-- The first place of a literal with some value, or -1. -/
def firstVal (M : St) (t : Int) : List Int → Int → Option Int
  | [], _ => some (-1)
  | x :: r, i => (value M x).bind fun v => if v = t then some i else firstVal M t r (i + 1)

def FirstI (w : World) (M : St) (t : Int) (xs : List Int) (r : Int) (k : Nat) (v8 : Value) (wr : World) : Prop :=
  ∃ i d : Nat, v8 = .int .i64 (i : Nat) ∧ i ≤ xs.length ∧ k = xs.length - i ∧ wr = w.drewN d ∧ firstVal M t (xs.drop i) i = some r

theorem drewN_drewN (w : World) (a b : Nat) : (w.drewN a).drewN b = w.drewN (a + b) := by
  show ({ w with drawn := (w.drawn + a) + b } : World) = { w with drawn := w.drawn + (a + b) }
  rw [Nat.add_assoc]

set_option maxHeartbeats 400000 in
theorem val1_c {w : World} {L : Lay} {M : St} (h : Rep w L M) {sb : Nat} (hs : L.sb = sb) {bb : Nat} (hbox : w.cell? ⟨bb, 0, none⟩ = some (.pointer (some ⟨sb, 0, none⟩))) {x v : Int} (hv : value M x = some v) :
    Calls Try.prog 45 #[.int .i64 x, .pointer (some ⟨bb, 0, none⟩)] w fun e w' => e = .returned (.bool (v == 1)) ∧ ∃ d, w.drewN d = w' := by
  have HV := Lib.hid hv
  clear hv
  go_enter Try.func45, Try.ntmps45
  go_wp2_with (go_at_call 46; refine (value_c h hs HV.out).mono ?_; rintro e w' ⟨rfl, d, rfl⟩)
  go_ret
  exact ⟨rfl, d, rfl⟩

set_option maxHeartbeats 1000000 in
theorem index1_c {w : World} {L : Lay} {M : St} (h : Rep w L M) {sb : Nat} (hs : L.sb = sb) {bb : Nat} (hbox : w.cell? ⟨bb, 0, none⟩ = some (.pointer (some ⟨sb, 0, none⟩))) {a : Option Addr} {n c : Nat} {xs : List Int} (hN : xs.length = n) (hc : Reads w a xs) (hb : n ≤ 9223372036854775807) {r : Int} (hr : firstVal M 1 xs 0 = some r) :
    Calls Try.prog 66 #[.slice a n c, .func (.func 45) #[] #[.pointer (some ⟨bb, 0, none⟩)]] w fun e w' => e = .returned (.int .i64 r) ∧ ∃ d, w.drewN d = w' := by
  subst hN
  have HC := Lib.hid hc
  have HBOX := Lib.hid hbox
  clear hc hbox
  go_enter Try.func66, Try.ntmps66
  go_wp2
  go_loopg [8] xs.length (FirstI w M 1 xs r)
  case atStart => exact ⟨0, 0, rfl, Nat.zero_le _, rfl, rfl, by simpa using hr⟩
  case round =>
    clear hr
    obtain ⟨i, d, rfl, hi, rfl, hwr, hf⟩ := hrel
    by_cases hlt : i < xs.length
    · rw [List.drop_eq_getElem_cons hlt] at hf
      have hget : xs[i]? = some xs[i] := List.getElem?_eq_getElem hlt
      generalize xs[i] = x at hf hget
      obtain ⟨g, off, hg, hcel⟩ := HC.out (by intro q; rw [q] at hget; cases hget)
      subst hg
      have hcel2 : wr.cell? ⟨g, off + i, none⟩ = some (.int .i64 x) := by rw [hwr]; exact hcel i x hget
      have hlti : (i : Int) < (xs.length : Int) := by omega
      unfold firstVal at hf
      simp only [Option.bind_eq_some_iff] at hf
      obtain ⟨v, hv, hf⟩ := hf
      have hrep : Rep wr L M := by rw [hwr]; exact h.drewN d
      have hbx : wr.cell? ⟨bb, 0, none⟩ = some (.pointer (some ⟨sb, 0, none⟩)) := by rw [hwr]; exact HBOX.out
      have HV := Lib.hid hv
      have HW := Lib.hid hwr
      clear hget hv hcel hwr
      by_cases hx : v = 1
      · rw [if_pos hx] at hf
        simp only [Option.some.injEq] at hf
        subst hf
        have b1 : (v == 1) = true := by simpa using hx
        have hcall : Calls Try.prog 45 #[.int .i64 x, .pointer (some ⟨bb, 0, none⟩)] wr fun e w' => e = .returned (.bool true) ∧ ∃ d, wr.drewN d = w' := b1 ▸ val1_c hrep hs hbx HV.out
        clear hx b1
        go_wp2_with (go_at_call 45; refine hcall.mono ?_; rintro e w' ⟨rfl, d2, rfl⟩)
        go_ret
        exact ⟨rfl, d + d2, by rw [HW.out, drewN_drewN]⟩
      · rw [if_neg hx] at hf
        have b1 : (v == 1) = false := by simpa using hx
        have hcall : Calls Try.prog 45 #[.int .i64 x, .pointer (some ⟨bb, 0, none⟩)] wr fun e w' => e = .returned (.bool false) ∧ ∃ d, wr.drewN d = w' := b1 ▸ val1_c hrep hs hbx HV.out
        have HF := Lib.hid hf
        clear hx b1 hf
        go_wp2_with (go_at_call 45; refine hcall.mono ?_; rintro e w' ⟨rfl, d2, rfl⟩)
        go_roundg (xs.length - (i + 1))
        case measure => omega
        case rel => exact ⟨i + 1, d + d2, by go_num, hlt, rfl, by rw [HW.out, drewN_drewN], HF.out⟩
    · have hie : i = xs.length := by omega
      subst hie
      rw [List.drop_length] at hf
      simp only [firstVal, Option.some.injEq] at hf
      subst hf
      have HW := Lib.hid hwr
      clear hwr
      go_wp2
      go_ret
      exact ⟨rfl, d, HW.out.symm⟩

set_option maxHeartbeats 400000 in
theorem val2_c {w : World} {L : Lay} {M : St} (h : Rep w L M) {sb : Nat} (hs : L.sb = sb) {bb : Nat} (hbox : w.cell? ⟨bb, 0, none⟩ = some (.pointer (some ⟨sb, 0, none⟩))) {x v : Int} (hv : value M x = some v) :
    Calls Try.prog 48 #[.int .i64 x, .pointer (some ⟨bb, 0, none⟩)] w fun e w' => e = .returned (.bool (v == (-1))) ∧ ∃ d, w.drewN d = w' := by
  have HV := Lib.hid hv
  clear hv
  go_enter Try.func48, Try.ntmps48
  go_wp2_with (go_at_call 46; refine (value_c h hs HV.out).mono ?_; rintro e w' ⟨rfl, d, rfl⟩)
  go_ret
  exact ⟨rfl, d, rfl⟩

set_option maxHeartbeats 1000000 in
theorem index2_c {w : World} {L : Lay} {M : St} (h : Rep w L M) {sb : Nat} (hs : L.sb = sb) {bb : Nat} (hbox : w.cell? ⟨bb, 0, none⟩ = some (.pointer (some ⟨sb, 0, none⟩))) {a : Option Addr} {n c : Nat} {xs : List Int} (hN : xs.length = n) (hc : Reads w a xs) (hb : n ≤ 9223372036854775807) {r : Int} (hr : firstVal M (-1) xs 0 = some r) :
    Calls Try.prog 66 #[.slice a n c, .func (.func 48) #[] #[.pointer (some ⟨bb, 0, none⟩)]] w fun e w' => e = .returned (.int .i64 r) ∧ ∃ d, w.drewN d = w' := by
  subst hN
  have HC := Lib.hid hc
  have HBOX := Lib.hid hbox
  clear hc hbox
  go_enter Try.func66, Try.ntmps66
  go_wp2
  go_loopg [8] xs.length (FirstI w M (-1) xs r)
  case atStart => exact ⟨0, 0, rfl, Nat.zero_le _, rfl, rfl, by simpa using hr⟩
  case round =>
    clear hr
    obtain ⟨i, d, rfl, hi, rfl, hwr, hf⟩ := hrel
    by_cases hlt : i < xs.length
    · rw [List.drop_eq_getElem_cons hlt] at hf
      have hget : xs[i]? = some xs[i] := List.getElem?_eq_getElem hlt
      generalize xs[i] = x at hf hget
      obtain ⟨g, off, hg, hcel⟩ := HC.out (by intro q; rw [q] at hget; cases hget)
      subst hg
      have hcel2 : wr.cell? ⟨g, off + i, none⟩ = some (.int .i64 x) := by rw [hwr]; exact hcel i x hget
      have hlti : (i : Int) < (xs.length : Int) := by omega
      unfold firstVal at hf
      simp only [Option.bind_eq_some_iff] at hf
      obtain ⟨v, hv, hf⟩ := hf
      have hrep : Rep wr L M := by rw [hwr]; exact h.drewN d
      have hbx : wr.cell? ⟨bb, 0, none⟩ = some (.pointer (some ⟨sb, 0, none⟩)) := by rw [hwr]; exact HBOX.out
      have HV := Lib.hid hv
      have HW := Lib.hid hwr
      clear hget hv hcel hwr
      by_cases hx : v = (-1)
      · rw [if_pos hx] at hf
        simp only [Option.some.injEq] at hf
        subst hf
        have b1 : (v == (-1)) = true := by simpa using hx
        have hcall : Calls Try.prog 48 #[.int .i64 x, .pointer (some ⟨bb, 0, none⟩)] wr fun e w' => e = .returned (.bool true) ∧ ∃ d, wr.drewN d = w' := b1 ▸ val2_c hrep hs hbx HV.out
        clear hx b1
        go_wp2_with (go_at_call 48; refine hcall.mono ?_; rintro e w' ⟨rfl, d2, rfl⟩)
        go_ret
        exact ⟨rfl, d + d2, by rw [HW.out, drewN_drewN]⟩
      · rw [if_neg hx] at hf
        have b1 : (v == (-1)) = false := by simpa using hx
        have hcall : Calls Try.prog 48 #[.int .i64 x, .pointer (some ⟨bb, 0, none⟩)] wr fun e w' => e = .returned (.bool false) ∧ ∃ d, wr.drewN d = w' := b1 ▸ val2_c hrep hs hbx HV.out
        have HF := Lib.hid hf
        clear hx b1 hf
        go_wp2_with (go_at_call 48; refine hcall.mono ?_; rintro e w' ⟨rfl, d2, rfl⟩)
        go_roundg (xs.length - (i + 1))
        case measure => omega
        case rel => exact ⟨i + 1, d + d2, by go_num, hlt, rfl, by rw [HW.out, drewN_drewN], HF.out⟩
    · have hie : i = xs.length := by omega
      subst hie
      rw [List.drop_length] at hf
      simp only [firstVal, Option.some.injEq] at hf
      subst hf
      have HW := Lib.hid hwr
      clear hwr
      go_wp2
      go_ret
      exact ⟨rfl, d, HW.out.symm⟩

theorem firstVal_any (M : St) (l : List Int) (i : Int) (h : 0 ≤ i) {b : Bool} (hb : anyTrue M l = some b) : ∃ r, firstVal M 1 l i = some r ∧ decide (0 ≤ r) = b := by
  induction l generalizing i with
  | nil => simp only [anyTrue, Option.some.injEq] at hb; subst hb; exact ⟨-1, rfl, rfl⟩
  | cons x l ih =>
    simp only [anyTrue, Option.bind_eq_bind, Option.bind_eq_some_iff] at hb
    obtain ⟨v, hv, hb⟩ := hb
    by_cases hx : v = 1
    · rw [if_pos hx] at hb
      simp only [Option.pure_def, Option.some.injEq] at hb
      subst hb
      exact ⟨i, by simp [firstVal, hv, hx], by simpa using h⟩
    · rw [if_neg hx] at hb
      obtain ⟨r, h1, h2⟩ := ih (i + 1) (by omega) hb
      exact ⟨r, by simp [firstVal, hv, hx, h1], h2⟩

set_option maxHeartbeats 400000 in
theorem any_c {w : World} {L : Lay} {M : St} (h : Rep w L M) {sb : Nat} (hs : L.sb = sb) {bb : Nat} (hbox : w.cell? ⟨bb, 0, none⟩ = some (.pointer (some ⟨sb, 0, none⟩))) {a : Option Addr} {n c : Nat} {xs : List Int} (hN : xs.length = n) (hc : Reads w a xs) (hb : n ≤ 9223372036854775807) {b : Bool} (hr : anyTrue M xs = some b) :
    Calls Try.prog 44 #[.slice a n c, .func (.func 45) #[] #[.pointer (some ⟨bb, 0, none⟩)]] w fun e w' => e = .returned (.bool b) ∧ ∃ d, w.drewN d = w' := by
  obtain ⟨r, h1, h2⟩ := firstVal_any M xs 0 (Int.le_refl _) hr
  have H2 := Lib.hid h2
  have HX := Lib.hid (index1_c (c := c) h hs hbox hN hc hb h1)
  clear h2 h1 hr hc hbox
  go_enter Try.func44, Try.ntmps44
  go_wp2_with (go_at_call 66; refine HX.out.mono ?_; rintro e w' ⟨rfl, d, rfl⟩)
  go_ret
  exact ⟨ret_b H2.out, d, rfl⟩

end Go.Proofs.Ytminhlpbdpbolaa
