/- The small functions of package sat that only read. -/
import Derived.Test.YtminhlpbdpbolaaApp
import Derived.BigRegion
import Derived.BigQuiet
import Derived.Deep.QuietTactic
import Derived.Lib.Hide
namespace Go.Proofs.Ytminhlpbdpbolaa
open Go.RowKit Mir

theorem ret_int {k : IntKind} {a b : Int} (h : a = b) : Ending.returned (.int k a) = .returned (.int k b) := by rw [h]
theorem ret_bool {a b : Bool} (h : a = b) : Ending.returned (.bool a) = .returned (.bool b) := by rw [h]
theorem ok_spec {n : Int} (h : ok n = true) : -1048576 ≤ n ∧ n ≤ 1048576 := by simpa [ok] using h
theorem of_bd {n : Int} (h : ok n = true) : 0 ≤ of n ∧ of n ≤ 1048576 := by have := ok_spec h; unfold of; omega

theorem quiet_eq {P : Program} {f : FuncId} {args : Array Value} {w : World} {n : Nat} {v : Value}
    (h : Calls P f args (w.drewN n) fun e w' => e = .returned v ∧ w.drewN n = w') : Calls P f args (w.drewN n) fun e w'' => e = .returned v ∧ ∃ m, w'' = w.drewN m :=
  h.mono fun _ _ ⟨he, hm⟩ => ⟨he, n, hm.symm⟩

theorem of_c (n : Int) (w : World) (h0 : -1048576 ≤ n) (h1 : n ≤ 1048576) : Calls Try.prog 53 #[.int .i64 n] w fun e w' => e = .returned (vi (of n)) ∧ w = w' := by
  go_enter Try.func53, Try.ntmps53
  go_wp2
  all_goals
    go_ret
    exact ⟨ret_int (by unfold of; omega), rfl⟩

theorem level_c {w : World} {L : Lay} {M : St} (h : Rep w L M) {sb : Nat} (hs : L.sb = sb) : Calls Try.prog 31 #[.pointer (some ⟨sb, 0, none⟩)] w fun e w' => e = .returned (vi M.level) ∧ w = w' := by
  subst hs
  have c6 := h.at 6 rfl
  have hl : M.limits.length ≤ maxLen := Nat.le_trans (h.len .limits).1 (h.len .limits).2
  simp only [hdv] at c6
  unfold maxLen at hl
  go_enter Try.func31, Try.ntmps31
  go_wp2
  go_ret
  exact ⟨rfl, rfl⟩


theorem value_c {w : World} {L : Lay} {M : St} (h : Rep w L M) {sb : Nat} (hs : L.sb = sb) {n x : Int} (hx : value M n = some x) :
    Calls Try.prog 46 #[.pointer (some ⟨sb, 0, none⟩), .int .i64 n] w fun e w' => e = .returned (vi x) ∧ ∃ d, w' = w.drewN d := by
  subst hs
  unfold value at hx
  split at hx
  case isFalse => cases hx
  rename_i hn
  obtain ⟨n0, n1⟩ := ok_spec hn
  obtain ⟨o0, o1⟩ := of_bd hn
  simp only [Option.map_eq_some_iff] at hx
  obtain ⟨f, hf, hx⟩ := hx
  obtain ⟨i0, i1, i2⟩ := gi_spec hf
  obtain ⟨g, hg, _, hc, _⟩ := h.var hf
  have c0 := h.at 0 rfl
  simp only [hdv, hg] at c0
  have c1 : w.cell? ⟨g, (of n).toNat * 5, none⟩ = some (.int .i64 f.lit) := hc 0 _ rfl
  have HX := Lib.hid hx
  clear hx hf hg hc hn i2
  go_enter Try.func46, Try.ntmps46
  go_wp2
  go_quiet ((go_at_call 53; exact quiet_eq (of_c _ _ (by omega) (by omega))))
  go_wp2
  all_goals
    go_ret
    refine ⟨ret_int ?_, _, rfl⟩
    rw [← HX.out]
    simp_all only [beq_iff_eq, beq_eq_false_iff_ne, ne_eq, not_false_eq_true, if_true, if_false, ite_true, ite_false]

theorem ahead_c {w : World} {L : Lay} {M : St} (h : Rep w L M) {sb : Nat} (hs : L.sb = sb) {u v : Int} {x : Bool} (hx : Mir.ahead M u v = some x) :
    Calls Try.prog 75 #[.pointer (some ⟨sb, 0, none⟩), .int .i64 u, .int .i64 v] w fun e w' => e = .returned (.bool x) ∧ ∃ d, w' = w.drewN d := by
  subst hs
  simp only [Mir.ahead, Option.bind_eq_bind, Option.bind_eq_some_iff, Option.pure_def, Option.some.injEq] at hx
  obtain ⟨f, hf, k, hk, hx⟩ := hx
  obtain ⟨i0, i1, i2⟩ := gi_spec hf
  obtain ⟨j0, j1, j2⟩ := gi_spec hk
  obtain ⟨g, hg, _, hc, _⟩ := h.var hf
  obtain ⟨g', hg', _, hd, _⟩ := h.var hk
  rw [hg] at hg'
  simp only [Option.some.injEq, Addr.mk.injEq, and_true] at hg'
  subst hg'
  have c0 := h.at 0 rfl
  simp only [hdv, hg] at c0
  have c1 : w.cell? ⟨g, u.toNat * 5 + 3, none⟩ = some (.int .i64 f.score) := hc 3 _ rfl
  have c2 : w.cell? ⟨g, v.toNat * 5 + 3, none⟩ = some (.int .i64 k.score) := hd 3 _ rfl
  have HX := Lib.hid hx
  clear hx hf hg hc hk hd i2 j2
  go_enter Try.func75, Try.ntmps75
  go_wp2
  go_quiet (fail)
  go_wp2
  · go_quiet (fail)
    go_wp2
    go_ret
    refine ⟨ret_bool ?_, _, World.drewN_drewN _ _ _⟩
    rw [← HX.out, if_neg (by simp_all)]
  · go_ret
    refine ⟨ret_bool ?_, _, rfl⟩
    rw [← HX.out, if_pos (by simp_all)]

end Go.Proofs.Ytminhlpbdpbolaa
