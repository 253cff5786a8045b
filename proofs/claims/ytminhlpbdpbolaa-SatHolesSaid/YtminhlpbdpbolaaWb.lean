/- The heap of variables: lay, up, down, push, pop. -/
import Derived.Test.YtminhlpbdpbolaaWa
import Derived.Deep.LoopGhost
namespace Go.Proofs.Ytminhlpbdpbolaa
open Go.RowKit Mir

theorem int_of_gi {α : Type} {xs : List α} {i : Int} (h0 : 0 ≤ i) (h1 : i < xs.length) : ∃ x, xs[i.toNat]? = some x :=
  ⟨xs[i.toNat]'(by omega), List.getElem?_eq_getElem _⟩

set_option maxRecDepth 100000 in
theorem lay_raw (w : World) (sb hb pb n cap m capp : Nat) (v i : Int) (x y : Value)
    (h1 : w.cell? ⟨sb, 1, none⟩ = some (.slice (some ⟨hb, 0, none⟩) n cap)) (h2 : w.cell? ⟨sb, 2, none⟩ = some (.slice (some ⟨pb, 0, none⟩) m capp))
    (hv0 : 0 ≤ v) (hv1 : v < m) (hi0 : 0 ≤ i) (hi1 : i < n)
    (hx : w.cell? ⟨hb, i.toNat, none⟩ = some x) (hy : w.cell? ⟨pb, v.toNat, none⟩ = some y)
    (fx : w.frozen? ⟨hb, i.toNat, none⟩ = false) (fy : w.frozen? ⟨pb, v.toNat, none⟩ = false) (hne : hb ≠ pb) (hs1 : hb ≠ sb) :
    Calls Try.prog 67 #[.pointer (some ⟨sb, 0, none⟩), .int .i64 v, .int .i64 i] w fun e w' => e = .returned (.tuple #[]) ∧ w'.Alike ((w.setCell ⟨hb, i.toNat, none⟩ (.int .i64 v)).setCell ⟨pb, v.toNat, none⟩ (.int .i64 i)) := by
  have g1 : (w.setCell ⟨hb, i.toNat, none⟩ (.int .i64 v)).cell? ⟨pb, v.toNat, none⟩ = some y := by
    rw [World.cell?_setCell_other _ _ _ _ (by simp [hne])]; exact hy
  have g2 : (w.setCell ⟨hb, i.toNat, none⟩ (.int .i64 v)).cell? ⟨sb, 2, none⟩ = some (.slice (some ⟨pb, 0, none⟩) m capp) := by
    rw [World.cell?_setCell_other _ _ _ _ (by simp [hs1])]; exact h2
  go_enter Try.func67, Try.ntmps67
  go_wp2
  go_region
  all_goals (go_end0; exact ⟨rfl, rfl, rfl, rfl⟩)

theorem Next.alike {w w' w1 : World} {L L' : Lay} {M M' : St} (h : Next w L M w' L' M') (a : w1.Alike w') : Next w L M w1 L' M' :=
  ⟨h.rep.of_heap a.1, h.fr.alike a, h.ext, h.cls⟩

theorem lay_c {w : World} {L : Lay} {M M1 : St} (h : Rep w L M) {sb : Nat} (hs : L.sb = sb) {v i : Int} (hx : Mir.lay M v i = some M1) :
    Calls Try.prog 67 #[.pointer (some ⟨sb, 0, none⟩), .int .i64 v, .int .i64 i] w fun e w' => e = .returned (.tuple #[]) ∧ Next w L M w' L M1 := by
  subst hs
  unfold Mir.lay at hx
  split at hx
  case isFalse => cases hx
  rename_i hc
  obtain ⟨i0, i1, v0, v1⟩ := hc
  cases hx
  obtain ⟨x, hx⟩ := gi_lt i0 i1
  obtain ⟨y, hy⟩ := gi_lt v0 v1
  obtain ⟨g, hg, rg, c1, f1⟩ := h.num .heap rfl rfl rfl hx
  obtain ⟨g', hg', rg', c2, f2⟩ := h.num .place rfl rfl rfl hy
  have s1 := h.at 1 rfl
  have s2 := h.at 2 rfl
  simp only [hdv, hg] at s1
  simp only [hdv, hg'] at s2
  refine (lay_raw w L.sb g g' _ _ _ _ v i _ _ s1 s2 v0 v1 i0 i1 c1 c2 (f1 _) (f2 _) (role_ne rg rg' (by simp)) (role_ne rg h.rslv (by simp))).mono ?_
  rintro e w' ⟨rfl, ha⟩
  refine ⟨rfl, Next.alike ?_ ha⟩
  have r1 := h.setNum .heap rfl hg i v i0 i1
  have r2 := r1.setNum .place rfl hg' v i v0 v1
  exact ⟨r2, ((Fr.refl _ _).setCell (fun _ => by simp [rg]) _).setCell (fun _ => by simp [rg']) _, Ext.refl _ _ _, Nat.le_refl _⟩


def UpI (w : World) (L : Lay) (M : St) (v : Int) (Mf : St) (k : Nat) (iv : Value) (wr : World) : Prop :=
  ∃ M1 i, iv = .int .i64 i ∧ Next w L M wr L M1 ∧ upL k M1 v i = some Mf ∧ i < 9223372036854775808

theorem up_c {w : World} {L : Lay} {M Mf : St} (h : Rep w L M) {sb : Nat} (hs : L.sb = sb) {i : Int} (hx : Mir.up M i = some Mf) (hi : i < 9223372036854775808) :
    Calls Try.prog 68 #[.pointer (some ⟨sb, 0, none⟩), .int .i64 i] w fun e w' => e = .returned (.tuple #[]) ∧ Next w L M w' L Mf := by
  subst hs
  simp only [Mir.up, Option.bind_eq_bind, Option.bind_eq_some_iff] at hx
  obtain ⟨v, hv, hx⟩ := hx
  obtain ⟨i0, i1, _⟩ := gi_spec hv
  obtain ⟨g, hg, rg, c1, f1⟩ := h.num .heap rfl rfl rfl hv
  have s1 := h.at 1 rfl
  simp only [hdv, hg] at s1
  have hl := h.len .heap
  simp only [lenOf, maxLen] at hl
  go_enter Try.func68, Try.ntmps68
  go_wp2
  go_loopg [1] (i.toNat + 1) (UpI w L M v Mf)
  case atStart => exact ⟨M, i, rfl, Next.refl h, hx, hi⟩
  case round =>
    obtain ⟨M1, j, rfl, hn, hu, hj⟩ := hrel
    cases gk with
    | zero => cases hu
    | succ k =>
      unfold upL at hu
      have hr := hn.rep
      by_cases h0 : 0 < j
      · rw [if_pos h0] at hu
        simp only [Option.bind_eq_bind, Option.bind_eq_some_iff] at hu
        obtain ⟨p, hp, b, hb, hu⟩ := hu
        obtain ⟨j0, j1, _⟩ := gi_spec hp
        obtain ⟨g', hg', rg', c1', f1'⟩ := hr.num .heap rfl rfl rfl hp
        have s1' := hr.at 1 rfl
        simp only [hdv, hg'] at s1'
        cases b with
        | true =>
          simp only [if_true, Option.bind_eq_some_iff] at hu
          obtain ⟨M2, hl2, hu⟩ := hu
          have HU := Lib.hid hu
          clear hu hl hg hg' hp
          go_wp2_with (first | (go_at_call 75; refine (ahead_c hr rfl hb).mono ?_; rintro e w' ⟨rfl, d, rfl⟩) | (go_at_call 67; refine (lay_c (hr.drewN _) rfl hl2).mono ?_; rintro e w' ⟨rfl, hn2⟩))
          go_roundg k
          case measure => omega
          case rel => exact ⟨M2, _, rfl, hn.trans hn2.from_drewN, HU.out, by omega⟩
        | false =>
          simp only [Bool.false_eq_true, if_false] at hu
          clear hl hg hg' hp
          go_wp2_with (first | (go_at_call 75; refine (ahead_c hr rfl hb).mono ?_; rintro e w' ⟨rfl, d, rfl⟩) | (go_at_call 67; refine (lay_c (hr.drewN _) rfl hu).mono ?_; rintro e w' ⟨rfl, hn2⟩))
          go_end0
          exact ⟨rfl, hn.trans hn2.from_drewN⟩
      · rw [if_neg h0] at hu
        clear hl hg
        go_wp2_with (go_at_call 67; refine (lay_c hr rfl hu).mono ?_; rintro e w' ⟨rfl, hn2⟩)
        go_end0
        exact ⟨rfl, hn.trans hn2⟩


theorem lay_len {M M1 : St} {v i : Int} (h : Mir.lay M v i = some M1) : M1.heap.length = M.heap.length := by
  unfold Mir.lay at h
  split at h
  · cases h; simp
  · cases h

def DownI (w : World) (L : Lay) (M : St) (v : Int) (Mf : St) (k : Nat) (iv kv : Value) (wr : World) : Prop :=
  ∃ M1 i, iv = .int .i64 i ∧ kv = .int .i64 (2 * i + 1) ∧ Next w L M wr L M1 ∧ downL k M1 v i = some Mf ∧ 0 ≤ i ∧ i ≤ 1099511627776 ∧ M1.heap.length ≤ 1099511627776

set_option maxHeartbeats 1000000 in
set_option maxRecDepth 100000 in
theorem down_c {w : World} {L : Lay} {M Mf : St} (h : Rep w L M) {sb : Nat} (hs : L.sb = sb) {i : Int} (hx : Mir.down M i = some Mf) :
    Calls Try.prog 78 #[.pointer (some ⟨sb, 0, none⟩), .int .i64 i] w fun e w' => e = .returned (.tuple #[]) ∧ Next w L M w' L Mf := by
  subst hs
  unfold Mir.down at hx
  split at hx
  case isFalse => cases hx
  rename_i hlim
  simp only [Option.bind_eq_bind, Option.bind_eq_some_iff] at hx
  obtain ⟨v, hv, hx⟩ := hx
  obtain ⟨i0, i1, _⟩ := gi_spec hv
  obtain ⟨g, hg, rg, c1, f1⟩ := h.num .heap rfl rfl rfl hv
  have s1 := h.at 1 rfl
  simp only [hdv, hg] at s1
  simp only [LIM] at hlim
  have HX := Lib.hid hx
  clear hx hg
  go_enter Try.func78, Try.ntmps78
  go_wp2
  go_loopg [1, 5] (M.heap.length + 1) (DownI w L M v Mf)
  case atStart => exact ⟨M, i, rfl, rfl, Next.refl h, HX.out, i0, by omega, hlim⟩
  case round =>
    obtain ⟨M1, j, rfl, rfl, hn, hu, j0, j1, hlim1⟩ := hrel
    clear hlim HX
    cases gk with
    | zero => cases hu
    | succ k =>
      unfold downL at hu
      have hr := hn.rep
      by_cases h0 : 2 * j + 1 < M1.heap.length
      · rw [if_pos h0] at hu
        simp only [Option.bind_eq_bind, Option.bind_eq_some_iff] at hu
        obtain ⟨c, hc, x, hx1, b2, hb2, hu⟩ := hu
        obtain ⟨y, hy⟩ := gi_lt (xs := M1.heap) (i := 2 * j + 1) (by omega) h0
        obtain ⟨g', hg', rg', c2, f2⟩ := hr.num .heap rfl rfl rfl hy
        obtain ⟨g1, hg1, _, c3, _⟩ := hr.num .heap rfl rfl rfl hx1
        obtain rfl : g1 = g' := by rw [hg'] at hg1; simpa using hg1.symm
        have s1' := hr.at 1 rfl
        simp only [hdv, hg'] at s1'
        obtain ⟨k0, k1, _⟩ := gi_spec hx1
        unfold lesser at hc
        by_cases h2 : 2 * j + 1 + 1 < M1.heap.length
        · rw [if_pos h2] at hc
          simp only [Option.bind_eq_bind, Option.bind_eq_some_iff, Option.pure_def, Option.some.injEq] at hc
          obtain ⟨z, hz, y', hy', b, hb, hc⟩ := hc
          obtain rfl : y = y' := by rw [hy] at hy'; simpa using hy'
          obtain ⟨g2, hg2, _, c4, _⟩ := hr.num .heap rfl rfl rfl hz
          obtain rfl : g2 = g1 := by rw [hg1] at hg2; simpa using hg2.symm
          have hd : decide (2 * j + 1 + 1 < (M1.heap.length : Int)) = true := by simpa using h2
          cases b with
          | true =>
            simp only [if_true] at hc
            subst hc
            obtain rfl : z = x := by rw [hx1] at hz; simpa using hz.symm
            clear hg' hg2 hg1 hy' hy hz hx1 c3
            cases b2 with
            | true =>
              simp only [if_true, Option.bind_eq_some_iff] at hu
              obtain ⟨M2, hl2, hu⟩ := hu
              have HU := Lib.hid hu
              have HL := Lib.hid (lay_len hl2)
              clear hu
              go_wp2
              go_quiet ((go_at_call 75; exact Calls.quiet_of (ahead_c (hr.drewN _) rfl hb)))
              go_wp2_with (first | (go_at_call 75; refine (ahead_c (hr.drewN _) rfl hb2).mono ?_; rintro e w' ⟨rfl, d, rfl⟩) | (go_at_call 67; refine (lay_c (hr.drewN _) rfl hl2).mono ?_; rintro e w' ⟨rfl, hn2⟩))
              go_roundg k
              case measure => omega
              case rel => exact ⟨M2, _, rfl, by go_num, hn.trans hn2.from_drewN, HU.out, by omega, by have := HL.out; omega, by have := HL.out; omega⟩
            | false =>
              simp only [Bool.false_eq_true, if_false] at hu
              go_wp2
              go_quiet ((go_at_call 75; exact Calls.quiet_of (ahead_c (hr.drewN _) rfl hb)))
              go_wp2_with (first | (go_at_call 75; refine (ahead_c (hr.drewN _) rfl hb2).mono ?_; rintro e w' ⟨rfl, d, rfl⟩) | (go_at_call 67; refine (lay_c (hr.drewN _) rfl hu).mono ?_; rintro e w' ⟨rfl, hn2⟩))
              go_end0
              exact ⟨rfl, hn.trans hn2.from_drewN⟩
          | false =>
            simp only [Bool.false_eq_true, if_false] at hc
            subst hc
            obtain rfl : y = x := by rw [hx1] at hy; simpa using hy.symm
            clear hg' hg2 hg1 hy' hy hz hx1 c3
            cases b2 with
            | true =>
              simp only [if_true, Option.bind_eq_some_iff] at hu
              obtain ⟨M2, hl2, hu⟩ := hu
              have HU := Lib.hid hu
              have HL := Lib.hid (lay_len hl2)
              clear hu
              go_wp2
              go_quiet ((go_at_call 75; exact Calls.quiet_of (ahead_c (hr.drewN _) rfl hb)))
              go_wp2_with (first | (go_at_call 75; refine (ahead_c (hr.drewN _) rfl hb2).mono ?_; rintro e w' ⟨rfl, d, rfl⟩) | (go_at_call 67; refine (lay_c (hr.drewN _) rfl hl2).mono ?_; rintro e w' ⟨rfl, hn2⟩))
              go_roundg k
              case measure => omega
              case rel => exact ⟨M2, _, rfl, by go_num, hn.trans hn2.from_drewN, HU.out, by omega, by have := HL.out; omega, by have := HL.out; omega⟩
            | false =>
              simp only [Bool.false_eq_true, if_false] at hu
              go_wp2
              go_quiet ((go_at_call 75; exact Calls.quiet_of (ahead_c (hr.drewN _) rfl hb)))
              go_wp2_with (first | (go_at_call 75; refine (ahead_c (hr.drewN _) rfl hb2).mono ?_; rintro e w' ⟨rfl, d, rfl⟩) | (go_at_call 67; refine (lay_c (hr.drewN _) rfl hu).mono ?_; rintro e w' ⟨rfl, hn2⟩))
              go_end0
              exact ⟨rfl, hn.trans hn2.from_drewN⟩
        · rw [if_neg h2] at hc
          simp only [Option.some.injEq] at hc
          subst hc
          obtain rfl : y = x := by rw [hx1] at hy; simpa using hy.symm
          have hd : decide (2 * j + 1 + 1 < (M1.heap.length : Int)) = false := by simpa using h2
          clear hg' hg1 hy hx1 c3
          cases b2 with
          | true =>
            simp only [if_true, Option.bind_eq_some_iff] at hu
            obtain ⟨M2, hl2, hu⟩ := hu
            have HU := Lib.hid hu
            have HL := Lib.hid (lay_len hl2)
            clear hu
            go_wp2
            go_quiet (fail)
            go_wp2_with (first | (go_at_call 75; refine (ahead_c (hr.drewN _) rfl hb2).mono ?_; rintro e w' ⟨rfl, d, rfl⟩) | (go_at_call 67; refine (lay_c (hr.drewN _) rfl hl2).mono ?_; rintro e w' ⟨rfl, hn2⟩))
            go_roundg k
            case measure => omega
            case rel => exact ⟨M2, _, rfl, by go_num, hn.trans hn2.from_drewN, HU.out, by omega, by have := HL.out; omega, by have := HL.out; omega⟩
          | false =>
            simp only [Bool.false_eq_true, if_false] at hu
            go_wp2
            go_quiet (fail)
            go_wp2_with (first | (go_at_call 75; refine (ahead_c (hr.drewN _) rfl hb2).mono ?_; rintro e w' ⟨rfl, d, rfl⟩) | (go_at_call 67; refine (lay_c (hr.drewN _) rfl hu).mono ?_; rintro e w' ⟨rfl, hn2⟩))
            go_end0
            exact ⟨rfl, hn.trans hn2.from_drewN⟩
      · rw [if_neg h0] at hu
        have s1' := hr.at 1 rfl
        simp only [hdv] at s1'
        go_wp2_with (go_at_call 67; refine (lay_c hr rfl hu).mono ?_; rintro e w' ⟨rfl, hn2⟩)
        go_end0
        exact ⟨rfl, hn.trans hn2⟩

end Go.Proofs.Ytminhlpbdpbolaa
