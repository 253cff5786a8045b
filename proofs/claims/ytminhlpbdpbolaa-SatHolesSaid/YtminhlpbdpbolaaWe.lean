/- A literal made true; all taken back; variables added. -/
import Derived.Test.YtminhlpbdpbolaaWd
namespace Go.Proofs.Ytminhlpbdpbolaa
open Go.RowKit Mir

theorem level_q {w : World} {L : Lay} {M : St} (h : Rep w L M) {sb : Nat} (hs : L.sb = sb) : Calls Try.prog 31 #[.pointer (some ⟨sb, 0, none⟩)] w fun e w' => e = .returned (.int .i64 M.limits.length) ∧ w = w' := level_c h hs

theorem set_var4 {w : World} {L : Lay} {M : St} (h : Rep w L M) {g : Nat} (hg : (L.hd .vars).a = some ⟨g, 0, none⟩) (v n lv : Int) (f : Fact) (hf : gi M.vars v = some f) (why : Option Nat) (hw : ∀ r, why = some r → r < M.cls.length) :
    Rep ((((w.setCell ⟨g, v.toNat * 5, none⟩ (.int .i64 n)).setCell ⟨g, v.toNat * 5 + 1, none⟩ (.int .i64 lv)).setCell ⟨g, v.toNat * 5 + 2, none⟩ (ptrO L.cb why)).setCell ⟨g, v.toNat * 5 + 4, none⟩ (.int .i64 n)) L
      { M with vars := M.vars.set v.toNat { f with lit := n, level := lv, reason := why, phase := n } } := by
  obtain ⟨h0, h1, h2⟩ := gi_spec hf
  have hin := h.ids.1 f (List.mem_of_getElem? h2)
  have key : ∀ (M1 : St) (x : Fact), gi (M1.vars.set v.toNat x) v = some x ∨ ¬ v.toNat < M1.vars.length := by
    intro M1 x
    by_cases hh : v.toNat < M1.vars.length
    · left; exact gi_of h0 (by simp [hh])
    · right; exact hh
  have lt : v.toNat < M.vars.length := by omega
  have r1 := Rep.setVar h hg v f { f with lit := n } hf 0 (by decide) (vi n) rfl (fun r e => hin r e)
  have r2 := Rep.setVar r1 hg v { f with lit := n } { f with lit := n, level := lv } (gi_of h0 (by simp [lt])) 1 (by decide) (vi lv) rfl (fun r e => hin r e)
  have r3 := Rep.setVar r2 hg v { f with lit := n, level := lv } { f with lit := n, level := lv, reason := why } (gi_of h0 (by simp [lt])) 2 (by decide) (ptrO L.cb why) rfl (fun r e => hw r e)
  have r4 := Rep.setVar r3 hg v { f with lit := n, level := lv, reason := why } { f with lit := n, level := lv, reason := why, phase := n } (gi_of h0 (by simp [lt])) 4 (by decide) (vi n) rfl (fun r e => hw r e)
  simpa only [List.set_set, Nat.add_zero] using r4

theorem same_trail' {w : World} {L : Lay} {M : St} (h : Rep w L M) (xs : List Int) : SameBut M { M with trail := xs } .trail := same_trail h xs

set_option maxHeartbeats 1000000 in
set_option maxRecDepth 100000 in
theorem set_c {w : World} {L : Lay} {M Mf : St} (h : Rep w L M) {sb : Nat} (hs : L.sb = sb) {n : Int} {why : Option Nat} (hw : ∀ r, why = some r → r < M.cls.length) (hx : Mir.set M n why = some Mf) {p : Option Addr} (hp : p = paddr L.cb why) :
    Calls Try.prog 38 #[.pointer (some ⟨sb, 0, none⟩), .int .i64 n, .pointer p] w fun e w' => e = .returned (.tuple #[]) ∧ ∃ L', Next w L M w' L' Mf ∧ L'.wv = L.wv := by
  subst hs hp
  unfold Mir.set at hx
  split at hx
  case isFalse => cases hx
  rename_i hc
  obtain ⟨hok, hlim⟩ := hc
  obtain ⟨n0, n1⟩ := ok_spec hok
  obtain ⟨o0, o1⟩ := of_bd hok
  simp only [Option.bind_eq_bind, Option.bind_eq_some_iff, Option.pure_def, Option.some.injEq] at hx
  obtain ⟨f, hf, rfl⟩ := hx
  obtain ⟨i0, i1, _⟩ := gi_spec hf
  obtain ⟨g, hg, rg, hcell, hfree⟩ := h.var hf
  have c0 := h.at 0 rfl
  simp only [hdv, hg] at c0
  have HF := Lib.hid hf
  have HG := Lib.hid hg
  have HC := Lib.hid hcell
  clear hf hg hcell
  go_enter Try.func38, Try.ntmps38
  go_wp2
  go_quiet ((go_at_call 53; exact quiet_eq (of_c _ _ (by omega) (by omega))))
  have hr : Rep (w.drewN nq) L M := h.drewN nq
  have nx : Next w L M (w.drewN nq) L M := (Next.refl h).drewN nq
  have d0 : (w.drewN nq).cell? ⟨g, (of n).toNat * 5, none⟩ = some (.int .i64 f.lit) := HC.out 0 _ rfl
  have d1 : (w.drewN nq).cell? ⟨g, (of n).toNat * 5 + 1, none⟩ = some (.int .i64 f.level) := HC.out 1 _ rfl
  have d2 : (w.drewN nq).cell? ⟨g, (of n).toNat * 5 + 2, none⟩ = some (ptrO L.cb f.reason) := HC.out 2 _ rfl
  have d4 : (w.drewN nq).cell? ⟨g, (of n).toNat * 5 + 4, none⟩ = some (.int .i64 f.phase) := HC.out 4 _ rfl
  have e0 : ∀ j, (w.drewN nq).frozen? ⟨g, j, none⟩ = false := hfree
  clear hfree c0
  generalize w.drewN nq = W0 at *
  have r4 := set_var4 hr HG.out (of n) n M.limits.length f HF.out why hw
  have nx4 : Next w L M ((((W0.setCell ⟨g, (of n).toNat * 5, none⟩ (.int .i64 n)).setCell ⟨g, (of n).toNat * 5 + 1, none⟩ (.int .i64 M.limits.length)).setCell ⟨g, (of n).toNat * 5 + 2, none⟩ (.pointer (paddr L.cb why))).setCell ⟨g, (of n).toNat * 5 + 4, none⟩ (.int .i64 n)) L _ :=
    nx.trans ⟨r4, ((((Fr.refl _ _).setCell (fun _ => by simp [rg]) _).setCell (fun _ => by simp [rg]) _).setCell (fun _ => by simp [rg]) _).setCell (fun _ => by simp [rg]) _, Ext.refl _ _ _, Nat.le_refl _⟩
  have HN := Lib.hid nx4
  have k5 := nx4.at 5 rfl
  have row : Row ((((W0.setCell ⟨g, (of n).toNat * 5, none⟩ (.int .i64 n)).setCell ⟨g, (of n).toNat * 5 + 1, none⟩ (.int .i64 M.limits.length)).setCell ⟨g, (of n).toNat * 5 + 2, none⟩ (.pointer (paddr L.cb why))).setCell ⟨g, (of n).toNat * 5 + 4, none⟩ (.int .i64 n)) 3 1 (L.hd .trail).a M.trail.length (L.hd .trail).c (M.trail.map vi) := nx4.rep.rows .trail rfl
  simp only [hdv] at k5
  clear nx4
  go_wp2_with (first
    | (go_at_call 31; refine (level_q hr rfl).mono ?_; rintro e w' ⟨rfl, rfl⟩)
    | (at_builtin; refine app_int rfl (.tmp 35) (.tmp 37) rfl _ _ _ M.trail rfl row n rfl (by simp) hlim ?_; intro a' c' w2 hrow hgrow hnew; have hb1 := (Rep.grown HN.out.rep .trail hgrow 5).1.trans k5; have hb2 := (Rep.grown HN.out.rep .trail hgrow 5).2))
  go_end0
  exact ⟨rfl, _, HN.out.trans (Rep.newHd' HN.out.rep .trail (same_trail HN.out.rep _) (by simp [lenOf]) hgrow hrow hnew), rfl⟩


/-- One round of taking back. -/
theorem unset_store {w : World} {L : Lay} {M : St} (h : Rep w L M) {g : Nat} (hg : (L.hd .vars).a = some ⟨g, 0, none⟩) (v : Int) (f : Fact) (hf : gi M.vars v = some f) :
    Rep (w.setCell ⟨g, v.toNat * 5, none⟩ (.int .i64 0)) L { M with vars := M.vars.set v.toNat { f with lit := 0 } } := by
  have hin := h.ids.1 f (List.mem_of_getElem? (gi_spec hf).2.2)
  exact Rep.setVar h hg v f { f with lit := 0 } hf 0 (by decide) (vi 0) rfl (fun r e => hin r e)

end Go.Proofs.Ytminhlpbdpbolaa
