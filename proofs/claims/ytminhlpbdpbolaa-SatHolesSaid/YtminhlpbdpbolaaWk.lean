/- A variable is used: its score grows. -/
import Derived.Test.YtminhlpbdpbolaaWf
import Derived.Deep.CutRange
import Derived.Deep.CutBlock
namespace Go.Proofs.Ytminhlpbdpbolaa
open Go.RowKit Mir

def resc (f : Fact) : Fact := { f with score := f.score / 1048576 }
def rescL (M : St) (i : Nat) : St := { M with vars := (M.vars.take i).map resc ++ M.vars.drop i }

theorem rescL_zero (M : St) : rescL M 0 = M := by simp [rescL]
theorem rescL_len (M : St) (i : Nat) : (rescL M i).vars.length = M.vars.length := by simp [rescL]; omega
theorem rescL_get {M : St} {i : Nat} {f : Fact} (h : M.vars[i]? = some f) : (rescL M i).vars[i]? = some f := by
  have hl := (List.getElem?_eq_some_iff.1 h).1
  unfold rescL
  rw [List.getElem?_append_right (by simp only [List.length_map, List.length_take]; omega)]
  simp only [List.length_map, List.length_take, Nat.min_eq_left (Nat.le_of_lt hl), Nat.sub_self, List.getElem?_drop, Nat.add_zero]
  exact h
theorem rescL_succ {M : St} {i : Nat} {f : Fact} (h : M.vars[i]? = some f) : rescL M (i + 1) = { rescL M i with vars := (rescL M i).vars.set i (resc f) } := by
  obtain ⟨hl, hf⟩ := List.getElem?_eq_some_iff.1 h
  have e : ((M.vars.take i).map resc ++ M.vars.drop i).set i (resc f) = (M.vars.take (i + 1)).map resc ++ M.vars.drop (i + 1) := by
    rw [List.set_append_right _ _ (by simp only [List.length_map, List.length_take]; omega)]
    simp only [List.length_map, List.length_take, Nat.min_eq_left (Nat.le_of_lt hl), Nat.sub_self]
    rw [List.drop_eq_getElem_cons hl, List.set_cons_zero, List.take_add_one, h]
    simp
  simp only [rescL, e]
theorem rescL_all (M : St) : rescL M M.vars.length = { M with vars := M.vars.map resc } := by simp [rescL]

theorem small_spec {n : Int} (h : small n = true) : -1125899906842624 ≤ n ∧ n ≤ 1125899906842624 := by simpa [small] using h

def UsedI (w : World) (L : Lay) (M M2 : St) (k : Nat) (iv : Value) (wr : World) : Prop :=
  ∃ i : Nat, iv = .int .i64 (i : Nat) ∧ i ≤ M2.vars.length ∧ k = M2.vars.length - i ∧ Next w L M wr L (rescL M2 i)

set_option maxHeartbeats 2000000 in
set_option maxRecDepth 100000 in
theorem used_c {w : World} {L : Lay} {M Mf : St} (h : Rep w L M) {sb : Nat} (hs : L.sb = sb) {v : Int} (hx : Mir.used M v = some Mf) :
    Calls Try.prog 56 #[.pointer (some ⟨sb, 0, none⟩), .int .i64 v] w fun e w' => e = .returned (.tuple #[]) ∧ Next w L M w' L Mf := by
  subst hs
  simp only [Mir.used, Option.bind_eq_bind, Option.bind_eq_some_iff] at hx
  obtain ⟨f, hf, hx⟩ := hx
  by_cases hsm : small f.score = true ∧ small M.bump = true
  case neg => rw [if_neg hsm] at hx; cases hx
  rw [if_pos hsm] at hx
  obtain ⟨b0, b1⟩ := small_spec hsm.1
  obtain ⟨c0, c1⟩ := small_spec hsm.2
  simp only [Option.bind_eq_some_iff] at hx
  obtain ⟨p, hp, hx⟩ := hx
  obtain ⟨M2, hup, g, hg, hx⟩ : ∃ M2, ((0 ≤ p ∧ Mir.up { M with vars := M.vars.set v.toNat { f with score := f.score + M.bump } } p = some M2) ∨ (¬ 0 ≤ p ∧ { M with vars := M.vars.set v.toNat { f with score := f.score + M.bump } } = M2)) ∧
      ∃ g, gi M2.vars v = some g ∧ (if 1099511627776 < g.score then some (rescale M2) else some M2) = some Mf := by
    by_cases h0 : 0 ≤ p
    · rw [if_pos h0] at hx
      simp only [Option.bind_eq_some_iff] at hx
      obtain ⟨M2, q1, g, q2, q3⟩ := hx
      exact ⟨M2, .inl ⟨h0, q1⟩, g, q2, q3⟩
    · rw [if_neg h0] at hx
      simp only [Option.pure_def, Option.bind_eq_some_iff] at hx
      obtain ⟨M2, q1, g, q2, q3⟩ := hx
      exact ⟨M2, .inr ⟨h0, Option.some.inj q1⟩, g, q2, q3⟩
  obtain ⟨v0, v1, v2⟩ := gi_spec hf
  obtain ⟨gv, hgv, rgv, hcell, hfree⟩ := h.var hf
  have s0 := h.at 0 rfl
  have s10 := h.at 10 rfl
  simp only [hdv, hgv] at s0
  have d3 : w.cell? ⟨gv, v.toNat * 5 + 3, none⟩ = some (.int .i64 f.score) := hcell 3 _ rfl
  have e3 := hfree (v.toNat * 5 + 3)
  have hwr : IntKind.i64.wrap (f.score + M.bump) = f.score + M.bump := IntWalk.i64_in _ (by omega)
  have vn : v.toNat < M.vars.length := by omega
  have r1 := Rep.setVar h hgv v f { f with score := f.score + M.bump } hf 3 (by decide) (vi (f.score + M.bump)) rfl (fun r e => h.ids.1 f (List.mem_of_getElem? v2) r e)
  have hn1 : Next w L M (w.setCell ⟨gv, v.toNat * 5 + 3, none⟩ (vi (f.score + M.bump))) L { M with vars := M.vars.set v.toNat { f with score := f.score + M.bump } } :=
    ⟨r1, (Fr.refl _ _).setCell (fun _ => by simp [rgv]) _, Ext.refl _ _ _, Nat.le_refl _⟩
  have HX := Lib.hid hx
  have HP := Lib.hid hp
  have HUP := Lib.hid hup
  have HG := Lib.hid hg
  clear hx hp hup hg hf hcell hfree r1 hsm
  go_enter Try.func56, Try.ntmps56
  go_wp2
  go_region
  replace hn1 := hn1.drew
  change Next w L M (w.setCell ⟨gv, v.toNat * 5 + 3, none⟩ (.int .i64 (f.score + M.bump))).drew L _ at hn1
  have HP1 : Hid (gi ({ M with vars := M.vars.set v.toNat { f with score := f.score + M.bump } } : St).place v = some p) := HP
  clear HP s0 s10 d3 e3
  generalize (w.setCell ⟨gv, v.toNat * 5 + 3, none⟩ (.int .i64 (f.score + M.bump))).drew = W1 at *
  generalize ({ M with vars := M.vars.set v.toNat { f with score := f.score + M.bump } } : St) = M1 at *
  have hr1 := hn1.rep
  obtain ⟨gp, hgp, rgp, cp, fp⟩ := hr1.num .place rfl rfl rfl HP1.out
  obtain ⟨_, pl, _⟩ := gi_spec HP1.out
  have pln : v.toNat < M1.place.length := by omega
  have s2 := hn1.at 2 rfl
  simp only [hdv, hgp] at s2
  clear fp
  clear hx
  go_upto_if 27 with (fail)
  go_cut [] from 27 to 36 (fun wc => Next w L M wc L M2)
  case first =>
    rcases HUP.out with ⟨h0, q⟩ | ⟨h0, rfl⟩
    · have hlt : p < 9223372036854775808 := by
        unfold Mir.up at q
        simp only [Option.bind_eq_bind, Option.bind_eq_some_iff] at q
        obtain ⟨_, q, _⟩ := q
        have q1 := (gi_spec q).2.1
        have q2 := (hr1.len .heap).1
        have q3 := (hr1.len .heap).2
        simp only [lenOf, maxLen] at q2 q3
        omega
      have Q := Lib.hid q
      clear q
      go_wp2_with (go_at_call 68; refine (up_c hr1 hn1.ext.sb Q.out hlt).mono ?_; rintro e w' ⟨rfl, hn2⟩)
      go_meet
      case rel => exact hn1.trans hn2
    · have h1 : ¬ 0 ≤ p := by omega
      go_wp2
      go_meet
      case rel => exact hn1
  case rest =>
    have hr2 := hcut.rep
    have hg := HG.out
    obtain ⟨g0, g1, g2⟩ := gi_spec hg
    obtain ⟨ga, hga, rga, hcell, hfree⟩ := hr2.var hg
    have s0 := hcut.at 0 rfl
    simp only [hdv, hga] at s0
    have d3 : wc.cell? ⟨ga, v.toNat * 5 + 3, none⟩ = some (.int .i64 g.score) := hcell 3 _ rfl
    have gn : v.toNat < M2.vars.length := by omega
    have HX2 := Lib.hid HX.out
    have HGA := Lib.hid hga
    clear hcell hfree hga hg HUP HP1 hgp cp s2 hr1 hn1 HX hgv rgv g2 v2
    by_cases hb : 1099511627776 < g.score
    · have hx := HX2.out
      rw [if_pos hb] at hx
      simp only [Option.some.injEq] at hx
      subst hx
      have hlen := hr2.len .vars
      simp only [lenOf, maxLen] at hlen
      have hlen1 : M2.vars.length ≤ 9223372036854775807 := by omega
      clear hlen
      go_wp2
      go_loopg [51] M2.vars.length (UsedI w L M M2)
      case atStart => exact ⟨0, rfl, Nat.zero_le _, rfl, by rw [rescL_zero]; exact hcut⟩
      case round =>
        obtain ⟨i, rfl, hi, rfl, hn⟩ := hrel
        have hr := hn.rep
        have hbig := rescL_len M2 i
        have s0' := hn.at 0 rfl
        have f0' := hn.free 0
        simp only [hdv, HGA.out, hbig] at s0'
        by_cases hlt : i < M2.vars.length
        · have hlti : (i : Int) < (M2.vars.length : Int) := by omega
          have hf : M2.vars[i]? = some M2.vars[i] := List.getElem?_eq_getElem hlt
          generalize M2.vars[i] = fi at hf
          have hf2 := rescL_get hf
          have hgi : gi (rescL M2 i).vars (i : Int) = some fi := gi_of (by omega) (by simpa using hf2)
          obtain ⟨gb, hgb, rgb, hcell, hfree⟩ := hr.var hgi
          obtain rfl : ga = gb := by rw [HGA.out] at hgb; cases hgb; rfl
          have d3' : wr.cell? ⟨ga, i * 5 + 3, none⟩ = some (.int .i64 fi.score) := hcell 3 _ (by simp [factCells])
          have e3' := hfree (i * 5 + 3)
          have r2 := Rep.setVar hr hgb (i : Int) fi (resc fi) hgi 3 (by decide) (vi (fi.score / 1048576)) rfl (fun r e => hr.ids.1 fi (List.mem_of_getElem? hf2) r e)
          have hn2 : Next w L M (wr.setCell ⟨ga, i * 5 + 3, none⟩ (vi (fi.score / 1048576))) L (rescL M2 (i + 1)) := by
            rw [rescL_succ hf]
            exact hn.trans ⟨r2, (Fr.refl _ _).setCell (fun _ => by simp [rgb]) _, Ext.refl _ _ _, Nat.le_refl _⟩
          have HN2 := Lib.hid hn2
          clear hcell hfree hgb r2 hf hf2 hgi hn2 hn hr hcut hr2 s0 d3
          go_wp2
          go_roundg (M2.vars.length - (i + 1))
          case measure => omega
          case rel => exact ⟨i + 1, by go_num, by omega, rfl, HN2.out⟩
        · obtain rfl : i = M2.vars.length := by omega
          rw [rescL_all] at hn
          have s10' := hn.at 10 rfl
          have f10' := hn.free 10
          have HF := Lib.hid (Next.setOwn hn (rescale M2) 10 (vi (max (M2.bump / 1048576) 1)) rfl rfl rfl rfl rfl rfl rfl rfl rfl)
          clear hn hr hcut hr2 s0 d3
          go_wp2
          all_goals
            have hfin := HF.out
            first
              | (have hm : max (M2.bump / 1048576) 1 = M2.bump / 1048576 := by omega
                 rw [hm] at hfin)
              | (have hm : max (M2.bump / 1048576) 1 = 1 := by omega
                 rw [hm] at hfin)
            go_end0
            exact ⟨rfl, hfin⟩
    · have hx := HX2.out
      rw [if_neg hb] at hx
      simp only [Option.some.injEq] at hx
      subst hx
      go_wp2
      go_end0
      exact ⟨rfl, hcut⟩

end Go.Proofs.Ytminhlpbdpbolaa
