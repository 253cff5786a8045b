/- All taken back that was decided above a level. -/
import Derived.Test.YtminhlpbdpbolaaWe
import Derived.Test.YtminhlpbdpbolaaMib
import Derived.Deep.RegionWith
import Derived.Deep.RegionLaw
namespace Go.Proofs.Ytminhlpbdpbolaa
open Go.RowKit Mir

theorem Next.drew {w w' : World} {L L' : Lay} {M M' : St} (h : Next w L M w' L' M') : Next w L M w'.drew L' M' := h.drewN 1

/-- A list of numbers cut down, in the course of a call. -/
theorem Next.cut {w W : World} {L L1 : Lay} {M M1 : St} (h : Next w L M W L1 M1) (k : K) {M' : St} (hs : SameBut M1 M' k) {n : Nat} {xs : List Int} (h1 : k.sz = 1) (hc : cellsOf L1.cb M1 k = xs.map vi) (hc' : cellsOf L1.cb M' k = (xs.take n).map vi)
    (hl : lenOf M1 k = xs.length) (hl' : lenOf M' k = (xs.take n).length) (hn : n ≤ xs.length) :
    ∃ L2, Next w L M (W.setCell ⟨L.sb, k.ix, none⟩ (.slice (L1.hd k).a n (L1.hd k).c)) L2 M' ∧ ∀ k', L2.hd k' = L1.hd k' := by
  have q := Rep.cut h.rep k hs h1 hc hc' hl hl' hn
  rw [h.ext.sb] at q
  refine ⟨_, h.trans q, fun k' => ?_⟩
  by_cases e : k' = k
  · subst e; simp [Lay.withHd]
  · simp [Lay.withHd, e]

/-- One of the solver's own cells, in the course of a call. -/
theorem Next.setOwn {w W : World} {L L1 : Lay} {M M1 : St} (h : Next w L M W L1 M1) (M' : St) (i : Nat) (u : Value) (he : slvCells L1 M' = (slvCells L1 M1).set i u)
    (hv : M'.vars = M1.vars) (hh : M'.heap = M1.heap) (hp : M'.place = M1.place) (hw : M'.wat = M1.wat) (hl : M'.learnt = M1.learnt) (ht : M'.trail = M1.trail) (hm : M'.limits = M1.limits) (hc : M'.cls = M1.cls) :
    Next w L M (W.setCell ⟨L.sb, i, none⟩ u) L1 M' := by
  have q := Rep.setOwn h.rep M' i u he hv hh hp hw hl ht hm hc
  rw [h.ext.sb] at q
  have hro : L1.ro L.sb = some .slv := h.ext.sb ▸ h.rep.rslv
  exact h.trans ⟨q, (Fr.refl _ _).setCell (fun _ => by rw [hro]; simp) _, Ext.refl _ _ _, by rw [hc]; exact Nat.le_refl _⟩

def BackI (w : World) (L : Lay) (M : St) (ns : List Int) (Mf : St) (k : Nat) (iv : Value) (wr : World) : Prop :=
  ∃ M1 L1 i, iv = .int .i64 (i : Nat) ∧ i ≤ ns.length ∧ Next w L M wr L1 M1 ∧ unsets (ns.drop i) M1 = some Mf ∧ k = ns.length - i ∧ M1.trail = M.trail ∧ M1.limits = M.limits ∧ ∀ k, k ≠ .heap → L1.hd k = L.hd k

set_option maxHeartbeats 2000000 in
set_option maxRecDepth 100000 in
theorem back_c {w : World} {L : Lay} {M Mf : St} (h : Rep w L M) {sb : Nat} (hs : L.sb = sb) {lv : Int} (hx : Mir.back M lv = some Mf) :
    Calls Try.prog 28 #[.pointer (some ⟨sb, 0, none⟩), .int .i64 lv] w fun e w' => e = .returned (.tuple #[]) ∧ ∃ L', Next w L M w' L' Mf := by
  subst hs
  unfold Mir.back at hx
  by_cases hle : (M.limits.length : Int) ≤ lv
  · rw [if_pos hle] at hx
    cases hx
    go_enter Try.func28, Try.ntmps28
    go_wp2_with (go_at_call 31; refine (level_q h rfl).mono ?_; rintro e w' ⟨rfl, rfl⟩)
    exact bodyPost_ret (v := .tuple #[]) (by simp [results, Try.results28, go_sem]) rfl ⟨rfl, _, Next.refl h⟩
  · rw [if_neg hle] at hx
    simp only [Option.bind_eq_bind, Option.bind_eq_some_iff] at hx
    obtain ⟨lim, hlim, hx⟩ := hx
    split at hx
    case isFalse => cases hx
    rename_i hb
    obtain ⟨b0, b1⟩ := hb
    simp only [Option.bind_eq_some_iff, Option.pure_def, Option.some.injEq] at hx
    obtain ⟨M1, hu, rfl⟩ := hx
    obtain ⟨i0, i1, _⟩ := gi_spec hlim
    obtain ⟨gm, hgm, rgm, cm, fm⟩ := h.num .limits rfl rfl rfl hlim
    have s5 := h.at 5 rfl
    have s6 := h.at 6 rfl
    simp only [hdv, hgm] at s5 s6
    have hct := h.len .trail
    simp only [lenOf, maxLen] at hct
    have t1 : M.trail.length ≤ (L.hd .trail).c := hct.1
    have t2 : (L.hd .trail).c ≤ 9223372036854775807 := by omega
    obtain ⟨lm, rfl⟩ := Int.eq_ofNat_of_zero_le b0
    have lm1 : lm ≤ M.trail.length := by omega
    have HL := Lib.hid hlim
    have HGM := Lib.hid hgm
    have HU := Lib.hid hu
    clear hct hlim hgm hu
    have m1 := (h.len .limits).1
    simp only [lenOf] at m1
    have lv1 : lv ≤ (L.hd .limits).c := by omega
    have lvn : lv.toNat ≤ M.limits.length := by omega
    rcases (h.rows .trail rfl).2 with ⟨ha, hn0, hc0⟩ | ⟨gt, cur, ha, _⟩
    · simp only [lenOf] at hn0
      obtain rfl : lm = 0 := by omega
      simp only [ha, hn0, hc0] at s5
      have HA := Lib.hid ha
      have HN0 := Lib.hid hn0
      have HC0 := Lib.hid hc0
      obtain rfl : M = M1 := by
        have := HU.out
        rw [List.drop_of_length_le (by omega)] at this
        simpa [unsets] using this
      clear ha hn0 hc0 t1 t2 lm1 b1
      go_enter Try.func28, Try.ntmps28
      go_wp2_with (go_at_call 31; refine (level_q h rfl).mono ?_; rintro e w' ⟨rfl, rfl⟩)
      go_quiet (fail)
      go_wp2
      go_loopg [23] 0 (fun _ iv wr => iv = .int .i64 0 ∧ wr = w.drewN nq)
      case atStart => exact ⟨rfl, rfl⟩
      case round =>
        obtain ⟨rfl, rfl⟩ := hrel
        have hn := (Next.refl h).drewN (nq + 1)
        have f5 := h.atFree 5
        go_wp2
        go_region
        obtain ⟨L7, hn7, hk7⟩ := Next.cut hn .trail (same_trail hn.rep (M.trail.take 0)) (n := 0) (xs := M.trail) rfl rfl rfl rfl rfl (Nat.zero_le _)
        simp only [HA.out, HC0.out] at hn7
        change Next w L M ((w.drewN (nq + 1)).setCell ⟨L.sb, 5, none⟩ (.slice none 0 0)) L7 _ at hn7
        clear s5 s6 f5 cm fm
        generalize (w.drewN (nq + 1)).setCell ⟨L.sb, 5, none⟩ (.slice none 0 0) = W7 at hn7 ⊢
        have s5 := hn7.at 5 rfl
        have s6 := hn7.at 6 rfl
        have f6 := hn7.free 6
        have f7 := hn7.free 7
        have s7 := hn7.at 7 rfl
        simp only [hdv, hk7, HA.out, HGM.out, HC0.out, List.take_zero, List.length_nil] at s5 s6
        go_wp2
        obtain ⟨L8, hn8, _⟩ := Next.cut hn7 .limits (same_limits hn7.rep _) (n := lv.toNat) (xs := M.limits) rfl rfl rfl rfl rfl lvn
        simp only [hk7, HGM.out] at hn8
        have hn9 := Next.setOwn hn8 { M with trail := M.trail.take 0, limits := M.limits.take lv.toNat, head := 0 } 7 (vi 0) rfl rfl rfl rfl rfl rfl rfl rfl rfl
        go_end0
        exact ⟨rfl, L8, hn9⟩
    · simp only [ha] at s5
      have HA := Lib.hid ha
      clear ha
      go_enter Try.func28, Try.ntmps28
      go_wp2_with (go_at_call 31; refine (level_q h rfl).mono ?_; rintro e w' ⟨rfl, rfl⟩)
      go_quiet (fail)
      obtain ⟨A, hAdef, hA⟩ : ∃ A, (if (L.hd .trail).c = lm then some (⟨gt, 0, none⟩ : Addr) else some ⟨gt, lm, none⟩) = A ∧ (lm < M.trail.length → A = some ⟨gt, lm, none⟩) := by
        refine ⟨_, rfl, fun hlt => ?_⟩
        rw [if_neg (by omega)]
      rw [hAdef]
      clear hAdef
      have HAA := Lib.hid hA
      clear hA cm fm s5 s6
      go_wp2
      go_loopg [23] (M.trail.length - lm) (BackI w L M (M.trail.drop lm) M1)
      case atStart => exact ⟨M, L, 0, rfl, Nat.zero_le _, (Next.refl h).drewN _, HU.out, by simp, rfl, rfl, fun _ _ => rfl⟩
      case round =>
        obtain ⟨M2, L2, i, rfl, hi, hn, hus, rfl, htr, hlm, hkp⟩ := hrel
        have hr := hn.rep
        by_cases hlt : i < (M.trail.drop lm).length
        · have hlt' : lm + i < M.trail.length := by simpa [Nat.add_comm, Nat.lt_sub_iff_add_lt] using hlt
          rw [List.drop_eq_getElem_cons hlt] at hus
          simp only [unsets, Option.bind_eq_bind, Option.bind_eq_some_iff] at hus
          obtain ⟨M3, h3, hus⟩ := hus
          have hel : (M.trail.drop lm)[i] = M.trail[lm + i] := by simp
          rw [hel] at h3
          generalize hm : M.trail[lm + i] = m at h3
          unfold unset at h3
          split at h3
          case isFalse => cases h3
          rename_i hok
          obtain ⟨n0, n1⟩ := ok_spec hok
          obtain ⟨o0, o1⟩ := of_bd hok
          simp only [Option.bind_eq_bind, Option.bind_eq_some_iff] at h3
          obtain ⟨f, hf, hpush⟩ := h3
          obtain ⟨v0, v1, _⟩ := gi_spec hf
          obtain ⟨g, hg, rg, hcell, hfree⟩ := hr.var hf
          have c0 := hn.at 0 rfl
          simp only [hdv, hg] at c0
          have d0 : wr.cell? ⟨g, (of m).toNat * 5, none⟩ = some (.int .i64 f.lit) := hcell 0 _ rfl
          have e0 := hfree ((of m).toNat * 5)
          have row := hr.rows .trail rfl
          rw [hkp .trail (by simp), HA.out] at row
          have cel : wr.cell? ⟨gt, lm + i, none⟩ = some (.int .i64 m) := row.cell (by show (M2.trail.map vi)[lm + i]? = _; rw [htr]; simp [hlt', hm])
          obtain rfl := HAA.out (by omega)
          have hi1 : (i : Int) < ((M.trail.length - lm : Nat) : Int) := by simp only [List.length_drop] at hlt; omega
          have hi2 : i < M.trail.length - lm := by simp only [List.length_drop] at hlt; omega
          have r2 := unset_store hr hg (of m) f hf
          have n2 : Next w L M (wr.setCell ⟨g, (of m).toNat * 5, none⟩ (.int .i64 0)) L2 { M2 with vars := M2.vars.set (of m).toNat { f with lit := 0 } } :=
            hn.trans ⟨r2, (Fr.refl _ _).setCell (fun _ => by simp [rg]) _, Ext.refl _ _ _, Nat.le_refl _⟩
          have HUS := Lib.hid hus
          have HN2 := Lib.hid n2
          have HH := Lib.hid hpush
          have HHI := Lib.hid hlt
          have HTR := Lib.hid htr
          have HLM := Lib.hid hlm
          have HKP := Lib.hid hkp
          clear hus n2 hpush hlt hlt' htr hlm hkp hf hg hcell row hel hm
          go_wp2
          go_region_with (go_at_call 53; refine (of_c _ _ (by omega) (by omega)).mono ?_; rintro e w' ⟨rfl, rfl⟩)
          all_goals
            go_wp2_with (first
              | (go_at_call 53; refine (of_c _ _ (by omega) (by omega)).mono ?_; rintro e w' ⟨rfl, rfl⟩)
              | (go_at_call 54; refine (push_c HN2.out.drew.rep HN2.out.ext.sb HH.out).mono ?_; rintro e w' ⟨rfl, L3, hn3, hk3⟩))
            go_roundg ((M.trail.drop lm).length - (i + 1))
            case measure => have := HHI.out; omega
            case rel =>
              have hp := push_heap HH.out
              exact ⟨M3, L3, i + 1, by go_num, HHI.out, HN2.out.drew.trans hn3, HUS.out, rfl, hp.trail.trans HTR.out, hp.limits.trans HLM.out, fun k hk => (hk3 k hk).trans (HKP.out k hk)⟩
        · have hie : i = (M.trail.drop lm).length := by omega
          rw [List.drop_of_length_le (by omega)] at hus
          simp only [unsets, Option.some.injEq] at hus
          subst hus
          have hi1 : ¬ (i : Int) < ((M.trail.length - lm : Nat) : Int) := by simp only [List.length_drop] at hie; omega
          have s5 := hn.at 5 rfl
          have s6 := hn.at 6 rfl
          have f5 := hn.free 5
          have f6 := hn.free 6
          have cm := hr.num .limits (xs := M.limits) (by show M2.limits.map vi = _; rw [hlm]) (by show M2.limits.length = _; rw [hlm]) rfl HL.out
          obtain ⟨gm', hgm', rgm', cm, fm⟩ := cm
          simp only [hdv, hkp .trail (by simp), hkp .limits (by simp), HA.out, htr, hlm] at s5 s6
          rw [hkp .limits (by simp), HGM.out] at hgm'
          simp only [Option.some.injEq, Addr.mk.injEq, and_true] at hgm'
          subst hgm'
          simp only [HGM.out] at s6
          have HTR := Lib.hid htr
          have HLM := Lib.hid hlm
          have HKP := Lib.hid hkp
          clear htr hlm hkp hie HAA
          go_wp2
          go_region
          obtain ⟨L7, hn7, hk7⟩ := Next.cut hn .trail (same_trail hn.rep _) (n := lm) (xs := M2.trail) rfl rfl rfl rfl rfl (by rw [HTR.out]; exact lm1)
          simp only [HKP.out .trail (by simp), HA.out] at hn7
          replace hn7 := hn7.drew
          change Next w L M (wr.setCell ⟨L.sb, 5, none⟩ (.slice (some ⟨gt, 0, none⟩) lm (L.hd .trail).c)).drew L7 _ at hn7
          clear s5 s6 f5 f6 cm fm
          generalize (wr.setCell ⟨L.sb, 5, none⟩ (.slice (some ⟨gt, 0, none⟩) lm (L.hd .trail).c)).drew = W7 at hn7 ⊢
          have s5 := hn7.at 5 rfl
          have s6 := hn7.at 6 rfl
          have f6 := hn7.free 6
          have f7 := hn7.free 7
          have s7 := hn7.at 7 rfl
          have e5 : (M2.trail.take lm).length = lm := by rw [List.length_take, HTR.out]; omega
          simp only [hdv, hk7, HKP.out .trail (by simp), HKP.out .limits (by simp), HA.out, HGM.out, HLM.out, e5] at s5 s6
          go_wp2
          obtain ⟨L8, hn8, _⟩ := Next.cut hn7 .limits (same_limits hn7.rep _) (n := lv.toNat) (xs := M2.limits) rfl rfl rfl rfl rfl (by rw [HLM.out]; exact lvn)
          simp only [hk7, HKP.out .limits (by simp), HGM.out] at hn8
          have hn9 := Next.setOwn hn8 { M2 with trail := M2.trail.take lm, limits := M2.limits.take lv.toNat, head := lm } 7 (vi lm) rfl rfl rfl rfl rfl rfl rfl rfl rfl
          go_end0
          exact ⟨rfl, L8, hn9⟩

end Go.Proofs.Ytminhlpbdpbolaa
