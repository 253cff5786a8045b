/- The heap of variables: pop. -/
import Derived.Test.YtminhlpbdpbolaaUpb
namespace Go.Proofs.Ytminhlpbdpbolaa
open Go.RowKit Mir

set_option maxHeartbeats 1000000 in
set_option maxRecDepth 100000 in
theorem pop_c {w : World} {L : Lay} {M Mf : St} {v : Int} (h : Rep w L M) {sb : Nat} (hs : L.sb = sb) (hx : Mir.pop M = some (Mf, v)) :
    Calls Try.prog 71 #[.pointer (some ⟨sb, 0, none⟩)] w fun e w' => e = .returned (.int .i64 v) ∧ ∃ L', Next w L M w' L' Mf ∧ ∀ k, k ≠ .heap → L'.hd k = L.hd k := by
  subst hs
  simp only [Mir.pop, Option.bind_eq_bind, Option.bind_eq_some_iff, Option.pure_def] at hx
  obtain ⟨v', hv, last, hlast, hx⟩ := hx
  obtain ⟨i0, i1, _⟩ := gi_spec hv
  obtain ⟨j0, j1, _⟩ := gi_spec hlast
  obtain ⟨g, hg, rg, c1, f1⟩ := h.num .heap rfl rfl rfl hv
  obtain ⟨g1, hg1, _, c2, _⟩ := h.num .heap rfl rfl rfl hlast
  obtain rfl : g1 = g := by rw [hg] at hg1; simpa using hg1.symm
  split at hx
  case isFalse => cases hx
  rename_i hp
  obtain ⟨p0, p1⟩ := hp
  obtain ⟨y, hy⟩ := gi_lt p0 p1
  obtain ⟨g2, hg2, rg2, c3, f3⟩ := h.num .place rfl rfl rfl hy
  have s1 := h.at 1 rfl
  have s1f := h.atFree 1
  have s2 := h.at 2 rfl
  have hl := h.len .heap
  simp only [lenOf, maxLen] at hl
  simp only [hdv, hg] at s1
  simp only [hdv, hg2] at s2
  have hcap : M.heap.length ≤ (L.hd .heap).c := hl.1
  have hbig : M.heap.length ≤ 9223372036854775807 := by omega
  have hpos : 0 < M.heap.length := by omega
  have j2 : (1 : Int) ≤ M.heap.length := by omega
  have c1' : w.cell? ⟨g1, 0, none⟩ = some (vi v') := c1
  have hw : IntKind.i64.wrap ((M.heap.length : Int) - 1) = M.heap.length - 1 := IntWalk.i64_in _ (by omega)
  have c2' : w.cell? ⟨g1, M.heap.length - 1, none⟩ = some (vi last) := by rw [show M.heap.length - 1 = ((M.heap.length : Int) - 1).toNat by omega]; exact c2
  have HG := Lib.hid hg
  have HY := Lib.hid hy
  have HX := Lib.hid hx
  clear hx c1 c2 hl hg hg2 hg1 hv hlast hy
  go_enter Try.func71, Try.ntmps71
  go_wp2
  go_quiet (fail)
  go_wp2
  go_region
  obtain ⟨L2, hn, hkeep⟩ : ∃ L2, Next (w.drewN (nq + 1)) L M ((w.drewN (nq + 1)).setCell ⟨L.sb, 1, none⟩ (.slice (some ⟨g1, 0, none⟩) (M.heap.length - 1) (L.hd .heap).c)) L2 { M with heap := M.heap.take (M.heap.length - 1) } ∧ ∀ k, k ≠ .heap → L2.hd k = L.hd k := by
    have q := Rep.cut (h.drewN (nq + 1)) .heap (same_heap (h.drewN (nq + 1)) _) (n := M.heap.length - 1) (xs := M.heap) rfl rfl rfl rfl rfl (by omega)
    rw [HG.out] at q
    exact ⟨_, q, fun k hk => by simp [Lay.withHd, hk]⟩
  generalize (w.drewN (nq + 1)).setCell ⟨L.sb, 1, none⟩ (.slice (some ⟨g1, 0, none⟩) (M.heap.length - 1) (L.hd .heap).c) = W2 at hn ⊢
  clear s1 s2 s1f c1' c2' c3 f3
  have HX' := HX.out
  clear HX
  generalize M.heap.take (M.heap.length - 1) = xs at hn HX'
  obtain ⟨g3, hg3, rg3, c3, f3⟩ := hn.rep.num .place rfl rfl rfl HY.out
  have f4 := f3 v'.toNat
  have s2 := hn.at 2 rfl
  simp only [hdv, hg3] at s2
  have r3 := Rep.setNum hn.rep .place rfl hg3 v' (-1) p0 p1
  have hn3 : Next (w.drewN (nq + 1)) L M (W2.setCell ⟨g3, v'.toNat, none⟩ (.int .i64 (-1))) L2 { M with heap := xs, place := M.place.set v'.toNat (-1) } :=
    hn.trans ⟨r3, (Fr.refl _ _).setCell (fun _ => by simp [rg3]) _, Ext.refl _ _ _, Nat.le_refl _⟩
  have k1 : (W2.setCell ⟨g3, v'.toNat, none⟩ (.int .i64 (-1))).cell? ⟨L.sb, 1, none⟩ = some (.slice (L2.hd .heap).a xs.length (L2.hd .heap).c) := hn3.at 1 rfl
  have hl := hn.rep.len .heap
  have hxl : xs.length ≤ 9223372036854775807 := by simp only [lenOf, maxLen] at hl; omega
  by_cases h0 : 0 < xs.length
  · rw [if_pos h0] at HX'
    simp only [Option.bind_eq_some_iff, Option.some.injEq, Prod.mk.injEq] at HX'
    obtain ⟨M2, hl2, M3, hd, rfl, rfl⟩ := HX'
    have h0' : (0 : Int) < xs.length := by omega
    clear hl hg3
    go_wp2_with (first
      | (go_at_call 67; refine (lay_c hn3.rep hn3.ext.sb hl2).mono ?_; rintro e w' ⟨rfl, hn4⟩)
      | (go_at_call 78; refine (down_c hn4.rep hn3.ext.sb hd).mono ?_; rintro e w' ⟨rfl, hn5⟩))
    go_ret
    exact ⟨rfl, L2, (hn3.trans (hn4.trans hn5)).from_drewN, hkeep⟩
  · rw [if_neg h0] at HX'
    simp only [Option.some.injEq, Prod.mk.injEq] at HX'
    obtain ⟨rfl, rfl⟩ := HX'
    have h0' : ¬ (0 : Int) < xs.length := by omega
    clear hl hg3
    go_wp2
    go_ret
    exact ⟨rfl, L2, hn3.from_drewN, hkeep⟩

end Go.Proofs.Ytminhlpbdpbolaa
