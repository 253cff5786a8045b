/- Variables added. -/
import Derived.Test.YtminhlpbdpbolaaWf
namespace Go.Proofs.Ytminhlpbdpbolaa
open Go.RowKit Mir

theorem same_vars_new {w : World} {L : Lay} {M : St} (h : Rep w L M) : SameBut M { M with vars := M.vars ++ [⟨0, 0, none, 0, 0⟩] } .vars := by
  refine ⟨fun k' e => ?_, rfl, rfl, ⟨rfl, rfl, rfl, rfl, rfl⟩, fun f hf r hr => ?_, h.ids.2.2⟩
  · cases k' <;> first | exact (e rfl).elim | exact ⟨rfl, fun _ => rfl⟩
  · rcases List.mem_append.1 hf with hf | hf
    · exact h.ids.1 f hf r hr
    · simp only [List.mem_singleton] at hf
      subst hf
      cases hr

theorem Next.newHd {w W : World} {L L1 : Lay} {M M1 : St} (hn : Next w L M W L1 M1) (k : K) {M' : St} (hs : SameBut M1 M' k) {w2 : World} {a' : Option Addr} {c' n : Nat} (hl : lenOf M' k = n) (hg : W.grownBy w2 (blk (L1.hd k).a))
    (hrow : Row w2 k.E k.sz a' n c' (cellsOf L1.cb M' k)) (hnew : a' = (L1.hd k).a ∨ ∃ g, a' = some ⟨g, 0, none⟩ ∧ W.heap.size ≤ g) :
    ∃ L2, Next w L M (w2.setCell ⟨L.sb, k.ix, none⟩ (.slice a' n c')) L2 M' ∧ L2.hd k = ⟨a', c'⟩ ∧ ∀ k', k' ≠ k → L2.hd k' = L1.hd k' := by
  have q := Rep.newHd' hn.rep k hs hl hg hrow hnew
  rw [hn.ext.sb] at q
  exact ⟨_, hn.trans q, by simp [Lay.withHd], fun k' hk => by simp [Lay.withHd, hk]⟩

theorem Next.grown {w W : World} {L L1 : Lay} {M M1 : St} (hn : Next w L M W L1 M1) (k : K) {w2 : World} (hg : W.grownBy w2 (blk (L1.hd k).a)) {i : Nat} {v : Value} (hv : W.cell? ⟨L.sb, i, none⟩ = some v) :
    w2.cell? ⟨L.sb, i, none⟩ = some v ∧ w2.frozen? ⟨L.sb, i, none⟩ = false := by
  have q := Rep.grown hn.rep k hg i
  rw [hn.ext.sb] at q
  exact ⟨q.1.trans hv, q.2⟩

def GrowI (w : World) (L : Lay) (M : St) (v : Int) (Mf : St) (k : Nat) (wr : World) : Prop :=
  ∃ M1 L1, Next w L M wr L1 M1 ∧ growL k M1 v = some Mf

set_option maxHeartbeats 2000000 in
set_option maxRecDepth 100000 in
theorem grow_c {w : World} {L : Lay} {M Mf : St} (h : Rep w L M) {sb : Nat} (hs : L.sb = sb) {n : Int} (hx : Mir.grow M n = some Mf) :
    Calls Try.prog 29 #[.pointer (some ⟨sb, 0, none⟩), .int .i64 n] w fun e w' => e = .returned (.tuple #[]) ∧ ∃ L', Next w L M w' L' Mf := by
  subst hs
  unfold Mir.grow at hx
  split at hx
  case isFalse => cases hx
  rename_i hok
  obtain ⟨n0, n1⟩ := ok_spec hok
  obtain ⟨o0, o1⟩ := of_bd hok
  have HX := Lib.hid hx
  clear hx hok
  go_enter Try.func29, Try.ntmps29
  go_wp2
  go_loopg [] ((of n).toNat + 2) (GrowI w L M (of n) Mf)
  case atStart => exact ⟨M, L, Next.refl h, HX.out⟩
  case round =>
    obtain ⟨M1, L1, hn, hu⟩ := hrel
    clear HX
    cases gk with
    | zero => cases hu
    | succ k =>
      unfold growL at hu
      have hr := hn.rep
      have s0 := hn.at 0 rfl
      have f0 := hn.free 0
      simp only [hdv] at s0
      have hlen := hr.len .vars
      simp only [lenOf, maxLen] at hlen
      have hlen1 : M1.vars.length ≤ 9223372036854775807 := by omega
      clear hlen
      by_cases hle : (M1.vars.length : Int) ≤ of n
      · rw [if_pos hle] at hu
        split at hu
        case isFalse => cases hu
        rename_i hlim
        obtain ⟨l1, l2⟩ := hlim
        simp only [Option.bind_eq_bind, Option.bind_eq_some_iff] at hu
        obtain ⟨M2, hp, hu⟩ := hu
        have hrow : Row wr 78 5 (L1.hd .vars).a M1.vars.length (L1.hd .vars).c (M1.vars.flatMap (factCells L1.cb)) := hr.rows .vars rfl
        have HU := Lib.hid hu
        have HP := Lib.hid hp
        have l1' : M1.vars.length < 1099511627776 := l1
        clear hu hp
        go_wp2
        go_quiet ((go_at_call 53; exact quiet_eq (of_c _ _ (by omega) (by omega))))
        replace hn := hn.drewN nq
        replace hr := hr.drewN nq
        replace hrow : Row (wr.drewN nq) 78 5 (L1.hd .vars).a M1.vars.length (L1.hd .vars).c (M1.vars.flatMap (factCells L1.cb)) := hrow
        replace s0 : (wr.drewN nq).cell? ⟨L.sb, 0, none⟩ = some (.slice (L1.hd .vars).a M1.vars.length (L1.hd .vars).c) := s0
        replace f0 : (wr.drewN nq).frozen? ⟨L.sb, 0, none⟩ = false := f0
        generalize wr.drewN nq = W0 at *
        go_wp2_with (first
          | (at_builtin; refine app_fact rfl (.tmp 16) (.tmp 18) rfl _ _ _ L1.cb M1.vars rfl hrow rfl (by simp) l1 ?_; intro a' c' w2 hro hgrow hnew; obtain ⟨hb1, hb2⟩ := hn.grown .vars hgrow s0; obtain ⟨L2, hn2, e1, e2⟩ := Next.newHd hn .vars (same_vars_new hr) (n := M1.vars.length + 1) (by simp [lenOf]) hgrow hro hnew; change Next w L M (w2.setCell ⟨L.sb, 0, none⟩ (.slice a' (M1.vars.length + 1) c')) L2 _ at hn2; have q2 : (w2.setCell ⟨L.sb, 0, none⟩ (.slice a' (M1.vars.length + 1) c')).cell? ⟨L.sb, 2, none⟩ = some (.slice (L2.hd .place).a M1.place.length (L2.hd .place).c) := hn2.at 2 rfl; have hrow2 : Row (w2.setCell ⟨L.sb, 0, none⟩ (.slice a' (M1.vars.length + 1) c')) 3 1 (L2.hd .place).a M1.place.length (L2.hd .place).c (M1.place.map vi) := hn2.rep.rows .place rfl; clear hro hgrow hnew s0 f0 hrow e1 e2)
          | (at_builtin; refine app_int rfl (.tmp 26) (.tmp 27) rfl _ _ _ M1.place rfl hrow2 (-1) rfl (by simp) l2 ?_; intro a3 c3 w4 hro hgrow hnew; obtain ⟨hb3, hb4⟩ := hn2.grown .place hgrow q2; obtain ⟨L3, hn3, e3, e4⟩ := Next.newHd hn2 .place (same_place hn2.rep _) (n := M1.place.length + 1) (by simp [lenOf]) hgrow hro hnew; change Next w L M (w4.setCell ⟨L.sb, 2, none⟩ (.slice a3 (M1.place.length + 1) c3)) L3 _ at hn3; have q0 : (w4.setCell ⟨L.sb, 2, none⟩ (.slice a3 (M1.place.length + 1) c3)).cell? ⟨L.sb, 0, none⟩ = some (.slice (L3.hd .vars).a (M1.vars.length + 1) (L3.hd .vars).c) := (by have q := hn3.at 0 rfl; simpa [hdv] using q); clear hro hgrow hnew q2 hrow2 hb1 hb2 e3 e4)
          | (go_at_call 54; refine (push_c hn3.rep hn3.ext.sb HP.out).mono ?_; rintro e w' ⟨rfl, L4, hn4, hk4⟩))
        go_roundg k
        case measure => omega
        case rel => exact ⟨M2, L4, hn3.trans hn4, HU.out⟩
      · rw [if_neg hle] at hu
        simp only [Option.some.injEq] at hu
        subst hu
        go_wp2
        go_quiet ((go_at_call 53; exact quiet_eq (of_c _ _ (by omega) (by omega))))
        go_wp2
        go_end0
        exact ⟨rfl, L1, hn.drewN nq⟩

end Go.Proofs.Ytminhlpbdpbolaa
