/- The next variable to decide. -/
import Derived.Test.YtminhlpbdpbolaaWd
import Derived.Test.YtminhlpbdpbolaaWf
import Derived.Deep.CutRange
import Derived.Deep.CutBlock
namespace Go.Proofs.Ytminhlpbdpbolaa
open Go.RowKit Mir

def ChooseI (w : World) (L : Lay) (M Mf : St) (v : Int) (k : Nat) (v3 : Value) (wr : World) : Prop :=
  ∃ M1 L1, Next w L M wr L1 M1 ∧ chooseL k M1 = some (Mf, v) ∧ v3 = v3

set_option maxHeartbeats 1000000 in
set_option maxRecDepth 100000 in
theorem choose_c {w : World} {L : Lay} {M Mf : St} {v : Int} (h : Rep w L M) {sb : Nat} (hs : L.sb = sb) (hx : Mir.choose M = some (Mf, v)) :
    Calls Try.prog 61 #[.pointer (some ⟨sb, 0, none⟩)] w fun e w' => e = .returned (.int .i64 v) ∧ ∃ L', Next w L M w' L' Mf := by
  subst hs
  unfold Mir.choose at hx
  have hn := Next.refl h
  go_enter Try.func61, Try.ntmps61
  go_wp2
  go_loopg [3] (M.heap.length + 1) (ChooseI w L M Mf v)
  case atStart => exact ⟨M, L, hn, hx, rfl⟩
  case round =>
    clear hn hx
    obtain ⟨M1, L1, hn, hu, _⟩ := hrel
    cases gk with
    | zero => cases hu
    | succ k =>
      unfold chooseL at hu
      have hr := hn.rep
      have s1 := hn.at 1 rfl
      simp only [hdv] at s1
      by_cases hp : 0 < M1.heap.length
      · rw [if_pos hp] at hu
        simp only [Option.bind_eq_bind, Option.bind_eq_some_iff] at hu
        obtain ⟨⟨M2, u⟩, hpop, f, hf, hu⟩ := hu
        dsimp only at hf hu
        have t1 : decide (0 < (M1.heap.length : Int)) = true := by simp; omega
        have HPOP := Lib.hid hpop
        have HF := Lib.hid hf
        have HU := Lib.hid hu
        clear hpop hf hu
        go_upto_region 3 with (go_at_call 71; refine (pop_c hr hn.ext.sb HPOP.out).mono ?_; rintro e w' ⟨rfl, L2, hn2, _⟩)
        have hn3 := hn.trans hn2
        have hr3 := hn3.rep
        obtain ⟨v0, v1, _⟩ := gi_spec HF.out
        obtain ⟨gv, hgv, rgv, hcell, _⟩ := hr3.var HF.out
        have s0 := hn3.at 0 rfl
        simp only [hdv, hgv] at s0
        have d0 : w'.cell? ⟨gv, u.toNat * 5, none⟩ = some (.int .i64 f.lit) := hcell 0 _ rfl
        have vn : u.toNat < M2.vars.length := by omega
        clear hcell hgv hn2 hn hr s1
        have hu := HU.out
        by_cases hz : f.lit = 0
        · rw [if_pos hz] at hu
          simp only [Option.pure_def, Option.some.injEq, Prod.mk.injEq] at hu
          obtain ⟨e1, e2⟩ := hu
          subst e1 e2
          rw [hz] at d0
          clear hz
          go_wp2
          go_ret
          exact ⟨rfl, L2, hn3⟩
        · rw [if_neg hz] at hu
          have t2 : (f.lit == 0) = false := by simpa using hz
          have HU2 := Lib.hid hu
          clear hu hz
          go_wp2
          go_roundg k
          case measure => omega
          case rel => exact ⟨M2, L2, hn3, HU2.out, rfl⟩
      · rw [if_neg hp] at hu
        simp only [Option.some.injEq, Prod.mk.injEq] at hu
        obtain ⟨e1, e2⟩ := hu
        subst e1 e2
        have t1 : decide (0 < (M1.heap.length : Int)) = false := decide_eq_false (by omega)
        have t2 : decide (0 < M1.heap.length) = false := decide_eq_false hp
        clear hp
        go_wp2
        go_ret
        exact ⟨rfl, L1, hn⟩

end Go.Proofs.Ytminhlpbdpbolaa
