/- The next literal is decided. -/
import Derived.Test.YtminhlpbdpbolaaWn
import Derived.Test.YtminhlpbdpbolaaNew
import Derived.Deep.RegionLaw
namespace Go.Proofs.Ytminhlpbdpbolaa
open Go.RowKit Mir

/-- A block that plays no role. -/
def Off (L : Lay) (a : Option Addr) : Prop := ∀ g, blk a = some g → L.ro g = none

theorem Next.keepOff {w w' : World} {L L' : Lay} {M M' : St} (k : Next w L M w' L' M') {E sz : Nat} {a : Option Addr} {n c : Nat} {xs : List Value} (hr : Row w E sz a n c xs) (h : Off L a) : Row w' E sz a n c xs ∧ Off L' a :=
  ⟨hr.keep fun g hg => k.fr.block g (hr.lt hg) (h g hg), fun g hg => (k.ext.ro g (hr.lt hg)).trans (h g hg)⟩

section
variable {w : World} {ops : Array Oper} {o : Oper} {a : Act} {K : Act → World → Prop} {Q : Exit → Act → World → Prop} {E : Prop}

/-- append of one number, as one step of a region that draws. -/
theorem step_int (hgd : o.guard = none) (s x : Operand) (ho : o.op = .call { callee := .builtin .append, args := #[s, x], argTypes := #[23, 23] })
    (a0 : Option Addr) (n c0 : Nat) (xs : List Int) (hs : a.eval s = .slice a0 n c0) (hown : Row w 3 1 a0 n c0 (xs.map vi)) (v : Int)
    {g : Nat} (hx : a.eval x = .slice (some ⟨g, 0, none⟩) 1 1) (hgs : g = w.heap.size) (hn : n < LIM)
    (h : ∀ a' c' w', Row w' 3 1 a' (n + 1) c' ((xs ++ [v]).map vi) → w.grownBy w' (blk a0) → (a' = a0 ∨ ∃ g, a' = some ⟨g, 0, none⟩ ∧ w.heap.size ≤ g) → K (a.put o.dst (.slice a' (n + 1) c')) w') :
    if Region.wanted o (yielded ops a.tmps) = true then Oper.wp Try.prog o a (w.alloc (.cells #[.int .i64 v] 3)) K Q else E := by
  have hw : Region.wanted o (yielded ops a.tmps) = true := by simp [Region.wanted, hgd]
  rw [if_pos hw]
  subst hgs
  obtain ⟨i0, hi, hz0, hz1, hz2⟩ := info_parts Try.info3
  simp only [LIM] at hn
  refine wp_append_row _ s x 23 ho 3 i0 (.int .i64 0) 1 8 Try.underlying23 hi hz0 hz1 hz2 rfl (by decide) a0 n c0 _ hs (hown.alloc _) ⟨w.heap.size, 0, none⟩ 1 1 [vi v] hx (by simp) (by decide) (fun j u hu => cell_new w [vi v] 3 j u hu) (by simp [Value.oneCell']) (by simp only [maxLen]; omega) (by omega) ?_
  intro a' c' w' hr hg hnew
  exact h a' c' w' (by simpa using hr) (grown_alloc hg) (hnew.imp (fun e => e) fun e => ⟨_, e, by simp⟩)
end

def DecideI (w : World) (L : Lay) (M Mf : St) (ax : List Int) (A : Option Addr) (c : Nat) (n : Int) (fine : Bool) (k : Nat) (wr : World) : Prop :=
  ∃ M1 L1, Next w L M wr L1 M1 ∧ Row wr 3 1 A ax.length c (ax.map vi) ∧ Off L1 A ∧ decideL k M1 ax = some (Mf, n, fine)

set_option maxHeartbeats 2000000 in
set_option maxRecDepth 100000 in
theorem decide_c {w : World} {L : Lay} {M Mf : St} {n : Int} {fine : Bool} (h : Rep w L M) {sb : Nat} (hs : L.sb = sb) {ax : List Int} {A : Option Addr} {c N : Nat} (hN : ax.length = N) (hrow : Row w 3 1 A N c (ax.map vi)) (hoff : Off L A)
    (hx : Mir.decide' M ax = some (Mf, n, fine)) :
    Calls Try.prog 35 #[.pointer (some ⟨sb, 0, none⟩), .slice A N c] w fun e w' => e = .returned (.tuple #[.int .i64 n, .bool fine]) ∧ ∃ L', Next w L M w' L' Mf := by
  subst hs hN
  unfold Mir.decide' at hx
  split at hx
  case isFalse => cases hx
  rename_i hlim
  have hlen := hrow.len
  simp only [maxLen] at hlen
  have hlen1 : ax.length ≤ 9223372036854775807 := by omega
  clear hlen
  have HR := Lib.hid hrow
  have HO := Lib.hid hoff
  clear hrow hoff
  have hn := Next.refl h
  go_enter Try.func35, Try.ntmps35
  go_wp2
  go_loopg [] (ax.length + 1) (DecideI w L M Mf ax A c n fine)
  case atStart => exact ⟨M, L, hn, HR.out, HO.out, hx⟩
  case round =>
    clear hn hx HR HO
    obtain ⟨M1, L1, hn, hrow, hoff, hu⟩ := hrel
    cases gk with
    | zero => cases hu
    | succ k =>
      unfold decideL at hu
      have hr := hn.rep
      have hsb := hn.ext.sb
      by_cases hp : M1.limits.length < ax.length
      · rw [if_pos hp] at hu
        simp only [Option.bind_eq_bind, Option.bind_eq_some_iff] at hu
        obtain ⟨m, hm, x, hv, hu⟩ := hu
        obtain ⟨ga, hga⟩ := hrow.pos (by omega)
        subst hga
        have ca : wr.cell? ⟨ga, M1.limits.length, none⟩ = some (.int .i64 m) := hrow.cell (by simp [hm])
        have HU := Lib.hid hu
        have HV := Lib.hid hv
        have HR := Lib.hid hrow
        have HO := Lib.hid hoff
        clear hu hv hm hrow hoff
        go_upto_region 4 with (first
          | (go_at_call 31; refine (level_q hr hsb).mono ?_; rintro e w' ⟨rfl, rfl⟩)
          | (go_at_call 46; refine (value_c hr hsb HV.out).mono ?_; rintro e w' ⟨rfl, d, rfl⟩))
        replace hn := hn.drewN d
        have HR1 : Hid (Row (wr.drewN d) 3 1 (some ⟨ga, 0, none⟩) ax.length c (ax.map vi)) := Lib.hid HR.out
        clear hr ca HR
        generalize wr.drewN d = W1 at *
        by_cases h1 : x = -1
        · subst h1
          have hu := HU.out
          rw [if_pos rfl] at hu
          simp only [Option.pure_def, Option.some.injEq, Prod.mk.injEq] at hu
          obtain ⟨e1, e2, e3⟩ := hu
          subst e1 e2 e3
          go_wp2
          go_ret2
          exact ⟨rfl, L1, hn⟩
        · have hu := HU.out
          rw [if_neg h1] at hu
          have t1 : (x == -1) = false := by simpa using h1
          clear h1
          by_cases h2 : x = 0
          · subst h2
            rw [if_pos rfl] at hu
            simp only [Option.pure_def, Option.some.injEq, Prod.mk.injEq] at hu
            obtain ⟨e1, e2, e3⟩ := hu
            subst e1 e2 e3
            clear HU
            go_wp2
            go_ret2
            exact ⟨rfl, L1, hn⟩
          · rw [if_neg h2] at hu
            have t2 : (x == 0) = false := by simpa using h2
            have HU2 := Lib.hid hu
            clear h2 hu HU HV
            have hr := hn.rep
            have s5 := hn.at 5 rfl
            have s6 := hn.at 6 rfl
            simp only [hdv] at s5 s6
            have s6a : (W1.alloc (.cells #[.int .i64 M1.trail.length] 3)).cell? ⟨L.sb, 6, none⟩ = some (.slice (L1.hd .limits).a M1.limits.length (L1.hd .limits).c) := by
              have q := (hn.alloc (.cells #[.int .i64 M1.trail.length] 3)).at 6 rfl
              simpa only [hdv] using q
            have lrow : Row W1 3 1 (L1.hd .limits).a M1.limits.length (L1.hd .limits).c (M1.limits.map vi) := hr.rows .limits rfl
            have l0 : M1.limits.length < LIM := Nat.lt_trans hp hlim
            have HS : Hid (SameBut M1 { M1 with limits := M1.limits ++ [(M1.trail.length : Int)] } .limits) := Lib.hid (same_limits hr _)
            go_upto_region 8 with (fail)
            go_region_law (refine step_int (w := W1.drew) rfl (.tmp 31) (.tmp 37) rfl _ _ _ M1.limits rfl lrow (M1.trail.length : Int) rfl rfl l0 ?_; intro a' c' w2 hro hgrow hnew; obtain ⟨q1, q2⟩ := Next.grown (hn.drewN 1) .limits hgrow s6)
            all_goals
              have hn3 := (Rep.newHd' (hr.drewN 1) .limits HS.out (n := M1.limits.length + 1) (by simp [lenOf]) hgrow hro hnew).from_drewN
              rw [hsb] at hn3
              have hn2 := hn.trans hn3
              go_wp2
              go_roundg k
              case measure => omega
              case rel =>
                obtain ⟨r1, r2⟩ := hn3.keepOff HR1.out HO.out
                exact ⟨_, _, hn2, r1, r2, HU2.out⟩
      · rw [if_neg hp] at hu
        simp only [Option.bind_eq_bind, Option.bind_eq_some_iff] at hu
        obtain ⟨⟨M2, v⟩, hch, hu⟩ := hu
        dsimp only at hu
        have t1 : decide (M1.limits.length < ax.length) = false := decide_eq_false hp
        have HC := Lib.hid hch
        clear hch hp hrow hoff
        go_upto_region 10 with (first
          | (go_at_call 31; refine (level_q hr hsb).mono ?_; rintro e w' ⟨rfl, rfl⟩)
          | (go_at_call 61; refine (choose_c hr hsb HC.out).mono ?_; rintro e w' ⟨rfl, L2, hn2⟩))
        have hn3 := hn.trans hn2
        have hr3 := hn3.rep
        clear hn hn2 hr hsb
        by_cases hv : 0 < v
        · rw [if_pos hv] at hu
          simp only [Option.bind_eq_some_iff] at hu
          obtain ⟨f, hf, hu⟩ := hu
          obtain ⟨v0, v1, _⟩ := gi_spec hf
          obtain ⟨gv, hgv, rgv, hcell, _⟩ := hr3.var hf
          have s0 := hn3.at 0 rfl
          simp only [hdv, hgv] at s0
          have d4 : w'.cell? ⟨gv, v.toNat * 5 + 4, none⟩ = some (.int .i64 f.phase) := hcell 4 _ rfl
          have vn : v.toNat < M2.vars.length := by omega
          have t2 : decide (0 < v) = true := decide_eq_true hv
          clear hcell hgv hf
          by_cases hph : f.phase = v
          · rw [if_pos hph] at hu
            simp only [Option.pure_def, Option.some.injEq, Prod.mk.injEq] at hu
            obtain ⟨e1, e2, e3⟩ := hu
            subst e1 e2 e3
            have t3 : (f.phase != v) = false := by simpa using hph
            clear hph
            go_wp2
            go_ret2
            exact ⟨rfl, L2, hn3⟩
          · rw [if_neg hph] at hu
            split at hu
            case isFalse => cases hu
            rename_i hok
            simp only [Option.pure_def, Option.some.injEq, Prod.mk.injEq] at hu
            obtain ⟨e1, e2, e3⟩ := hu
            subst e1 e2 e3
            obtain ⟨n0, n1⟩ := ok_spec hok
            have t3 : (f.phase != v) = true := by simpa using hph
            clear hph
            go_wp2
            go_ret2
            exact ⟨rfl, L2, hn3⟩
        · rw [if_neg hv] at hu
          simp only [Option.pure_def, Option.some.injEq, Prod.mk.injEq] at hu
          obtain ⟨e1, e2, e3⟩ := hu
          subst e1 e2 e3
          have t2 : decide (0 < v) = false := decide_eq_false hv
          go_wp2
          go_ret2
          exact ⟨rfl, L2, hn3⟩

end Go.Proofs.Ytminhlpbdpbolaa
