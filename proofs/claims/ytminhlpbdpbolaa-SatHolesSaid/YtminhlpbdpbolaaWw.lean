/- The search: Solve. -/
import Derived.Test.YtminhlpbdpbolaaMis
import Derived.Test.YtminhlpbdpbolaaWv
import Derived.Test.YtminhlpbdpbolaaWp
import Derived.Test.YtminhlpbdpbolaaWq
import Derived.WalkMore
namespace Go.Proofs.Ytminhlpbdpbolaa
open Go.RowKit Mir

def Ans.list : Ans → List Int | .sat m => m | .unsat c => c | .limit => []
def ansV (r : Ans) (a : Option Addr) (c : Nat) : Value :=
  match r with
  | .sat m => .tuple #[.agg #[.bool true, .slice a m.length c, .slice none 0 0], .int .i64 0]
  | .unsat k => .tuple #[.agg #[.bool false, .slice none 0 0, .slice a k.length c], .int .i64 0]
  | .limit => .tuple #[.agg #[.bool false, .slice none 0 0, .slice none 0 0], .int .i64 70]

def SolvePost (w : World) (L : Lay) (M Mf : St) (r : Ans) (e : Ending) (w' : World) : Prop :=
  ∃ L' a c, e = .returned (ansV r a c) ∧ Next w L M w' L' Mf ∧ Row w' 3 1 a (Ans.list r).length c ((Ans.list r).map vi) ∧ Own w L' a

/-- What a call of Solve has of its own: the result's block. -/
structure Res (w0 w : World) (L : Lay) (rb : Nat) : Prop where
  blk : w.heap[rb]? = some (.cells #[.bool false, .slice none 0 0, .slice none 0 0] 29 (0, 0))
  new : L.ro rb = none ∧ w0.heap.size ≤ rb

theorem Res.next {w0 w w' : World} {L L' : Lay} {M M' : St} {rb : Nat} (h : Res w0 w L rb) (q : Next w L M w' L' M') : Res w0 w' L' rb := by
  have hlt : rb < w.heap.size := (Array.getElem?_eq_some_iff.1 h.blk).1
  exact ⟨(q.fr.block rb hlt h.new.1).trans h.blk, (q.ext.ro rb hlt).trans h.new.1, h.new.2⟩

theorem Res.cells {w0 w : World} {L : Lay} {rb : Nat} (h : Res w0 w L rb) : w.cell? ⟨rb, 0, none⟩ = some (.bool false) ∧ w.cell? ⟨rb, 1, none⟩ = some (.slice none 0 0) ∧ w.cell? ⟨rb, 2, none⟩ = some (.slice none 0 0) ∧ ∀ j, w.frozen? ⟨rb, j, none⟩ = false := by
  refine ⟨?_, ?_, ?_, fun j => ?_⟩
  · rw [cell_of_row w rb 0 _ 29 (0, 0) h.blk]; rfl
  · rw [cell_of_row w rb 1 _ 29 (0, 0) h.blk]; rfl
  · rw [cell_of_row w rb 2 _ 29 (0, 0) h.blk]; rfl
  · simp [World.frozen?, h.blk]

/-- The result's block is written. -/
theorem Next.res {w0 w : World} {L0 L : Lay} {M0 M : St} (hn : Next w0 L0 M0 w L M) {rb : Nat} (h : L.ro rb = none ∧ w0.heap.size ≤ rb) (j : Nat) (u : Value) : Next w0 L0 M0 (w.setCell ⟨rb, j, none⟩ u) L M :=
  (hn.side (grownBy_setCell w rb j u) fun g hg => by cases hg; exact h).1

theorem solve_end {w W0 W : World} {L L1 : Lay} {M M1 : St} {rb : Nat} (hn0 : Next w L M W0 L M) (hq : Next W0 L M W L1 M1) (hres : Res w W0 L rb) (x y z : Value) :
    ∃ W', (((W.setCell ⟨rb, 0, none⟩ x).setCell ⟨rb, 1, none⟩ y).setCell ⟨rb, 2, none⟩ z) = W' ∧ Next w L M W' L1 M1 ∧ W'.cell? ⟨rb, 0, none⟩ = some x ∧ W'.cell? ⟨rb, 1, none⟩ = some y ∧ W'.cell? ⟨rb, 2, none⟩ = some z ∧ ∀ b, b ≠ rb → W'.heap[b]? = W.heap[b]? := by
  have hr := hres.next hq
  have q := Next.res (Next.res (Next.res (hn0.trans hq) hr.new 0 x) hr.new 1 y) hr.new 2 z
  have e0 := getElem?_setCell_same W rb 0 x _ 29 (0, 0) hr.blk
  have e1 := getElem?_setCell_same _ rb 1 y _ 29 (0, 0) e0
  have e2 := getElem?_setCell_same _ rb 2 z _ 29 (0, 0) e1
  refine ⟨_, rfl, q, ?_, ?_, ?_, fun b hb => ?_⟩
  · rw [cell_of_row _ rb 0 _ 29 (0, 0) e2]; rfl
  · rw [cell_of_row _ rb 1 _ 29 (0, 0) e2]; rfl
  · rw [cell_of_row _ rb 2 _ 29 (0, 0) e2]; rfl
  · rw [getElem?_setCell_other _ _ _ _ hb, getElem?_setCell_other _ _ _ _ hb, getElem?_setCell_other _ _ _ _ hb]

def GrowsS (w0 : World) (L0 : Lay) (M0 M2 : St) (ax : List Int) (k : Nat) (v26 : Value) (wr : World) : Prop :=
  ∃ (i : Nat) (M1 : St) (L1 : Lay), v26 = .int .i64 (i : Nat) ∧ i ≤ ax.length ∧ k = ax.length - i ∧ Next w0 L0 M0 wr L1 M1 ∧ grows (ax.drop i) M1 = some M2

def SolveO (w0 : World) (L0 : Lay) (M0 Mf : St) (r : Ans) (limit : Int) (ax : List Int) (k : Nat) (v11 : Value) (wr : World) : Prop :=
  ∃ (M1 : St) (L1 : Lay) (count : Int), v11 = .int .i64 count ∧ Next w0 L0 M0 wr L1 M1 ∧ solveT k limit ax true M1 count = some (Mf, r)

def SolveI (w0 : World) (L0 : Lay) (M0 Mf : St) (r : Ans) (limit : Int) (ax : List Int) (K : Nat) (k : Nat) (v11 v12 : Value) (wr : World) : Prop :=
  ∃ (M1 : St) (L1 : Lay) (count : Int) (cf : Option Nat), v11 = .int .i64 count ∧ v12 = ptrO L1.cb cf ∧ k ≤ K ∧ (∀ id, cf = some id → id < M1.cls.length) ∧ Next w0 L0 M0 wr L1 M1 ∧
    solveB (solveT k limit ax) M1 cf limit ax count = some (Mf, r)

theorem Own.mono {w0 w1 : World} {L : Lay} {a : Option Addr} (h : Own w1 L a) (hs : w0.heap.size ≤ w1.heap.size) : Own w0 L a := fun g hg => ⟨(h g hg).1, Nat.le_trans hs (h g hg).2⟩

set_option maxHeartbeats 8000000 in
set_option maxRecDepth 100000 in
theorem solve_c {w : World} {L : Lay} {M Mf : St} {r : Ans} (h : Rep w L M) {sb : Nat} (hs : L.sb = sb) {limit : Int} {A : Option Addr} {n c : Nat} {ax : List Int} (hN : ax.length = n) (hrow : Row w 3 1 A n c (ax.map vi)) (hoff : Off L A) (hall : ax.all Mir.right = true)
    (hlen : n ≤ LIM) {k : Nat} (hx : Mir.solveF k M limit ax = some (Mf, r)) :
    Calls Try.prog 14 #[.pointer (some ⟨sb, 0, none⟩), .int .i64 limit, .slice A n c] w (SolvePost w L M Mf r) := by
  subst hs hN
  simp only [Mir.solveF, Option.bind_eq_bind, Option.bind_eq_some_iff] at hx
  obtain ⟨Ma, hback, Mb, hgrows, hx⟩ := hx
  have hn0 : Next w L M ((w.alloc (.cells #[.bool false, .slice none 0 0, .slice none 0 0] 29)).alloc (.cells #[.slice A ax.length c] 23)) L M := ((Next.refl h).alloc _).alloc _
  have hres : Res w ((w.alloc (.cells #[.bool false, .slice none 0 0, .slice none 0 0] 29)).alloc (.cells #[.slice A ax.length c] 23)) L w.heap.size :=
    ⟨by rw [Below.heap_alloc _ _ _ (by simp)]; exact heap_alloc_new w _, h.new (Nat.le_refl _), Nat.le_refl _⟩
  have hcell : ((w.alloc (.cells #[.bool false, .slice none 0 0, .slice none 0 0] 29)).alloc (.cells #[.slice A ax.length c] 23)).cell? ⟨w.heap.size + 1, 0, none⟩ = some (.slice A ax.length c) := by simp
  obtain ⟨hrow0, hoff0⟩ := hn0.keepOff hrow hoff
  have hxl1 : ax.length ≤ 9223372036854775807 := by simp only [LIM] at hlen; omega
  have HCK := Lib.hid (check1_c (c := c) rfl hrow0.reads hxl1 hcell)
  have hbad : badE ax = 0 := by simp [badE, hall]
  rw [hbad] at HCK
  have HROW := Lib.hid hrow0
  have HOFF := Lib.hid hoff0
  have HBACK := Lib.hid hback
  have HGR := Lib.hid hgrows
  have HX := Lib.hid hx
  have HRES := Lib.hid hres
  have HN0 := Lib.hid hn0
  have hq0 := Next.refl hn0.rep
  clear hrow hoff hrow0 hoff0 hback hgrows hx hres hbad hcell hall hn0
  go_enter Try.func14, Try.ntmps14
  go_wp2
  go_step3
  go_upto_region 4 with (go_at_call 27; refine HCK.out.mono ?_; rintro e w' ⟨rfl, rfl⟩)
  clear HCK h
  generalize hrb : w.heap.size = rb at *
  generalize (w.alloc (.cells #[.bool false, .slice none 0 0, .slice none 0 0] 29)).alloc (.cells #[.slice A ax.length c] 23) = W0 at *
  go_wp2_with (go_at_call 28; refine (back_c hq0.rep hq0.ext.sb HBACK.out).mono ?_; rintro e w2 ⟨rfl, L2, hn2⟩)
  go_loopg [26] ax.length (GrowsS W0 L M Mb ax)
  case atStart => exact ⟨0, Ma, L2, rfl, Nat.zero_le _, rfl, hn2, by simpa using HGR.out⟩
  case round =>
    clear hn2 HGR hq0
    obtain ⟨i, M1, L1, rfl, hi, rfl, hq, hg⟩ := hrel
    by_cases hlt : i < ax.length
    · have hlti : (i : Int) < (ax.length : Int) := by omega
      rw [List.drop_eq_getElem_cons hlt] at hg
      have hget : ax[i]? = some ax[i] := List.getElem?_eq_getElem hlt
      generalize ax[i] = x at hg hget
      simp only [grows, Option.bind_eq_bind, Option.bind_eq_some_iff] at hg
      obtain ⟨M3, hg1, hg2⟩ := hg
      obtain ⟨hrow, _⟩ := hq.keepOff HROW.out HOFF.out
      obtain ⟨g, hA⟩ := hrow.pos (by omega)
      subst hA
      have hcel : wr.cell? ⟨g, i, none⟩ = some (.int .i64 x) := hrow.cell (by simp [hget])
      have HG1 := Lib.hid hg1
      have HG2 := Lib.hid hg2
      clear hget hg1 hg2 hrow
      go_wp2_with (go_at_call 29; refine (grow_c hq.rep hq.ext.sb HG1.out).mono ?_; rintro e w4 ⟨rfl, L4, hn4⟩)
      go_roundg (ax.length - (i + 1))
      case measure => omega
      case rel => exact ⟨i + 1, M3, L4, by go_num, hlt, rfl, hq.trans hn4, HG2.out⟩
    · have hie : i = ax.length := by omega
      subst hie
      rw [List.drop_length] at hg
      simp only [grows, Option.some.injEq] at hg
      subst hg
      have HQ := Lib.hid hq
      clear hq
      go_wp2
      go_step3
      go_wp2
      go_loopg [11] k (SolveO W0 L M Mf r limit ax)
      case atStart => exact ⟨M1, L1, 0, rfl, HQ.out, HX.out⟩
      case round =>
        clear HQ HX
        obtain ⟨M2, L2, count, rfl, hq, hu⟩ := hrel
        cases gk with
        | zero => cases hu
        | succ K =>
          unfold solveT at hu
          have s11 := hq.at 11 rfl
          by_cases hbk : M2.broken = true
          · rw [if_pos ⟨rfl, hbk⟩] at hu
            simp only [Option.some.injEq, Prod.mk.injEq] at hu
            obtain ⟨e1, e2⟩ := hu
            subst e1 e2
            rw [hbk] at s11
            obtain ⟨k0, k1, k2, kf⟩ := (HRES.out.next hq).cells
            have kf0 := kf 0
            have kf1 := kf 1
            have kf2 := kf 2
            obtain ⟨W', hW, hn', c0, c1, c2, hoth⟩ := solve_end HN0.out hq HRES.out (.bool false) (.slice none 0 0) (.slice none 0 0)
            have HW := Lib.hid hW
            have HC0 := Lib.hid c0
            have HC1 := Lib.hid c1
            have HC2 := Lib.hid c2
            clear kf hbk hW c0 c1 c2 hoth
            go_wp2
            rw [HW.out]
            try rw [Exit.noGoto_ret]
            exact bodyPost_ret (v := .tuple #[.agg #[.bool false, .slice none 0 0, .slice none 0 0], .int .i64 0]) (by simp [results, Try.results14, go_sem, HC0.out, HC1.out, HC2.out]) rfl ⟨L2, none, 0, rfl, hn', Row.nil _ _ _, fun g hg => by cases hg⟩
          · rw [if_neg fun q => hbk q.2] at hu
            simp only [Option.bind_eq_some_iff] at hu
            obtain ⟨⟨M3, cf⟩, hsp, hu⟩ := hu
            dsimp only at hu
            have hbk2 : M2.broken = false := by simpa using hbk
            rw [hbk2] at s11
            have HSP := Lib.hid hsp
            have HU := Lib.hid hu
            clear hbk hbk2 hsp hu
            go_wp2_with (go_at_call 30; refine (spread_c hq.rep hq.ext.sb HSP.out).mono ?_; rintro e w3 ⟨L3, rfl, hn3, hid3⟩)
            have hq3 := hq.trans hn3
            go_loopg [11, 12] K (SolveI W0 L M Mf r limit ax K)
            case atStart => exact ⟨M3, L3, count, cf, rfl, rfl, Nat.le_refl _, hid3, hq3, HU.out⟩
            case round =>
              clear hq hn3 hq3 HU hid3
              obtain ⟨M4, L4, cnt, cf4, rfl, rfl, hkK, hid4, hq, hu⟩ := hrel
              cases cf4 with
              | some id =>
                rw [show ptrO L4.cb (some id) = .pointer (some ⟨L4.cb id, 0, none⟩) from rfl]
                unfold solveB at hu
                dsimp only at hu
                split at hu
                case isFalse => cases hu
                rename_i hc
                obtain ⟨p0, p1, p2, p3, p4, p5⟩ := hc
                have p1' : M4.conflicts < 1099511627776 := p1
                have p3' : cnt < 1099511627776 := p3
                have hid := hid4 id rfl
                have s8 := hq.at 8 rfl
                have f8 := hq.free 8
                have hq1 := Next.setOwn hq (hit M4) 8 (vi (M4.conflicts + 1)) rfl rfl rfl rfl rfl rfl rfl rfl rfl
                change Next W0 L M (wr.setCell ⟨L.sb, 8, none⟩ (.int .i64 (M4.conflicts + 1))) L4 _ at hq1
                have HU := Lib.hid hu
                clear hu hid4 p1 p3 p4 p5
                go_upto_region 16 with (fail)
                clear s8 f8 hq
                generalize wr.setCell ⟨L.sb, 8, none⟩ (.int .i64 (M4.conflicts + 1)) = W1 at *
                have HLC : Hid (Calls Try.prog 31 #[.pointer (some ⟨L.sb, 0, none⟩)] W1 fun e w' => e = .returned (.int .i64 M4.limits.length) ∧ W1 = w') := level_q hq1.rep hq1.ext.sb
                by_cases hl0 : M4.limits.length = 0
                · have hu := HU.out
                  rw [if_pos hl0] at hu
                  simp only [Option.some.injEq, Prod.mk.injEq] at hu
                  obtain ⟨e1, e2⟩ := hu
                  subst e1 e2
                  have t1 : ((M4.limits.length : Int) == 0) = true := by rw [hl0]; rfl
                  have s11 := hq1.at 11 rfl
                  have f11 := hq1.free 11
                  have hq2 := Next.setOwn hq1 (brk (hit M4)) 11 (.bool true) rfl rfl rfl rfl rfl rfl rfl rfl rfl
                  clear HU hl0
                  obtain ⟨k0, k1, k2, kf⟩ := (HRES.out.next hq2).cells
                  have kf0 := kf 0
                  have kf1 := kf 1
                  have kf2 := kf 2
                  obtain ⟨W', hW, hn', c0, c1, c2, hoth⟩ := solve_end HN0.out hq2 HRES.out (.bool false) (.slice none 0 0) (.slice none 0 0)
                  have HW := Lib.hid hW
                  have HC0 := Lib.hid c0
                  have HC1 := Lib.hid c1
                  have HC2 := Lib.hid c2
                  clear kf hW c0 c1 c2 hoth hq2
                  go_wp2_with (go_at_call 31; refine HLC.out.mono ?_; rintro e w' ⟨rfl, rfl⟩)
                  rw [HW.out]
                  try rw [Exit.noGoto_ret]
                  exact bodyPost_ret (v := .tuple #[.agg #[.bool false, .slice none 0 0, .slice none 0 0], .int .i64 0]) (by simp [results, Try.results14, go_sem, HC0.out, HC1.out, HC2.out]) rfl ⟨L4, none, 0, rfl, hn', Row.nil _ _ _, fun g hg => by cases hg⟩
                · have hu := HU.out
                  rw [if_neg hl0] at hu
                  simp only [Option.bind_eq_bind, Option.bind_eq_some_iff] at hu
                  obtain ⟨⟨M6, lits, b⟩, hlearn, M7, htake, hu⟩ := hu
                  dsimp only at htake hu
                  split at hu
                  case isFalse => cases hu
                  rename_i hb
                  obtain ⟨hb0, hb1⟩ := hb
                  obtain ⟨hb2, hb3⟩ := small_spec hb1
                  have t1 : ((M4.limits.length : Int) == 0) = false := by rw [beq_eq_false_iff_ne]; omega
                  have HLRN := Lib.hid (learn_c hq1.rep hq1.ext.sb (cb := L4.cb id) rfl hlearn)
                  have HQ1 := Lib.hid hq1
                  have HTK := Lib.hid htake
                  have HU2 := Lib.hid hu
                  clear hu htake hlearn HU hl0 hb1 hq1
                  go_upto_region 20 with (first
                    | (go_at_call 31; refine HLC.out.mono ?_; rintro e w' ⟨rfl, rfl⟩)
                    | (go_at_call 33; refine HLRN.out.mono ?_; rintro e w6 ⟨a6, c6, rfl, hn6, hrow6, hown6⟩; have hq6 := HQ1.out.trans hn6; have hown7 := hown6.mono HQ1.out.fr.size)
                    | (go_at_call 32; refine (take_c hq6 rfl rfl hrow6 hown7 HTK.out).mono ?_; rintro e w7 ⟨rfl, L7, hq7⟩))
                  clear hn6 hrow6 hown6 hq6 hown7 HLRN HLC HTK HQ1
                  have s10 := hq7.at 10 rfl
                  have f10 := hq7.free 10
                  have hw0 : Int.tdiv M7.bump 16 = M7.bump / 16 := Int.tdiv_eq_ediv_of_nonneg hb0
                  have hw1 : IntKind.i64.wrap (M7.bump / 16) = M7.bump / 16 := IntWalk.i64_in _ (by omega)
                  have hw2 : IntKind.i64.wrap (1 + M7.bump / 16) = 1 + M7.bump / 16 := IntWalk.i64_in _ (by omega)
                  have hw3 : IntKind.i64.wrap (M7.bump + (1 + M7.bump / 16)) = M7.bump + (1 + M7.bump / 16) := IntWalk.i64_in _ (by omega)
                  have hq8 := (Next.setOwn hq7 (bumped M7) 10 (vi (M7.bump + (1 + M7.bump / 16))) rfl rfl rfl rfl rfl rfl rfl rfl rfl).drew
                  change Next W0 L M (w7.setCell ⟨L.sb, 10, none⟩ (.int .i64 (M7.bump + (1 + M7.bump / 16)))).drew L7 _ at hq8
                  have HQ8 := Lib.hid hq8
                  clear hq7 hq8
                  go_region
                  clear s10 f10 hw0 hw1 hw2 hw3
                  generalize (w7.setCell ⟨L.sb, 10, none⟩ (.int .i64 (M7.bump + (1 + M7.bump / 16)))).drew = W8 at *
                  have hu := HU2.out
                  by_cases hlm : 0 < limit
                  · have t2 : decide (0 < limit) = true := decide_eq_true hlm
                    by_cases hge : limit ≤ cnt + 1
                    · have t3 : decide (limit ≤ cnt + 1) = true := decide_eq_true hge
                      rw [if_pos ⟨hlm, hge⟩] at hu
                      simp only [Option.bind_eq_some_iff, Option.pure_def, Option.some.injEq, Prod.mk.injEq] at hu
                      obtain ⟨M8, hbk8, e1, e2⟩ := hu
                      subst e1 e2
                      have HB8 := Lib.hid hbk8
                      clear hbk8 HU2
                      go_wp2_with (go_at_call 28; refine (back_c HQ8.out.rep HQ8.out.ext.sb HB8.out).mono ?_; rintro e w8 ⟨rfl, L8, hn8⟩; have hq9 := HQ8.out.trans hn8; obtain ⟨k0, k1, k2, kf⟩ := (HRES.out.next hq9).cells; have kf0 := kf 0; have kf1 := kf 1; have kf2 := kf 2; clear kf)
                      clear k0 k1 k2 kf0 kf1 kf2
                      obtain ⟨W', hW, hn', d0, d1, d2, hoth⟩ := solve_end HN0.out hq9 HRES.out (.bool false) (.slice none 0 0) (.slice none 0 0)
                      rw [hW]
                      try rw [Exit.noGoto_ret]
                      exact bodyPost_ret (v := .tuple #[.agg #[.bool false, .slice none 0 0, .slice none 0 0], .int .i64 70]) (by simp [results, Try.results14, go_sem, d0, d1, d2]) rfl ⟨L8, none, 0, rfl, hn', Row.nil _ _ _, fun g hg => by cases hg⟩
                    · have t3 : decide (limit ≤ cnt + 1) = false := decide_eq_false hge
                      rw [if_neg fun q => hge q.2] at hu
                      by_cases h64 : (cnt + 1) % 64 = 0
                      · rw [if_pos h64] at hu
                        simp only [Option.bind_eq_some_iff] at hu
                        obtain ⟨M8, hbk8, hu⟩ := hu
                        have t5 : ((cnt + 1) % 64 == 0) = true := by simpa using h64
                        have HB8 := Lib.hid hbk8
                        have HU3 := Lib.hid hu
                        clear hu hbk8 h64
                        cases gk with
                        | zero => cases HU3.out
                        | succ g2 =>
                          have hu := HU3.out
                          unfold solveT at hu
                          rw [if_neg fun q => Bool.noConfusion q.1] at hu
                          simp only [Option.bind_eq_some_iff] at hu
                          obtain ⟨⟨M9, cf9⟩, hsp9, hu⟩ := hu
                          dsimp only at hu
                          have HSP9 := Lib.hid hsp9
                          have HU4 := Lib.hid hu
                          clear hsp9 hu HU3 HU2
                          go_wp2_with (first
                            | (go_at_call 28; refine (back_c HQ8.out.rep HQ8.out.ext.sb HB8.out).mono ?_; rintro e w8 ⟨rfl, L8, hn8⟩; have hq9 := HQ8.out.trans hn8)
                            | (go_at_call 30; refine (spread_c hq9.rep hq9.ext.sb HSP9.out).mono ?_; rintro e w9 ⟨L9, rfl, hn9, hid9⟩))
                          go_roundg g2
                          case measure => omega
                          case rel => exact ⟨M9, L9, cnt + 1, cf9, rfl, rfl, by omega, hid9, hq9.trans hn9, HU4.out⟩
                      · rw [if_neg h64] at hu
                        simp only [Option.bind_some] at hu
                        have t5 : ((cnt + 1) % 64 == 0) = false := by simpa using h64
                        have HU3 := Lib.hid hu
                        clear hu h64
                        cases gk with
                        | zero => cases HU3.out
                        | succ g2 =>
                          have hu := HU3.out
                          unfold solveT at hu
                          rw [if_neg fun q => Bool.noConfusion q.1] at hu
                          simp only [Option.bind_eq_some_iff] at hu
                          obtain ⟨⟨M9, cf9⟩, hsp9, hu⟩ := hu
                          dsimp only at hu
                          have HSP9 := Lib.hid hsp9
                          have HU4 := Lib.hid hu
                          clear hsp9 hu HU3 HU2
                          go_wp2_with (go_at_call 30; refine (spread_c HQ8.out.rep HQ8.out.ext.sb HSP9.out).mono ?_; rintro e w9 ⟨L9, rfl, hn9, hid9⟩)
                          go_roundg g2
                          case measure => omega
                          case rel => exact ⟨M9, L9, cnt + 1, cf9, rfl, rfl, by omega, hid9, HQ8.out.trans hn9, HU4.out⟩
                  · have t2 : decide (0 < limit) = false := decide_eq_false hlm
                    rw [if_neg fun q => hlm q.1] at hu
                    by_cases h64 : (cnt + 1) % 64 = 0
                    · rw [if_pos h64] at hu
                      simp only [Option.bind_eq_some_iff] at hu
                      obtain ⟨M8, hbk8, hu⟩ := hu
                      have t5 : ((cnt + 1) % 64 == 0) = true := by simpa using h64
                      have HB8 := Lib.hid hbk8
                      have HU3 := Lib.hid hu
                      clear hu hbk8 h64
                      cases gk with
                      | zero => cases HU3.out
                      | succ g2 =>
                        have hu := HU3.out
                        unfold solveT at hu
                        rw [if_neg fun q => Bool.noConfusion q.1] at hu
                        simp only [Option.bind_eq_some_iff] at hu
                        obtain ⟨⟨M9, cf9⟩, hsp9, hu⟩ := hu
                        dsimp only at hu
                        have HSP9 := Lib.hid hsp9
                        have HU4 := Lib.hid hu
                        clear hsp9 hu HU3 HU2
                        go_wp2_with (first
                          | (go_at_call 28; refine (back_c HQ8.out.rep HQ8.out.ext.sb HB8.out).mono ?_; rintro e w8 ⟨rfl, L8, hn8⟩; have hq9 := HQ8.out.trans hn8)
                          | (go_at_call 30; refine (spread_c hq9.rep hq9.ext.sb HSP9.out).mono ?_; rintro e w9 ⟨L9, rfl, hn9, hid9⟩))
                        go_roundg g2
                        case measure => omega
                        case rel => exact ⟨M9, L9, cnt + 1, cf9, rfl, rfl, by omega, hid9, hq9.trans hn9, HU4.out⟩
                    · rw [if_neg h64] at hu
                      simp only [Option.bind_some] at hu
                      have t5 : ((cnt + 1) % 64 == 0) = false := by simpa using h64
                      have HU3 := Lib.hid hu
                      clear hu h64
                      cases gk with
                      | zero => cases HU3.out
                      | succ g2 =>
                        have hu := HU3.out
                        unfold solveT at hu
                        rw [if_neg fun q => Bool.noConfusion q.1] at hu
                        simp only [Option.bind_eq_some_iff] at hu
                        obtain ⟨⟨M9, cf9⟩, hsp9, hu⟩ := hu
                        dsimp only at hu
                        have HSP9 := Lib.hid hsp9
                        have HU4 := Lib.hid hu
                        clear hsp9 hu HU3 HU2
                        go_wp2_with (go_at_call 30; refine (spread_c HQ8.out.rep HQ8.out.ext.sb HSP9.out).mono ?_; rintro e w9 ⟨L9, rfl, hn9, hid9⟩)
                        go_roundg g2
                        case measure => omega
                        case rel => exact ⟨M9, L9, cnt + 1, cf9, rfl, rfl, by omega, hid9, HQ8.out.trans hn9, HU4.out⟩
              | none =>
                rw [show ptrO L4.cb none = .pointer none from rfl]
                unfold solveB at hu
                dsimp only at hu
                split at hu
                case isFalse => cases hu
                rename_i hfew
                obtain ⟨hf1, hf2, hf3⟩ := hfew
                simp only [LIM] at hf3
                simp only [Option.bind_eq_bind, Option.bind_eq_some_iff] at hu
                obtain ⟨⟨M5, n, fine⟩, hdec, hu⟩ := hu
                dsimp only at hu
                have s4 := hq.at 4 rfl
                have s9 := hq.at 9 rfl
                simp only [hdv] at s4
                have t1 : decide (2000 + M4.added / 2 < (M4.learnt.length : Int)) = false := decide_eq_false (by omega)
                have hw1 : IntKind.i64.wrap (2000 + M4.added / 2) = 2000 + M4.added / 2 := IntWalk.i64_in _ (by omega)
                have HDEC := Lib.hid hdec
                have HU := Lib.hid hu
                clear hdec hu hf1 hid4
                go_wp2
                go_quiet (fail)
                replace hq := hq.drewN nq
                clear s4 s9 t1 hw1
                generalize wr.drewN nq = W5 at *
                obtain ⟨hrow, hoff⟩ := hq.keepOff HROW.out HOFF.out
                have HDC := Lib.hid (decide_c (c := c) hq.rep hq.ext.sb rfl hrow hoff HDEC.out)
                clear hrow hoff HDEC
                cases fine with
                | false =>
                  have hu := HU.out
                  simp only [Bool.false_eq_true, if_false, Option.bind_eq_some_iff, Option.pure_def, Option.some.injEq, Prod.mk.injEq] at hu
                  obtain ⟨kk, hcore, e1, e2⟩ := hu
                  subst e1 e2
                  have HCORE := Lib.hid hcore
                  clear hcore HU
                  go_upto_region 30 with (go_at_call 35; refine HDC.out.mono ?_; rintro e w6 ⟨rfl, L6, hn6⟩)
                  have hq6 := hq.trans hn6
                  obtain ⟨hrow, hoff⟩ := hq6.keepOff HROW.out HOFF.out
                  have HCC := Lib.hid (core_c (c := c) hq6.rep hq6.ext.sb rfl hrow hoff HCORE.out)
                  clear hrow hoff hn6 hq
                  go_wp2_with (go_at_call 36; refine HCC.out.mono ?_; rintro e w7 ⟨a7, c7, rfl, hn7, hrow7, hown7⟩; have hq7 := hq6.trans hn7; obtain ⟨k0, k1, k2, kf⟩ := (HRES.out.next hq7).cells; have kf0 := kf 0; have kf1 := kf 1; have kf2 := kf 2; clear kf)
                  clear k0 k1 k2 kf0 kf1 kf2
                  obtain ⟨W', hW, hn', d0, d1, d2, hoth⟩ := solve_end HN0.out hq7 HRES.out (.bool false) (.slice none 0 0) (.slice a7 kk.length c7)
                  rw [hW]
                  try rw [Exit.noGoto_ret]
                  have hlt6 : rb < w6.heap.size := (Array.getElem?_eq_some_iff.1 (HRES.out.next hq6).blk).1
                  exact bodyPost_ret (v := .tuple #[.agg #[.bool false, .slice none 0 0, .slice a7 kk.length c7], .int .i64 0]) (by simp [results, Try.results14, go_sem, d0, d1, d2]) rfl ⟨L6, a7, c7, rfl, hn', hrow7.keep fun g hg => hoth g (by have := (hown7 g hg).2; omega), hown7.mono (by have := (HN0.out.trans hq6).fr.size; exact this)⟩
                | true =>
                  have hu := HU.out
                  simp only [if_true] at hu
                  by_cases hn0' : n = 0
                  · subst hn0'
                    rw [if_pos rfl] at hu
                    split at hu
                    case isFalse => cases hu
                    rename_i hvl
                    simp only [Option.pure_def, Option.some.injEq, Prod.mk.injEq] at hu
                    obtain ⟨e1, e2⟩ := hu
                    subst e1 e2
                    clear HU
                    go_upto_region 32 with (go_at_call 35; refine HDC.out.mono ?_; rintro e w6 ⟨rfl, L6, hn6⟩)
                    have hq6 := hq.trans hn6
                    have HMC := Lib.hid (model_c hq6.rep hq6.ext.sb hvl)
                    clear hn6 hq
                    go_wp2_with (go_at_call 37; refine HMC.out.mono ?_; rintro e w7 ⟨a7, c7, rfl, hn7, hrow7, hown7⟩; have hq7 := hq6.trans hn7; obtain ⟨k0, k1, k2, kf⟩ := (HRES.out.next hq7).cells; have kf0 := kf 0; have kf1 := kf 1; have kf2 := kf 2; clear kf)
                    clear k0 k1 k2 kf0 kf1 kf2
                    obtain ⟨W', hW, hn', d0, d1, d2, hoth⟩ := solve_end HN0.out hq7 HRES.out (.bool true) (.slice a7 (model M5).length c7) (.slice none 0 0)
                    rw [hW]
                    try rw [Exit.noGoto_ret]
                    have hlt6 : rb < w6.heap.size := (Array.getElem?_eq_some_iff.1 (HRES.out.next hq6).blk).1
                    exact bodyPost_ret (v := .tuple #[.agg #[.bool true, .slice a7 (model M5).length c7, .slice none 0 0], .int .i64 0]) (by simp [results, Try.results14, go_sem, d0, d1, d2]) rfl ⟨L6, a7, c7, rfl, hn', hrow7.keep fun g hg => hoth g (by have := (hown7 g hg).2; omega), hown7.mono (by have := (HN0.out.trans hq6).fr.size; exact this)⟩
                  · rw [if_neg hn0'] at hu
                    split at hu
                    case isFalse => cases hu
                    rename_i hll
                    simp only [Option.bind_eq_some_iff] at hu
                    obtain ⟨M6, hset, hu⟩ := hu
                    have t2 : (n == 0) = false := by simpa using hn0'
                    have HSET := Lib.hid hset
                    have HU2 := Lib.hid hu
                    clear hu HU hset hn0'
                    go_upto_region 33 with (go_at_call 35; refine HDC.out.mono ?_; rintro e w6 ⟨rfl, L6, hn6⟩)
                    have hq6 := hq.trans hn6
                    clear hn6 hq HDC
                    have hr6 := hq6.rep
                    have hsb6 := hq6.ext.sb
                    have s5 := hq6.at 5 rfl
                    have s6 := hq6.at 6 rfl
                    simp only [hdv] at s5 s6
                    have s6a : (w6.alloc (.cells #[.int .i64 M5.trail.length] 3)).cell? ⟨L.sb, 6, none⟩ = some (.slice (L6.hd .limits).a M5.limits.length (L6.hd .limits).c) := by
                      have q := (hq6.alloc (.cells #[.int .i64 M5.trail.length] 3)).at 6 rfl
                      simpa only [hdv] using q
                    have lrow : Row w6.drew 3 1 (L6.hd .limits).a M5.limits.length (L6.hd .limits).c (M5.limits.map vi) := hr6.rows .limits rfl
                    have HSM : Hid (SameBut M5 { M5 with limits := M5.limits ++ [(M5.trail.length : Int)] } .limits) := Lib.hid (same_limits hr6 _)
                    have HQ6 := Lib.hid hq6
                    have HR6 := Lib.hid hr6
                    have HLR := Lib.hid lrow
                    clear hq6 hr6 lrow
                    go_region_law (refine step_int (w := w6.drew) ?hgd (.tmp 131) (.tmp 137) ?ho (L6.hd .limits).a M5.limits.length (L6.hd .limits).c M5.limits ?hs HLR.out (M5.trail.length : Int) (g := w6.heap.size) ?hx rfl hll ?_; (case hgd => rfl); (case ho => rfl); (case hs => kernel_rfl); (case hx => kernel_rfl); intro a' c' w8 hro hgrow hnew; obtain ⟨q1, q2⟩ := Next.grown (HQ6.out.drewN 1) .limits hgrow s6)
                    all_goals
                      have hn9 := (Rep.newHd' (HR6.out.drewN 1) .limits HSM.out (n := M5.limits.length + 1) (by simp [lenOf]) hgrow hro hnew).from_drewN
                      rw [hsb6] at hn9
                      have hq9 := HQ6.out.trans hn9
                      change Next W0 L M (w8.setCell ⟨L.sb, 6, none⟩ (.slice a' (M5.limits.length + 1) c')) _ _ at hq9
                      clear hn9 hgrow hro hnew q1 q2 s5 s6 s6a
                      go_wp2_with (go_at_call 38; refine (set_c hq9.rep hq9.ext.sb (why := none) (fun r q => by cases q) HSET.out rfl).mono ?_; rintro e w9 ⟨rfl, L9, hn10, _⟩)
                      go_roundg gk
                      case measure => omega
                      case rel => exact ⟨M6, L9, cnt, rfl, hq9.trans hn10, HU2.out⟩

end Go.Proofs.Ytminhlpbdpbolaa
