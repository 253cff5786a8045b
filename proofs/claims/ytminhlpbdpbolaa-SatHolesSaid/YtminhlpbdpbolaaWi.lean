/- Another literal watched. -/
import Derived.Test.YtminhlpbdpbolaaWg
import Derived.Test.YtminhlpbdpbolaaCla
import Derived.Deep.RegionHeld3
namespace Go.Proofs.Ytminhlpbdpbolaa
open Go.RowKit Mir

theorem swap_get {l : List Int} {i j : Nat} {x y : Int} (hi : l[i]? = some x) (hj : l[j]? = some y) : swap l i j = (l.set i y).set j x := by
  unfold swap
  simp only [List.getD_eq_getElem?_getD, hi, hj, Option.getD_some]

/-- Two literals of a clause exchanged, in memory. -/
theorem Next.swap {w W : World} {L L1 : Lay} {M M1 : St} (hn : Next w L M W L1 M1) {id : Nat} {c : Cl} (hc : M1.cls[id]? = some c) {g : Nat} (hg : (L1.lv id).a = some ⟨g, 0, none⟩) {i j : Nat} {x y : Int}
    (hi : c.lits[i]? = some x) (hj : c.lits[j]? = some y) :
    Next w L M ((W.setCell ⟨g, i, none⟩ (.int .i64 y)).setCell ⟨g, j, none⟩ (.int .i64 x)) L1 (setLits M1 id c (Mir.swap c.lits i j)) := by
  have hli := (List.getElem?_eq_some_iff.1 hi).1
  have hlj := (List.getElem?_eq_some_iff.1 hj).1
  have hlt := (List.getElem?_eq_some_iff.1 hc).1
  have r1 := Rep.setLit hn.rep hc hg i hli y
  have r2 := Rep.setLit r1 (c := { c with lits := c.lits.set i y }) (by simp [hlt]) hg j (by simpa using hlj) x
  have hr : L1.ro g = some (.lits id) := hn.rep.rlits id hlt g (by rw [hg]; rfl)
  have e : setLits M1 id c (Mir.swap c.lits i j) = { M1 with cls := (M1.cls.set id { c with lits := c.lits.set i y }).set id { c with lits := (c.lits.set i y).set j x } } := by
    simp [setLits, swap_get hi hj]
  rw [e]
  exact hn.trans ⟨r2, ((Fr.refl _ _).setCell (fun _ => by simp [hr]) _).setCell (fun _ => by simp [hr]) _, Ext.refl _ _ _, by simp⟩

theorem held_cells {w w' : World} {a b c : Nat} {i j k : Nat} {x y z : Value} (h1 : w.cell? ⟨a, i, none⟩ = some x) (h2 : w.cell? ⟨b, j, none⟩ = some y) (h3 : w.cell? ⟨c, k, none⟩ = some z)
    (e1 : w'.heap[a]? = w.heap[a]?) (e2 : w'.heap[b]? = w.heap[b]?) (e3 : w'.heap[c]? = w.heap[c]?) : w'.cell? ⟨a, i, none⟩ = some x ∧ w'.cell? ⟨b, j, none⟩ = some y ∧ w'.cell? ⟨c, k, none⟩ = some z :=
  ⟨(World.cell?_of_block (a := ⟨a, i, none⟩) e1).trans h1, (World.cell?_of_block (a := ⟨b, j, none⟩) e2).trans h2, (World.cell?_of_block (a := ⟨c, k, none⟩) e3).trans h3⟩

def MovedI (w : World) (L : Lay) (M M1 : St) (id : Nat) (n : Int) (r : St × Bool) (k : Nat) (kv : Value) (wr : World) : Prop :=
  ∃ i : Nat, kv = .int .i64 (i : Nat) ∧ 2 ≤ i ∧ Next w L M wr L M1 ∧ movedL k M1 id n i = some r

set_option maxHeartbeats 4000000 in
set_option maxRecDepth 100000 in
theorem moved_c {w : World} {L : Lay} {M Mf : St} {gone : Bool} (h : Rep w L M) {sb : Nat} (hs : L.sb = sb) {id cb : Nat} (hcb : L.cb id = cb) {n : Int} (hx : Mir.moved M id n = some (Mf, gone)) :
    Calls Try.prog 55 #[.pointer (some ⟨sb, 0, none⟩), .pointer (some ⟨cb, 0, none⟩), .int .i64 n] w fun e w' => e = .returned (.bool gone) ∧ ∃ L', Next w L M w' L' Mf ∧ L'.wv n = L.wv n := by
  subst hs hcb
  unfold Mir.moved at hx
  split at hx
  case isFalse => cases hx
  rename_i hok
  obtain ⟨n0, n1⟩ := ok_spec hok
  simp only [Option.bind_eq_bind, Option.bind_eq_some_iff] at hx
  obtain ⟨c, hc, l0, hl0, l1, hl1, x, hv, hx⟩ := hx
  have hid : id < M.cls.length := (List.getElem?_eq_some_iff.1 hc).1
  have hlen : 2 ≤ c.lits.length := by have := (List.getElem?_eq_some_iff.1 hl1).1; omega
  obtain ⟨k0, _, _, kf⟩ := h.clause hc
  have row := h.lits id c hc rfl
  obtain ⟨gl, hgl⟩ := row.pos (by omega)
  have hcap := row.len
  simp only [maxLen] at hcap
  have hbig : c.lits.length ≤ 9223372036854775807 := by omega
  simp only [hdv, hgl] at k0
  rw [hgl] at row
  have d0 : w.cell? ⟨gl, 0, none⟩ = some (.int .i64 l0) := row.cell (by simp [hl0])
  have d1 : w.cell? ⟨gl, 1, none⟩ = some (.int .i64 l1) := row.cell (by simp [hl1])
  have e0 := row.free 0
  have e1 := row.free 1
  have hpos0 : 0 < c.lits.length := by omega
  have hpos1 : 1 < c.lits.length := by omega
  have HC := Lib.hid hc
  have HG := Lib.hid hgl
  have HL0 := Lib.hid hl0
  have HL1 := Lib.hid hl1
  have HV := Lib.hid hv
  have HX := Lib.hid hx
  clear hc hl0 hl1 hgl row hcap hv hx hlen hok
  go_enter Try.func55, Try.ntmps55
  go_upto_if 16 with (fail)
  go_cut [] from 17 to 38 (fun wc => Next w L M wc L (if l0 = -n then setLits M id c (Mir.swap c.lits 0 1) else M))
  case first =>
    by_cases hl : l0 = -n
    · have ht : (l0 == -n) = true := by simpa using hl
      have HL := Lib.hid hl
      clear hl
      go_wp2
      go_region
      go_wp2
      go_meet
      case rel =>
        rw [if_pos HL.out]
        exact (Next.swap (Next.refl h) HC.out HG.out HL0.out HL1.out).drew
    · have ht : (l0 == -n) = false := by simpa using hl
      go_wp2
      go_meet
      case rel =>
        rw [if_neg hl]
        exact Next.refl h
  case rest =>
    obtain ⟨M1, c1, hM, hc1, hh, hlen1, hw1⟩ : ∃ M1 c1, (if l0 = -n then setLits M id c (Mir.swap c.lits 0 1) else M) = M1 ∧ M1.cls[id]? = some c1 ∧ c1.lits[0]? = some (if l0 = -n then l1 else l0) ∧ c1.lits.length = c.lits.length ∧ M1.wat = M.wat := by
      by_cases hl : l0 = -n
      · refine ⟨setLits M id c (Mir.swap c.lits 0 1), { c with lits := Mir.swap c.lits 0 1 }, by rw [if_pos hl], ?_, ?_, by simp [Mir.swap], rfl⟩
        · simp [setLits, hid]
        · rw [if_pos hl]
          simp only [swap_get HL0.out HL1.out]
          rw [List.getElem?_set_ne (by decide), List.getElem?_set_self (by omega)]
      · exact ⟨_, c, by rw [if_neg hl], HC.out, by rw [if_neg hl]; exact HL0.out, rfl, rfl⟩
    have hv := HV.out
    have hx := HX.out
    simp only [hM] at hv hx
    rw [hM] at hcut
    clear HV HX hM k0 d0 d1 e0 e1 kf
    generalize (if l0 = -n then l1 else l0) = hd at hh hv
    have hr := hcut.rep
    obtain ⟨q0, _, _, qf⟩ := hr.clause hc1
    have row := hr.lits id c1 hc1 rfl
    have s3 := hcut.at 3 rfl
    simp only [hdv, HG.out, hlen1] at q0
    rw [HG.out] at row
    have d0 : wc.cell? ⟨gl, 0, none⟩ = some (.int .i64 hd) := row.cell (by simp [hh])
    by_cases h1 : x = 1
    · subst h1
      rw [if_pos rfl] at hx
      simp only [Option.pure_def, Option.some.injEq, Prod.mk.injEq] at hx
      obtain ⟨rfl, rfl⟩ := hx
      clear hc1 hh row
      go_wp2_with (go_at_call 46; refine (value_c hr rfl hv).mono ?_; rintro e w' ⟨rfl, d, rfl⟩)
      go_ret
      exact ⟨rfl, L, hcut.drewN d, rfl⟩
    · rw [if_neg h1] at hx
      split at hx
      case isFalse => cases hx
      rename_i hlim
      have ht : (x == 1) = false := by simpa using h1
      have HC1 := Lib.hid hc1
      have HR := Lib.hid row
      have HX := Lib.hid hx
      have HLM := Lib.hid hlim
      have HL1' := Lib.hid hlen1
      clear hc1 hh row hx hlim hlen1 h1
      go_wp2_with (go_at_call 46; refine (value_c hr rfl hv).mono ?_; rintro e w' ⟨rfl, d, rfl⟩)
      go_loopg [7] (c.lits.length + 1) (MovedI w L M M1 id n (Mf, gone))
      case atStart => exact ⟨2, rfl, Nat.le_refl _, hcut.drewN d, HX.out⟩
      case round =>
        obtain ⟨i, rfl, hi2, hn, hu⟩ := hrel
        cases gk with
        | zero => cases hu
        | succ k =>
          unfold movedL at hu
          simp only [HC1.out, Option.bind_eq_bind, Option.bind_some] at hu
          have hr2 := hn.rep
          obtain ⟨q0', _, _, qf'⟩ := hr2.clause HC1.out
          have row := hr2.lits id c1 HC1.out rfl
          simp only [hdv, HG.out, HL1'.out] at q0'
          rw [HG.out] at row
          cases hm : c1.lits[i]? with
          | none =>
            rw [hm] at hu
            simp only [Option.pure_def, Option.some.injEq, Prod.mk.injEq] at hu
            obtain ⟨rfl, rfl⟩ := hu
            have hge : ¬ (i : Int) < c.lits.length := by have := List.getElem?_eq_none_iff.1 hm; have := HL1'.out; omega
            clear row hm
            go_wp2
            go_ret
            exact ⟨rfl, L, hn, rfl⟩
          | some m =>
            rw [hm] at hu
            simp only [Option.bind_eq_some_iff] at hu
            obtain ⟨y, hy, hu⟩ := hu
            have hlt := (List.getElem?_eq_some_iff.1 hm).1
            have hlt' : i < c.lits.length := by have := HL1'.out; omega
            have hlti : (i : Int) < c.lits.length := by omega
            have di : wr.cell? ⟨gl, i, none⟩ = some (.int .i64 m) := row.cell (by simp [hm])
            by_cases hy1 : y = -1
            · subst hy1
              rw [if_pos rfl] at hu
              have HU := Lib.hid hu
              have HM := Lib.hid hm
              clear hu hm row hlt
              go_wp2_with (go_at_call 46; refine (value_c hr2 rfl hy).mono ?_; rintro e w' ⟨rfl, d2, rfl⟩)
              go_roundg k
              case measure => omega
              case rel => exact ⟨i + 1, by go_num, by omega, hn.drewN d2, HU.out⟩
            · rw [if_neg hy1] at hu
              split at hu
              case isFalse => cases hu
              rename_i hcond
              simp only [Option.bind_eq_some_iff, Option.pure_def, Option.some.injEq, Prod.mk.injEq] at hu
              obtain ⟨M2, ha, rfl, rfl⟩ := hu
              obtain ⟨z, hz⟩ : ∃ z, c1.lits[1]? = some z := ⟨_, List.getElem?_eq_getElem hcond.1⟩
              have dz : wr.cell? ⟨gl, 1, none⟩ = some (.int .i64 z) := row.cell (by simp [hz])
              have e0 := row.free 1
              have e1 := row.free i
              have hin : i ≠ 1 := by omega
              have hin' : ¬ 1 = i := by omega
              obtain ⟨m0, m1⟩ : -1048576 ≤ m ∧ m ≤ 1048576 := by
                unfold value at hy
                split at hy
                · rename_i hq; exact ok_spec hq
                · cases hy
              have hyt : (y != -1) = true := by simpa using hy1
              have HZ := Lib.hid hz
              have HM := Lib.hid hm
              have HCD := Lib.hid hcond
              have HA := Lib.hid ha
              clear ha hcond hm hz row hlt hy1
              go_upto_region 9 with (go_at_call 46; refine (value_c hr2 rfl hy).mono ?_; rintro e w' ⟨rfl, d2, rfl⟩)
              replace hn := hn.drewN d2
              replace q0' : (wr.drewN d2).cell? ⟨L.cb id, 0, none⟩ = some (.slice (some ⟨gl, 0, none⟩) c.lits.length (L.lv id).c) := q0'
              replace dz : (wr.drewN d2).cell? ⟨gl, 1, none⟩ = some (.int .i64 z) := dz
              replace di : (wr.drewN d2).cell? ⟨gl, i, none⟩ = some (.int .i64 m) := di
              replace e0 : (wr.drewN d2).frozen? ⟨gl, 1, none⟩ = false := e0
              replace e1 : (wr.drewN d2).frozen? ⟨gl, i, none⟩ = false := e1
              clear qf' hr2 hy
              generalize wr.drewN d2 = W0 at *
              go_region
              have hn9 := (Next.swap hn HC1.out HG.out HZ.out HM.out).drew
              clear q0' dz di e0 e1 hn
              generalize ((W0.setCell ⟨gl, 1, none⟩ (.int .i64 m)).setCell ⟨gl, i, none⟩ (.int .i64 z)).drew = W9 at *
              have ha := HA.out
              have hsw : Mir.swap c1.lits 1 i = (c1.lits.set 1 m).set i z := swap_get HZ.out HM.out
              have hc9 : (setLits M1 id c1 (Mir.swap c1.lits 1 i)).cls[id]? = some { c1 with lits := Mir.swap c1.lits 1 i } := by
                have := (List.getElem?_eq_some_iff.1 HC1.out).1
                simp [setLits, this]
              have hg1 : (Mir.swap c1.lits 1 i)[1]? = some m := by
                have := (List.getElem?_eq_some_iff.1 HZ.out).1
                rw [hsw, List.getElem?_set_ne (by omega), List.getElem?_set_self (by omega)]
              have hlen9 : (Mir.swap c1.lits 1 i).length = c.lits.length := by simp [Mir.swap, HL1'.out]
              generalize setLits M1 id c1 (Mir.swap c1.lits 1 i) = M9 at *
              clear hsw
              generalize Mir.swap c1.lits 1 i = l9 at *
              unfold addW at ha
              split at ha
              case isFalse => cases ha
              rename_i hlim9
              simp only [Option.some.injEq] at ha
              subst ha
              have hr9 := hn9.rep
              obtain ⟨q9, _, _, _⟩ := hr9.clause hc9
              have row9 := hr9.lits id _ hc9 rfl
              have s9 := hn9.at 3 rfl
              simp only [hdv, HG.out, hlen9] at q9
              rw [HG.out] at row9
              have d9 : W9.cell? ⟨gl, 1, none⟩ = some (.int .i64 m) := row9.cell (by simp [hg1])
              obtain ⟨lrow, lrole⟩ := hr9.lookRow (-m)
              have hid9 : id < M9.cls.length := (List.getElem?_eq_some_iff.1 hc9).1
              have rl9 : L.ro gl = some (.lits id) := hr9.rlits id hid9 gl (by rw [HG.out]; rfl)
              have rc9 : L.ro (L.cb id) = some (.cl id) := hr9.rcl id hid9
              have rs9 : L.ro L.sb = some .slv := hr9.rslv
              have HC9 := Lib.hid hc9
              clear hc9 hg1 hlen9 row9 hw1
              go_upto_region 10 with (fail)
              go_cut [] from 91 to 116 (fun wc => ∃ L', Next w L M wc L' { M9 with wat := put M9.wat (-m) (Mir.look M9.wat (-m) ++ [id]) } ∧ L'.wv n = L.wv n)
              case first =>
                have hwn : IntKind.i64.wrap (-m) = -m := IntWalk.i64_in _ (by omega)
                have hl1 : (Instr.lookup 50 (.map (some L.mb)) (.int .i64 (-m)) false).run Try.prog W9.drew = .ok (.slice (watHd L M9.wat (-m)).a (Mir.look M9.wat (-m)).length (watHd L M9.wat (-m)).c) W9.drew := Rep.look (hr9.drewN 1) (-m)
                have hl2 : (Instr.lookup 50 (.map (some L.mb)) (.int .i64 (-m)) false).run Try.prog (W9.alloc (.cells #[.pointer (some ⟨L.cb id, 0, none⟩)] 54)).drew = .ok (.slice (watHd L M9.wat (-m)).a (Mir.look M9.wat (-m)).length (watHd L M9.wat (-m)).c) (W9.alloc (.cells #[.pointer (some ⟨L.cb id, 0, none⟩)] 54)).drew := Rep.look ((hr9.alloc _).drewN 1) (-m)
                have hpI : (1 : Int) < (c.lits.length : Int) := by omega
                have hpI0 : (0 : Int) ≤ 1 := by omega
                have S0 : W9.drew.cell? ⟨L.sb, 3, none⟩ = some (.map (some L.mb)) ∧ W9.drew.cell? ⟨L.cb id, 0, none⟩ = some (.slice (some ⟨gl, 0, none⟩) c.lits.length (L.lv id).c) ∧ W9.drew.cell? ⟨gl, 1, none⟩ = some (.int .i64 m) := ⟨s9, q9, d9⟩
                have S1 : (W9.alloc (.cells #[.pointer (some ⟨L.cb id, 0, none⟩)] 54)).drew.cell? ⟨L.sb, 3, none⟩ = some (.map (some L.mb)) ∧ (W9.alloc (.cells #[.pointer (some ⟨L.cb id, 0, none⟩)] 54)).drew.cell? ⟨L.cb id, 0, none⟩ = some (.slice (some ⟨gl, 0, none⟩) c.lits.length (L.lv id).c) ∧ (W9.alloc (.cells #[.pointer (some ⟨L.cb id, 0, none⟩)] 54)).drew.cell? ⟨gl, 1, none⟩ = some (.int .i64 m) :=
                  ⟨(World.cell?_of_block (a := ⟨L.sb, 3, none⟩) (Below.heap_alloc _ _ _ (hr9.fresh _ (by rw [rs9]; simp)))).trans s9, (World.cell?_of_block (a := ⟨L.cb id, 0, none⟩) (Below.heap_alloc _ _ _ (hr9.fresh _ (by rw [rc9]; simp)))).trans q9, (World.cell?_of_block (a := ⟨gl, 1, none⟩) (Below.heap_alloc _ _ _ (hr9.fresh _ (by rw [rl9]; simp)))).trans d9⟩
                go_region_held3 (fun W => W.cell? ⟨L.sb, 3, none⟩ = some (.map (some L.mb)) ∧ W.cell? ⟨L.cb id, 0, none⟩ = some (.slice (some ⟨gl, 0, none⟩) c.lits.length (L.lv id).c) ∧ W.cell? ⟨gl, 1, none⟩ = some (.int .i64 m)) (first | exact S0 | exact S1 | exact S2 | exact S3)
                  ((refine step_ptr (w := W9.drew) rfl (.tmp 113) (.tmp 115) rfl _ _ _ L.cb (Mir.look M9.wat (-m)) rfl lrow id rfl rfl rfl hlim9 ?_; intro a' c' w2 hrow hgrow hnew; obtain ⟨hb3, w3, hup, hnx, hk2, hk3⟩ := addW_step hn9 lrow lrole hgrow hrow hnew hid9; have S2 := held_cells s9 q9 d9 (hk2 _ _ rs9 (by simp)) (hk2 _ _ rc9 (by simp)) (hk2 _ _ rl9 (by simp)); have S3 := held_cells s9 q9 d9 (hk3 _ _ rs9 (by simp) (by simp)) (hk3 _ _ rc9 (by simp) (by simp)) (hk3 _ _ rl9 (by simp) (by simp)); clear hgrow hrow hnew hk2 hk3 hb3))
                all_goals
                  go_wp2
                  go_meet
                  case rel => exact ⟨_, hnx, if_neg fun q => HCD.out.2 (Eq.symm q)⟩
              case rest =>
                obtain ⟨L9, hn10, hw10⟩ := hcut
                go_wp2
                go_ret
                exact ⟨rfl, L9, hn10, hw10⟩

end Go.Proofs.Ytminhlpbdpbolaa
