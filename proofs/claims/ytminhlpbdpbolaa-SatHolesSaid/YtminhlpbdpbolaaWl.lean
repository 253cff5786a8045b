/- A clause is learnt. -/
import Derived.Test.YtminhlpbdpbolaaGat
import Derived.Test.YtminhlpbdpbolaaCla
import Derived.Test.YtminhlpbdpbolaaWi
namespace Go.Proofs.Ytminhlpbdpbolaa
open Go.RowKit Mir

theorem Try.underlying80 : Try.prog.underlying 80 = some (.map 3 4) := by kernel_rfl
theorem mk_map {P : Program} (t : TypeId) (w : World) : (Instr.makeMap t none).run P w = .ok (.map (some w.heap.size)) (w.alloc (.map #[] 0)) := rfl

theorem Held.start {w : World} {L : Lay} {M : St} (h : Rep w L M) : Held w ((w.alloc (.cells #[.int .i64 0] 3)).alloc (.map #[] 0)) L (some ⟨w.heap.size, 0, none⟩) 1 (w.heap.size + 1) [0] [] := by
  have hn := Next.refl h
  have e0 : ((w.alloc (.cells #[.int .i64 0] 3)).alloc (.map #[] 0)).heap[w.heap.size]? = some (.cells #[.int .i64 0] 3 (0, 0)) := by
    rw [Below.heap_alloc _ _ _ (by simp)]
    exact heap_alloc_new w _
  have e1 : ((w.alloc (.cells #[.int .i64 0] 3)).alloc (.map #[] 0)).heap[w.heap.size + 1]? = some (.map #[] 0) := by
    have := heap_alloc_new (w.alloc (.cells #[.int .i64 0] 3)) (.map #[] 0)
    simpa using this
  have hnew : ∀ g, w.heap.size ≤ g → L.ro g = none := fun g hg => by
    cases hro : L.ro g with
    | none => rfl
    | some r => have := h.fresh g (by rw [hro]; simp); omega
  refine ⟨⟨rfl, .inr ⟨w.heap.size, _, rfl, e0, by simp, by simp [maxLen], rfl, rfl⟩⟩, hn.newOwn (Nat.le_refl _), ⟨#[], 0, e1, rfl⟩, hnew _ (by omega), by omega⟩

theorem Try.zero4 (w : World) : (zeroValue 4).run Try.prog w = .ok (.bool false) w := by kernel_rfl

def LearnO (w : World) (L : Lay) (M Mz : St) (nz : Int) (gz : Got) (mb : Nat) (k : Nat) (v1 v6 v8 v9 v10 : Value) (wr : World) : Prop :=
  ∃ M1 id n at' g a c, v1 = .pointer (some ⟨L.cb id, 0, none⟩) ∧ v6 = .slice a g.out.length c ∧ v8 = .int .i64 g.count ∧ v9 = .int .i64 at' ∧ v10 = .int .i64 n ∧
    Next w L M wr L M1 ∧ Held w wr L a c mb g.out g.seen ∧ learnL k M1 id n at' g = some (Mz, nz, gz) ∧ M1.trail = M.trail ∧ (k : Int) ≤ g.count + M.trail.length + 1 ∧ 0 < g.out.length ∧ g.count ≤ 1099511627776

def GatherI (w : World) (L : Lay) (M Mz : St) (n : Int) (gz : Got) (mb : Nat) (lits : List Int) (cls : List Cl) (low : Int) (k : Nat) (v38 v6 v8 : Value) (wr : World) : Prop :=
  ∃ M1 i g a c, v38 = .int .i64 (i : Nat) ∧ v6 = .slice a g.out.length c ∧ v8 = .int .i64 g.count ∧ i ≤ lits.length ∧ k = lits.length - i ∧
    Next w L M wr L M1 ∧ Held w wr L a c mb g.out g.seen ∧ gather (lits.drop i) M1 n g = some (Mz, gz) ∧ M1.trail = M.trail ∧ M1.cls = cls ∧ low ≤ g.count ∧ 0 < g.out.length ∧ g.count ≤ 1099511627776

def SeekI (W : World) (M2 : St) (seen : List Int) (x : Int) (k : Nat) (v9 : Value) (wr : World) : Prop :=
  ∃ at', v9 = .int .i64 at' ∧ wr = W ∧ seek k M2 seen at' = some x

/-- A clause's score in the course of a call. -/
def OrderI (w : World) (L : Lay) (M Mz : St) (g c mb : Nat) (seen : List Int) (N : Nat) (fin : List Int) (bk : Int) (k : Nat) (v14 v128 : Value) (wr : World) : Prop :=
  ∃ o i b, v128 = .int .i64 (i : Nat) ∧ v14 = .int .i64 b ∧ o.length = N ∧ i + 1 ≤ N ∧ k = N - 1 - i ∧ Next w L M wr L Mz ∧ Held w wr L (some ⟨g, 0, none⟩) c mb o seen ∧
    order (N + 1 - i) Mz o b (i + 1) = some (fin, bk)

theorem Next.setScore {w W : World} {L L1 : Lay} {M M1 : St} (hn : Next w L M W L1 M1) {id : Nat} {c : Cl} (hc : M1.cls[id]? = some c) (x : Int) :
    Next w L M (W.setCell ⟨L1.cb id, 2, none⟩ (.int .i64 x)) L1 { M1 with cls := M1.cls.set id { c with score := x } } :=
  hn.trans ⟨Rep.setScore hn.rep hc x, (Fr.refl _ _).setCell (fun _ => by simp [hn.rep.rcl id (List.getElem?_eq_some_iff.1 hc).1]) _, Ext.refl _ _ _, by simp⟩

theorem Held.cell {w0 w : World} {L : Lay} {a : Option Addr} {c mb : Nat} {out seen : List Int} (h : Held w0 w L a c mb out seen) {p : Addr} {r : Role} (hr : L.ro p.block = some r) (u : Value) : Held w0 (w.setCell p u) L a c mb out seen := by
  obtain ⟨es, ck, h1, h2⟩ := h.map
  refine ⟨h.row.keep fun g hg => getElem?_setCell_other _ _ _ _ ?_, h.own, ⟨es, ck, (getElem?_setCell_other _ _ _ _ ?_).trans h1, h2⟩, h.new⟩
  · rintro rfl
    rw [(h.own _ hg).1] at hr
    cases hr
  · rintro rfl
    rw [h.new.1] at hr
    cases hr

set_option maxHeartbeats 4000000 in
set_option maxRecDepth 100000 in
theorem learn_c {w : World} {L : Lay} {M Mf : St} {lits : List Int} {b : Int} (h : Rep w L M) {sb : Nat} (hs : L.sb = sb) {id cb : Nat} (hcb : L.cb id = cb) (hx : Mir.learn M id = some (Mf, lits, b)) :
    Calls Try.prog 33 #[.pointer (some ⟨sb, 0, none⟩), .pointer (some ⟨cb, 0, none⟩)] w fun e w' => ∃ a c, e = .returned (.tuple #[.slice a lits.length c, vi b]) ∧ Next w L M w' L Mf ∧ Row w' 3 1 a lits.length c (lits.map vi) ∧ Own w L a := by
  subst hs hcb
  unfold Mir.learn at hx
  split at hx
  case isFalse => cases hx
  rename_i hlim
  simp only [Option.bind_eq_bind, Option.bind_eq_some_iff] at hx
  obtain ⟨⟨M1, n, g⟩, hl, hx⟩ := hx
  split at hx
  case isFalse => cases hx
  rename_i hok
  simp only [Option.bind_eq_some_iff, Option.pure_def, Option.some.injEq, Prod.mk.injEq] at hx
  obtain ⟨⟨out, bk⟩, hord, rfl, rfl, rfl⟩ := hx
  have s5 := h.at 5 rfl
  simp only [hdv] at s5
  have HL := Lib.hid hl
  have HORD := Lib.hid hord
  have HOK := Lib.hid hok
  have hlim1 : M.trail.length ≤ 1099511627776 := hlim
  clear hl hord hok hlim
  go_enter Try.func33, Try.ntmps33
  have hmk : (Instr.makeMap 80 none).run Try.prog (w.alloc (.cells #[.int .i64 0] 3)) = .ok (.map (some (w.heap.size + 1))) ((w.alloc (.cells #[.int .i64 0] 3)).alloc (.map #[] 0)) := by
    rw [mk_map]
    simp
  go_upto_region 2 with (fail)
  have hn := ((Next.refl h).alloc (.cells #[.int .i64 0] 3)).alloc (.map #[] 0)
  have hh := Held.start h
  clear s5 hmk h
  generalize hmb : w.heap.size + 1 = mb at *
  generalize (w.alloc (.cells #[.int .i64 0] 3)).alloc (.map #[] 0) = W0 at *
  have s5 := hn.at 5 rfl
  simp only [hdv] at s5
  go_quiet (fail)
  replace hn := hn.drewN nq
  replace hh := hh.drewN nq
  clear s5
  generalize W0.drewN nq = W1 at *
  go_wp2
  go_loopg [1, 6, 8, 9, 10] (M.trail.length + 1) (LearnO w L M M1 n g mb)
  case atStart => exact ⟨M, id, 0, M.trail.length - 1, ⟨[0], [], 0⟩, _, 1, rfl, rfl, rfl, rfl, rfl, hn, hh, HL.out, rfl, by simp, by simp, by simp⟩
  case round =>
    clear hn hh HL
    obtain ⟨Ma, ida, na, at', ga, a, c, rfl, rfl, rfl, rfl, rfl, hn, hh, hu, htr, hlow, hne, hup0⟩ := hrel
    cases gk with
    | zero => cases hu
    | succ k =>
      unfold learnL at hu
      simp only [Option.bind_eq_bind, Option.bind_eq_some_iff] at hu
      obtain ⟨cl, hcl, ⟨M2, g2⟩, hga, x, hse, m, hm, hu⟩ := hu
      dsimp only at hse hm hu
      have hr := hn.rep
      have s8 := hn.at 8 rfl
      obtain ⟨_, _, k2, kf⟩ := hr.clause hcl
      have kf2 := kf 2
      have hn2 := hn.setScore hcl Ma.conflicts
      have hh2 := hh.cell (p := ⟨L.cb ida, 2, none⟩) (hr.rcl ida (List.getElem?_eq_some_iff.1 hcl).1) (.int .i64 Ma.conflicts)
      have HC := Lib.hid (show ({ Ma with cls := Ma.cls.set ida { cl with score := Ma.conflicts } } : St).cls[ida]? = some { cl with score := Ma.conflicts } by simp [(List.getElem?_eq_some_iff.1 hcl).1])
      have HGA := Lib.hid hga
      have HSE := Lib.hid hse
      have HM := Lib.hid hm
      have HU := Lib.hid hu
      have HTR : Hid (({ Ma with cls := Ma.cls.set ida { cl with score := Ma.conflicts } } : St).trail = M.trail) := Lib.hid htr
      clear hcl hga hse hm hu kf htr
      go_upto_region 4 with (fail)
      clear s8 k2 kf2 hn hr hh
      generalize wr.setCell ⟨L.cb ida, 2, none⟩ (.int .i64 Ma.conflicts) = W2 at *
      generalize ({ Ma with cls := Ma.cls.set ida { cl with score := Ma.conflicts } } : St) = Mb at *
      have hr2 := hn2.rep
      obtain ⟨q0, _, _, _⟩ := hr2.clause HC.out
      simp only [hdv] at q0
      have crow := hr2.lits ida _ HC.out rfl
      have hcl := crow.len
      simp only [maxLen] at hcl
      have hcl1 : cl.lits.length ≤ 9223372036854775807 := by omega
      clear crow hcl
      go_wp2
      go_loopg [38, 6, 8] cl.lits.length (GatherI w L M M2 na g2 mb cl.lits Mb.cls ga.count)
      case atStart => exact ⟨Mb, 0, ga, a, c, rfl, rfl, rfl, Nat.zero_le _, rfl, hn2, hh2, HGA.out, HTR.out, rfl, Int.le_refl _, hne, hup0⟩
      case round =>
        clear hn2 hh2 HGA HTR hr2 q0
        obtain ⟨Mc, i, gg, a3, c3, rfl, rfl, rfl, hil, rfl, hn, hh, hga, htr, hcls, hlow2, hne2, hup2⟩ := hrel
        have hr := hn.rep
        by_cases hlt : i < cl.lits.length
        · have hlti : (i : Int) < (cl.lits.length : Int) := by omega
          rw [List.drop_eq_getElem_cons hlt] at hga
          have hm0 : cl.lits[i]? = some cl.lits[i] := List.getElem?_eq_getElem hlt
          generalize cl.lits[i] = m0 at hga hm0
          unfold gather at hga
          split at hga
          case isFalse => cases hga
          rename_i hok0
          obtain ⟨n0, n1⟩ := ok_spec hok0
          obtain ⟨o0, o1⟩ := of_bd hok0
          simp only [Option.bind_eq_bind, Option.bind_eq_some_iff] at hga
          obtain ⟨f, hf, hga⟩ := hga
          have hcc : Mc.cls[ida]? = some { lits := cl.lits, learnt := cl.learnt, score := Ma.conflicts } := by rw [hcls]; exact HC.out
          have crow := hr.lits ida _ hcc rfl
          obtain ⟨gl, hgl⟩ := crow.pos (by simp only; omega)
          rw [hgl] at crow
          have cel : wr.cell? ⟨gl, i, none⟩ = some (.int .i64 m0) := crow.cell (by simp [hm0])
          have hlk := hh.look Try.underlying80 Try.zero4 (of m0)
          obtain ⟨v0, v1, _⟩ := gi_spec hf
          obtain ⟨gv, hgv, rgv, hcell, hfree⟩ := hr.var hf
          have s0 := hn.at 0 rfl
          simp only [hdv, hgv] at s0
          have d1 : wr.cell? ⟨gv, (of m0).toNat * 5 + 1, none⟩ = some (.int .i64 f.level) := hcell 1 _ rfl
          have vn : (of m0).toNat < Mc.vars.length := by omega
          rw [hgl]
          have HGL := Lib.hid hgl
          have HGA := Lib.hid hga
          have HF := Lib.hid hf
          have HH := Lib.hid hh
          have HN := Lib.hid hn
          have HCC := Lib.hid hcc
          have HTR := Lib.hid htr
          have HCLS := Lib.hid hcls
          clear hga hf hh hcell hfree hcc crow hgl htr hcls
          by_cases hcond : m0 = na ∨ of m0 ∈ gg.seen ∨ f.level = 0
          · have hga := HGA.out
            rw [if_pos hcond] at hga
            have HGA := Lib.hid hga
            clear hga hm0
            have fin : GatherI w L M M2 na g2 mb cl.lits Mb.cls ga.count (cl.lits.length - (i + 1)) (.int .i64 ((i + 1 : Nat) : Int)) (.slice a3 gg.out.length c3) (.int .i64 gg.count) wr :=
              ⟨Mc, i + 1, gg, a3, c3, rfl, rfl, rfl, by omega, rfl, HN.out, HH.out, HGA.out, HTR.out, HCLS.out, hlow2, hne2, hup2⟩
            have FIN := Lib.hid fin
            clear fin hn hr HN HH HF HCC
            by_cases h1 : m0 = na
            · have b1 : (m0 == na) = true := by simpa using h1
              clear h1 hcond hlk d1 s0 HGA
              go_wp2_with (go_at_call 53; refine (of_c _ _ n0 n1).mono ?_; rintro e w' ⟨rfl, rfl⟩)
              rw [← HGL.out]
              go_roundg (cl.lits.length - (i + 1))
              case measure => omega
              case rel => exact FIN.out
            · have b1 : (m0 == na) = false := by simpa using h1
              by_cases h2 : of m0 ∈ gg.seen
              · have b2 : decide (of m0 ∈ gg.seen) = true := by simpa using h2
                rw [b2] at hlk
                clear h1 h2 b2 hcond d1 s0 HGA
                go_wp2_with (go_at_call 53; refine (of_c _ _ n0 n1).mono ?_; rintro e w' ⟨rfl, rfl⟩)
                rw [← HGL.out]
                go_roundg (cl.lits.length - (i + 1))
                case measure => omega
                case rel => exact FIN.out
              · have h3 : f.level = 0 := by
                  rcases hcond with h | h | h
                  · exact (h1 h).elim
                  · exact (h2 h).elim
                  · exact h
                have b2 : decide (of m0 ∈ gg.seen) = false := by simpa using h2
                rw [b2] at hlk
                rw [h3] at d1
                clear h1 h2 h3 b2 hcond HGA
                go_wp2_with (go_at_call 53; refine (of_c _ _ n0 n1).mono ?_; rintro e w' ⟨rfl, rfl⟩)
                rw [← HGL.out]
                go_roundg (cl.lits.length - (i + 1))
                case measure => omega
                case rel => exact FIN.out
          · have hga := HGA.out
            rw [if_neg hcond] at hga
            simp only [Option.bind_eq_some_iff] at hga
            obtain ⟨Md, hus, f1, hf1, hga⟩ := hga
            split at hga
            case isFalse => cases hga
            rename_i hbd
            have hc1 : ¬ m0 = na := fun q => hcond (.inl q)
            have hc2 : ¬ of m0 ∈ gg.seen := fun q => hcond (.inr (.inl q))
            have hc3 : ¬ f.level = 0 := fun q => hcond (.inr (.inr q))
            have b1 : (m0 == na) = false := by simpa using hc1
            have b3 : (f.level == 0) = false := by simpa using hc3
            have b2 : decide (of m0 ∈ gg.seen) = false := by simpa using hc2
            rw [b2] at hlk
            have HBD := Lib.hid hbd
            have HGB := Lib.hid hga
            have HUS := Lib.hid hus
            have HC2 := Lib.hid hc2
            have HF1 := Lib.hid hf1
            clear hga hcond hbd hus hc1 hc2 hc3 b2 hm0
            go_upto_region 9 with (go_at_call 53; refine (of_c _ _ n0 n1).mono ?_; rintro e w' ⟨rfl, rfl⟩)
            obtain ⟨w3, hup, hn3, hh3⟩ := Held.see HN.out HH.out Try.underlying80 HC2.out
            clear hn hr hlk cel s0 d1 vn v0 v1 rgv hgv HN HH
            go_upto_region 11 with (go_at_call 56; refine (used_c hn3.rep hn3.ext.sb HUS.out).mono ?_; rintro e w' ⟨rfl, hn4⟩)
            have hh5 := hh3.next hn4
            have hn5 := hn3.trans hn4
            have hr5 := hn5.rep
            obtain ⟨v0, v1, _⟩ := gi_spec hf1
            obtain ⟨gv, hgv, rgv, hcell, hfree⟩ := hr5.var hf1
            have s0 := hn5.at 0 rfl
            simp only [hdv, hgv] at s0
            have d1 : w'.cell? ⟨gv, (of m0).toNat * 5 + 1, none⟩ = some (.int .i64 f1.level) := hcell 1 _ rfl
            have vn : (of m0).toNat < Md.vars.length := by omega
            have HN5 := Lib.hid hn5
            have HH5 := Lib.hid hh5
            clear hn3 hh3 hn4 hup hcell hfree hn5 hh5 hgv
            go_quiet ((go_at_call 31; exact quiet_eq (level_q (hr5.drewN _) HN5.out.ext.sb)))
            obtain ⟨k1, k2, k3, k4⟩ := used_keeps HUS.out
            have hn6 := HN5.out.drewN nq
            have hh6 := HH5.out.drewN nq
            have HTR6 : Hid (Md.trail = M.trail) := Lib.hid (k2.trans HTR.out)
            have HCLS6 : Hid (Md.cls = Mb.cls) := Lib.hid (k1.trans HCLS.out)
            clear k1 k2 k3 k4 HN5 HH5 HTR HCLS hr5 s0 d1 HCC HUS
            generalize w'.drewN nq = W6 at *
            have hb1 : gg.out.length < LIM := HBD.out.1
            have hb2 : gg.count < 1099511627776 := HBD.out.2
            have hb3 : -1099511627777 ≤ gg.count := by have := hlim1; omega
            by_cases hlv : f1.level = (Md.limits.length : Int)
            · have b5 : (f1.level == (Md.limits.length : Int)) = true := by simpa using hlv
              have hga := HGB.out
              rw [if_pos (show f1.level = Md.level from hlv)] at hga
              have fin : GatherI w L M M2 na g2 mb cl.lits Mb.cls ga.count (cl.lits.length - (i + 1)) (.int .i64 ((i + 1 : Nat) : Int)) (.slice a3 gg.out.length c3) (.int .i64 (gg.count + 1)) W6 :=
                ⟨Md, i + 1, { gg with seen := of m0 :: gg.seen, count := gg.count + 1 }, a3, c3, rfl, rfl, rfl, by omega, rfl, hn6, hh6, hga, HTR6.out, HCLS6.out, by simp only; omega, hne2, by simp only; omega⟩
              have FIN := Lib.hid fin
              clear fin hn6 hh6 hga hlv HGB
              go_wp2
              rw [← HGL.out]
              go_roundg (cl.lits.length - (i + 1))
              case measure => omega
              case rel => exact FIN.out
            · have b5 : (f1.level == (Md.limits.length : Int)) = false := by simpa using hlv
              have hga := HGB.out
              rw [if_neg (show ¬ f1.level = Md.level from hlv)] at hga
              have HGC := Lib.hid hga
              clear hga hlv HGB
              go_wp2_with (at_builtin; refine app_out hn6 hh6 rfl rfl (.tmp 81) (.tmp 83) rfl rfl m0 rfl rfl hb1 ?_; intro a' c' w' hn7 hh7; clear hn6 hh6)
              rw [← HGL.out]
              go_roundg (cl.lits.length - (i + 1))
              case measure => omega
              case rel => exact ⟨Md, i + 1, { gg with seen := of m0 :: gg.seen, out := gg.out ++ [m0] }, a', c', rfl, by simp, rfl, by omega, rfl, hn7, hh7, HGC.out, HTR6.out, HCLS6.out, hlow2, by simp, hup2⟩
        · obtain rfl : i = cl.lits.length := by omega
          rw [List.drop_length] at hga
          simp only [gather, Option.some.injEq, Prod.mk.injEq] at hga
          obtain ⟨e1, e2⟩ := hga
          subst e1 e2
          have s5 := hn.at 5 rfl
          have HTR := Lib.hid htr
          have HN := Lib.hid hn
          have HH := Lib.hid hh
          clear htr hcls HC hn hh hil
          go_wp2
          go_loopg [9] (Mc.trail.length + 1) (SeekI wr Mc gg.seen x)
          case atStart => exact ⟨at', rfl, rfl, HSE.out⟩
          case round =>
            clear HSE
            obtain ⟨ax, rfl, rfl, hse⟩ := hrel
            cases gk with
            | zero => cases hse
            | succ k2 =>
              unfold seek at hse
              simp only [Option.bind_eq_bind, Option.bind_eq_some_iff] at hse
              obtain ⟨mx, hmx, hse⟩ := hse
              split at hse
              case isFalse => cases hse
              rename_i hokx
              obtain ⟨n0, n1⟩ := ok_spec hokx
              obtain ⟨o0, o1⟩ := of_bd hokx
              obtain ⟨a0, a1, _⟩ := gi_spec hmx
              obtain ⟨gt, hgt, rgt, ct, _⟩ := hr.num .trail rfl rfl rfl hmx
              have hlk := HH.out.look Try.underlying80 Try.zero4 (of mx)
              have a2 : ax.toNat < Mc.trail.length := by omega
              have a3' : Mc.trail.length ≤ 1099511627776 := by rw [HTR.out]; exact hlim1
              simp only [hdv, hgt] at s5
              clear hgt
              by_cases hin : of mx ∈ gg.seen
              · rw [if_pos hin] at hse
                simp only [Option.some.injEq] at hse
                subst hse
                obtain rfl : mx = m := by have := HM.out; rw [hmx] at this; cases this; rfl
                have b2 : decide (of mx ∈ gg.seen) = true := by simpa using hin
                rw [b2] at hlk
                clear hin b2 hmx
                have hb3 : -1099511627777 ≤ gg.count := by omega
                by_cases hc1 : gg.count = 1
                · have hu := HU.out
                  rw [if_pos hc1] at hu
                  simp only [Option.some.injEq, Prod.mk.injEq] at hu
                  obtain ⟨e1, e2, e3⟩ := hu
                  subst e1 e2 e3
                  rw [hc1]
                  have hrow := HH.out.row
                  obtain ⟨go, hgo⟩ := hrow.pos hne2
                  subst hgo
                  have hf0 := hrow.free 0
                  have hd0 : wr.cell? ⟨go, 0, none⟩ = some (.int .i64 (gg.out[0]'hne2)) := hrow.cell (by simp [hne2])
                  have hcp := hrow.len
                  simp only [maxLen] at hcp
                  have hN1 : gg.out.length ≤ 9223372036854775807 := by omega
                  obtain ⟨m0, m1⟩ := ok_spec HOK.out
                  clear hrow hc1 HU
                  go_upto_region 23 with (go_at_call 53; refine (of_c _ _ n0 n1).mono ?_; rintro e w' ⟨rfl, rfl⟩)
                  obtain ⟨hn5, hh5⟩ := Held.set HN.out HH.out 0 hne2 (-mx)
                  have hl5 : (gg.out.set 0 (-mx)).length = gg.out.length := by simp
                  have HL5 := Lib.hid hl5
                  clear hl5 hd0 hf0 HN HH hlk s5 ct hr
                  generalize wr.setCell ⟨go, 0, none⟩ (.int .i64 (-mx)) = W5 at *
                  have hN2 : (1 : Int) ≤ (gg.out.length : Int) := by omega
                  by_cases hcap : c3 = 1
                  · have hN3 : gg.out.length = 1 := by omega
                    subst hcap
                    go_wp2
                    go_loopg [14, 128] (gg.out.length - 1) (OrderI w L M Mc go 1 mb gg.seen gg.out.length out bk)
                    case atStart => exact ⟨_, 0, 0, rfl, rfl, HL5.out, by omega, rfl, hn5, hh5, HORD.out⟩
                    case round =>
                      clear hn5 hh5 HORD HL5
                      obtain ⟨o, i, b, rfl, rfl, hol, hi, rfl, hn, hh, hord⟩ := hrel
                      have HOL := Lib.hid hol
                      obtain rfl : i = 0 := by omega
                      have hlt4 : ¬ ((0 : Nat) : Int) < ((gg.out.length : Int) - 1) := by omega
                      rw [show gg.out.length + 1 - 0 = 1 + 1 by omega] at hord
                      unfold order at hord
                      rw [List.getElem?_eq_none (by rw [hol]; omega)] at hord
                      simp only [Option.some.injEq, Prod.mk.injEq] at hord
                      obtain ⟨e1, e2⟩ := hord
                      subst e1 e2
                      clear hol
                      have HN3 := Lib.hid hN3
                      clear hN3
                      go_wp2
                      go_ret2
                      exact ⟨_, _, by rw [HOL.out]; rfl, hn, by simpa using hh.row, hh.own⟩
                  · go_wp2
                    go_loopg [14, 128] (gg.out.length - 1) (OrderI w L M Mc go c3 mb gg.seen gg.out.length out bk)
                    case atStart => exact ⟨_, 0, 0, rfl, rfl, HL5.out, by omega, rfl, hn5, hh5, HORD.out⟩
                    case round =>
                      clear hn5 hh5 HORD HL5
                      obtain ⟨o, i, b, rfl, rfl, hol, hi, rfl, hn, hh, hord⟩ := hrel
                      have hr := hn.rep
                      have HOL := Lib.hid hol
                      clear hol
                      by_cases hlt2 : i + 1 < gg.out.length
                      · have hlt3 : i < gg.out.length - 1 := by omega
                        have hlt4 : (i : Int) < ((gg.out.length : Int) - 1) := by omega
                        rw [show gg.out.length + 1 - i = (gg.out.length - i) + 1 by omega] at hord
                        unfold order at hord
                        obtain ⟨mo, hmo⟩ : ∃ mo, o[i + 1]? = some mo := ⟨_, List.getElem?_eq_getElem (by rw [HOL.out]; exact hlt2)⟩
                        rw [hmo] at hord
                        dsimp only at hord
                        split at hord
                        case isFalse => cases hord
                        rename_i hoko
                        obtain ⟨n0, n1⟩ := ok_spec hoko
                        obtain ⟨o0, o1⟩ := of_bd hoko
                        simp only [Option.bind_eq_bind, Option.bind_eq_some_iff] at hord
                        obtain ⟨fo, hfo, hord⟩ := hord
                        have hcel : wr.cell? ⟨go, 1 + i, none⟩ = some (.int .i64 mo) := hh.row.cell (by rw [Nat.add_comm]; simp [hmo])
                        obtain ⟨v0, v1, v2⟩ := gi_spec hfo
                        obtain ⟨gv, hgv, rgv, hcell, hfree⟩ := hr.var hfo
                        have s0 := hn.at 0 rfl
                        simp only [hdv, hgv] at s0
                        have d1 : wr.cell? ⟨gv, (of mo).toNat * 5 + 1, none⟩ = some (.int .i64 fo.level) := hcell 1 _ rfl
                        have vn : (of mo).toNat < Mc.vars.length := by omega
                        have HN := Lib.hid hn
                        have HH := Lib.hid hh
                        have HORD := Lib.hid hord
                        have HMO := Lib.hid hmo
                        clear hn hh hord hmo hcell hfree hgv hfo v2
                        go_upto_region 28 with (fail)
                        go_quiet ((go_at_call 53; exact quiet_eq (of_c _ _ n0 n1)))
                        have hn6 := HN.out.drewN nq
                        have hh6 := HH.out.drewN nq
                        clear HN HH hr hcel s0 d1 vn v0 v1 rgv
                        generalize wr.drewN nq = W6 at *
                        by_cases hlv : b < fo.level
                        · have hord := HORD.out
                          rw [if_pos hlv] at hord
                          have t1 : decide (b < fo.level) = true := by simpa using hlv
                          have hrow := hh6.row
                          have hpos1 : 1 < gg.out.length := by omega
                          obtain ⟨z, hz⟩ : ∃ z, o[1]? = some z := ⟨_, List.getElem?_eq_getElem (by rw [HOL.out]; exact hpos1)⟩
                          have hsw : swap o 1 (i + 1) = (o.set 1 mo).set (i + 1) z := swap_get hz HMO.out
                          have dz : W6.cell? ⟨go, 1, none⟩ = some (.int .i64 z) := hrow.cell (by simp [hz])
                          have dm : W6.cell? ⟨go, i + 1, none⟩ = some (.int .i64 mo) := hrow.cell (by simp [HMO.out])
                          have e1 := hrow.free 1
                          have e2 := hrow.free (i + 1)
                          have hwr : IntKind.i64.wrap ((i : Int) + 1) = (i : Int) + 1 := IntWalk.i64_in _ (by omega)
                          have hi4 : (0 : Int) ≤ (i : Int) + 1 := by omega
                          have hi5 : ((i : Int) + 1).toNat = i + 1 := by omega
                          obtain ⟨hn7, hh7⟩ := Held.set hn6 hh6 1 (by rw [HOL.out]; exact hpos1) mo
                          obtain ⟨hn8, hh8⟩ := Held.set hn7 hh7 (i + 1) (by simp [HOL.out, hlt2]) z
                          have dm7 : (W6.setCell ⟨go, 1, none⟩ (.int .i64 mo)).cell? ⟨go, i + 1, none⟩ = some (.int .i64 mo) := hh7.row.cell (by
                            have hm := HMO.out
                            have hlm := (List.getElem?_eq_some_iff.1 hm).1
                            rw [List.getElem?_map, List.getElem?_set]
                            split
                            · rename_i q
                              rw [if_pos (by omega)]; rfl
                            · rw [hm]; rfl)
                          have e7 := hh7.row.free (i + 1)
                          rw [← hsw] at hh8
                          have HL8 : Hid ((swap o 1 (i + 1)).length = gg.out.length) := Lib.hid (by simp [swap, HOL.out])
                          have HORD2 : Hid (order (gg.out.length + 1 - (i + 1)) Mc (swap o 1 (i + 1)) fo.level (i + 1 + 1) = some (out, bk)) := Lib.hid (by rw [show gg.out.length + 1 - (i + 1) = gg.out.length - i by omega]; exact hord)
                          have HN8 := Lib.hid hn8.drew
                          have HH8 : Hid (Held w ((W6.setCell ⟨go, 1, none⟩ (.int .i64 mo)).setCell ⟨go, i + 1, none⟩ (.int .i64 z)).drew L (some ⟨go, 0, none⟩) c3 mb (swap o 1 (i + 1)) gg.seen) := Lib.hid (hh8.drewN 1)
                          clear hn6 hh6 hn7 hh7 hn8 hh8 hord HORD hlv hrow hz hsw HMO HOL
                          go_upto_region 30 with (fail)
                          go_region
                          clear dm7 e7 dz dm e1 e2
                          generalize ((W6.setCell ⟨go, 1, none⟩ (.int .i64 mo)).setCell ⟨go, i + 1, none⟩ (.int .i64 z)).drew = W9 at *
                          go_wp2
                          go_roundg (gg.out.length - 1 - (i + 1))
                          case measure => omega
                          case rel => exact ⟨swap o 1 (i + 1), i + 1, fo.level, by go_num, rfl, HL8.out, hlt2, rfl, HN8.out, HH8.out, HORD2.out⟩
                        · have hord := HORD.out
                          rw [if_neg hlv] at hord
                          have t1 : decide (b < fo.level) = false := by simpa using hlv
                          have HORD2 : Hid (order (gg.out.length + 1 - (i + 1)) Mc o b (i + 1 + 1) = some (out, bk)) := Lib.hid (by rw [show gg.out.length + 1 - (i + 1) = gg.out.length - i by omega]; exact hord)
                          clear hord HORD hlv
                          go_wp2
                          go_roundg (gg.out.length - 1 - (i + 1))
                          case measure => omega
                          case rel => exact ⟨o, i + 1, b, by go_num, rfl, HOL.out, hlt2, rfl, hn6, hh6, HORD2.out⟩
                      · have hie : i + 1 = gg.out.length := by omega
                        have hlt4 : ¬ (i : Int) < ((gg.out.length : Int) - 1) := by omega
                        rw [show gg.out.length + 1 - i = 1 + 1 by omega] at hord
                        unfold order at hord
                        rw [List.getElem?_eq_none (by rw [HOL.out]; omega)] at hord
                        simp only [Option.some.injEq, Prod.mk.injEq] at hord
                        obtain ⟨e1, e2⟩ := hord
                        subst e1 e2
                        have HIE := Lib.hid hie
                        clear hie hlt2
                        go_wp2
                        go_ret2
                        exact ⟨_, _, by rw [HOL.out]; rfl, hn, by simpa using hh.row, hh.own⟩
                · have hc2 : (gg.count - 1 == 0) = false := by simp; omega
                  have hc3 : (gg.count == 1) = false := by simpa using hc1
                  have hu := HU.out
                  rw [if_neg hc1] at hu
                  simp only [Option.bind_eq_some_iff] at hu
                  obtain ⟨fr, hfr, r, hre, hu⟩ := hu
                  obtain ⟨v0, v1, v2⟩ := gi_spec hfr
                  obtain ⟨gv, hgv, rgv, hcell, hfree⟩ := hr.var hfr
                  have s0 := HN.out.at 0 rfl
                  simp only [hdv, hgv] at s0
                  have d2 : wr.cell? ⟨gv, (of mx).toNat * 5 + 2, none⟩ = some (.pointer (some ⟨L.cb r, 0, none⟩)) := hcell 2 _ (by simp [factCells, ptrO, paddr, hre])
                  have vn : (of mx).toNat < Mc.vars.length := by omega
                  have HU2 := Lib.hid hu
                  clear hu HU hcell hfree hgv hre hfr v2
                  go_upto_region 21 with (go_at_call 53; refine (of_c _ _ n0 n1).mono ?_; rintro e w' ⟨rfl, rfl⟩)
                  go_quiet ((go_at_call 53; exact quiet_eq (of_c _ _ n0 n1)))
                  go_wp2
                  go_roundg k
                  case measure => omega
                  case rel => exact ⟨Mc, r, mx, ax - 1, { gg with count := gg.count - 1 }, a3, c3, rfl, rfl, rfl, rfl, rfl, HN.out.drewN nq, HH.out.drewN nq, HU2.out, HTR.out, by simp only; omega, hne2, by simp only; omega⟩
              · rw [if_neg hin] at hse
                have HSE := Lib.hid hse
                have b2 : decide (of mx ∈ gg.seen) = false := by simpa using hin
                rw [b2] at hlk
                clear hin b2 hse
                go_wp2_with (go_at_call 53; refine (of_c _ _ n0 n1).mono ?_; rintro e w' ⟨rfl, rfl⟩)
                go_roundg k2
                case measure => omega
                case rel => exact ⟨ax - 1, rfl, rfl, HSE.out⟩

end Go.Proofs.Ytminhlpbdpbolaa
