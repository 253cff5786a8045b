/- Which of the assumed literals let a literal be false. -/
import Derived.Test.YtminhlpbdpbolaaWo
import Derived.Test.YtminhlpbdpbolaaWl
import Derived.Test.YtminhlpbdpbolaaSrt
namespace Go.Proofs.Ytminhlpbdpbolaa
open Go.RowKit Mir

theorem Held.begin {w : World} {L : Lay} {M : St} (h : Rep w L M) : Next w L M (w.alloc (.map #[] 0)) L M ∧ Held w (w.alloc (.map #[] 0)) L none 0 w.heap.size [] [] := by
  refine ⟨(Next.refl h).alloc _, Row.nil _ _ _, (fun g hg => by cases hg), ⟨#[], 0, heap_alloc_new w _, rfl⟩, ?_, Nat.le_refl _⟩
  cases hro : L.ro w.heap.size with
  | none => rfl
  | some r => have := h.fresh w.heap.size (by rw [hro]; simp); omega

theorem Held.one {w0 w : World} {L0 L : Lay} {M0 M : St} (hn : Next w0 L0 M0 w L M) {mb : Nat} {seen : List Int} (h : Held w0 w L none 0 mb [] seen) (x : Int) :
    Next w0 L0 M0 (w.alloc (.cells #[.int .i64 x] 3)) L M ∧ Held w0 (w.alloc (.cells #[.int .i64 x] 3)) L (some ⟨w.heap.size, 0, none⟩) 1 mb [x] seen := by
  obtain ⟨es, ck, h1, h2⟩ := h.map
  have hlt : mb < w.heap.size := (Array.getElem?_eq_some_iff.1 h1).1
  exact ⟨hn.alloc _, ⟨rfl, .inr ⟨w.heap.size, _, rfl, heap_alloc_new w _, Nat.le_refl _, by simp [maxLen], rfl, rfl⟩⟩, hn.newOwn (Nat.le_refl _), ⟨es, ck, (Below.heap_alloc _ _ _ hlt).trans h1, h2⟩, h.new⟩

/-- A number is seen, maybe once more. -/
theorem Held.mark {w0 w : World} {L0 L : Lay} {M0 M : St} (hn : Next w0 L0 M0 w L M) {a : Option Addr} {c mb : Nat} {out seen : List Int} (h : Held w0 w L a c mb out seen) (ht : Try.prog.underlying 80 = some (.map 3 4)) (k : Int) :
    ∃ w3 seen', (Instr.mapUpdate 80 (.map (some mb)) (.int .i64 k) (.bool true)).run Try.prog w = .ok () w3 ∧ Next w0 L0 M0 w3 L M ∧ Held w0 w3 L a c mb out seen' ∧ ∀ j, j ∈ seen' ↔ j = k ∨ j ∈ seen := by
  by_cases hk : k ∈ seen
  · obtain ⟨w3, hup, hmp, hset⟩ := h.map.update ht Try.underlying3 k (.bool true)
    have hsame : putV (seenV seen) k (.bool true) = seenV seen := by
      have q : ∀ l : List Int, k ∈ l → putV (l.map fun v => (v, Value.bool true)) k (.bool true) = l.map fun v => (v, Value.bool true) := by
        intro l
        induction l with
        | nil => intro q; cases q
        | cons x l ih =>
          intro q
          by_cases e : x = k
          · simp [putV, e]
          · have : k ∈ l := by
              rcases List.mem_cons.1 q with q | q
              · exact (e q.symm).elim
              · exact q
            simp only [List.map_cons, putV, if_neg e, ih this]
      exact q seen.reverse (by simpa using hk)
    rw [hsame] at hmp
    exact ⟨w3, seen, hup, hn.sideMap hset h.new, ⟨h.row.keep fun g hg => hset.block g (h.ne g hg), h.own, hmp, h.new⟩, fun j => ⟨.inr, fun q => by rcases q with rfl | q <;> assumption⟩⟩
  · obtain ⟨w3, h1, h2, h3⟩ := Held.see hn h ht hk
    exact ⟨w3, k :: seen, h1, h2, h3, fun j => by simp⟩

def CoreI (w : World) (L : Lay) (M : St) (ax : List Int) (mb : Nat) (res : List Int) (k : Nat) (v8 v9 : Value) (wr : World) : Prop :=
  ∃ i why s out a c, v9 = .int .i64 i ∧ v8 = .slice a out.length c ∧ Next w L M wr L M ∧ Held w wr L a c mb out s ∧ (∀ j, j ∈ s ↔ j ∈ why) ∧ coreL k M ax i why out = some res ∧ 0 < out.length ∧ i < 2199023255552 ∧ -2 < i ∧ out.length ≤ 1099511627776

def WhyI (w : World) (L : Lay) (M : St) (a : Option Addr) (c mb : Nat) (out lits why : List Int) (k : Nat) (v76 : Value) (wr : World) : Prop :=
  ∃ i s, v76 = .int .i64 (i : Nat) ∧ i ≤ lits.length ∧ k = lits.length - i ∧ Next w L M wr L M ∧ Held w wr L a c mb out s ∧ (∀ j, j ∈ s ↔ j ∈ (lits.take i).map of ∨ j ∈ why)

set_option maxHeartbeats 4000000 in
set_option maxRecDepth 100000 in
theorem core_c {w : World} {L : Lay} {M : St} {n : Int} {res : List Int} (h : Rep w L M) {sb : Nat} (hs : L.sb = sb) {ax : List Int} {A : Option Addr} {c N : Nat} (hN : ax.length = N) (hrow : Row w 3 1 A N c (ax.map vi)) (hoff : Off L A)
    (hx : Mir.core M n ax = some res) :
    Calls Try.prog 36 #[.pointer (some ⟨sb, 0, none⟩), .int .i64 n, .slice A N c] w fun e w' => ∃ a c', e = .returned (.slice a res.length c') ∧ Next w L M w' L M ∧ Row w' 3 1 a res.length c' (res.map vi) ∧ Own w L a := by
  subst hs hN
  unfold Mir.core at hx
  split at hx
  case isFalse => cases hx
  rename_i hc
  obtain ⟨hok, hlim⟩ := hc
  obtain ⟨n0, n1⟩ := ok_spec hok
  have hlim1 : M.trail.length ≤ 1099511627776 := hlim
  simp only [Option.bind_eq_bind, Option.bind_eq_some_iff, Option.pure_def, Option.some.injEq] at hx
  obtain ⟨out, hcore, rfl⟩ := hx
  have HR := Lib.hid hrow
  have HO := Lib.hid hoff
  have HCO := Lib.hid hcore
  clear hrow hoff hcore hlim
  have hmk : (Instr.makeMap 80 none).run Try.prog w = .ok (.map (some w.heap.size)) (w.alloc (.map #[] 0)) := mk_map 80 w
  obtain ⟨hn0, hh0⟩ := Held.begin h
  obtain ⟨w3, s3, hup, hn3, hh3, hs3⟩ := Held.mark hn0 hh0 Try.underlying80 (of n)
  have HS3 := Lib.hid hs3
  clear hn0 hh0 hs3
  go_enter Try.func36, Try.ntmps36
  go_upto_region 2 with (go_at_call 53; refine (of_c _ _ n0 n1).mono ?_; rintro e w' ⟨rfl, rfl⟩)
  clear hup hmk
  obtain ⟨hn4, hh4⟩ := Held.one hn3 hh3 n
  go_upto_region 3 with (fail)
  clear hn3 hh3
  generalize hmb : w.heap.size = mb at *
  generalize w3.alloc (.cells #[.int .i64 n] 3) = W4 at *
  have s5 := hn4.at 5 rfl
  simp only [hdv] at s5
  have hlen5 : M.trail.length ≤ 9223372036854775807 := by omega
  go_wp2
  go_loopg [8, 9] (M.trail.length + 1) (CoreI w L M ax mb out)
  case atStart => exact ⟨M.trail.length - 1, [of n], s3, [n], _, 1, rfl, rfl, hn4, hh4, (fun j => by rw [HS3.out]; simp), HCO.out, by simp, by omega, by omega, by simp⟩
  case round =>
    clear hn4 hh4 HS3 HCO s5
    obtain ⟨i, why, s, o, a, co, rfl, rfl, hn, hh, hs, hu, hpos, hi2, hi3, hol0⟩ := hrel
    cases gk with
    | zero => cases hu
    | succ k =>
      unfold coreL at hu
      have hr := hn.rep
      have s6 := hn.at 6 rfl
      simp only [hdv] at s6
      have hlm := hr.len .limits
      simp only [lenOf, maxLen] at hlm
      have hlm1 : M.limits.length ≤ 9223372036854775807 := by omega
      have HS := Lib.hid hs
      clear hs hlm
      by_cases hcond : 0 ≤ i ∧ 0 < M.limits.length ∧ M.limits.headD 0 ≤ i
      · rw [if_pos hcond] at hu
        obtain ⟨c1, c2, c3⟩ := hcond
        obtain ⟨l0, hl0⟩ : ∃ l0, M.limits[0]? = some l0 := ⟨_, List.getElem?_eq_getElem c2⟩
        have hd0 : M.limits.headD 0 = l0 := by rw [List.headD_eq_head?_getD, List.head?_eq_getElem?, hl0]; rfl
        rw [hd0] at c3
        obtain ⟨gm, hgm, rgm, cm, _⟩ := hr.num .limits rfl rfl rfl (gi_of (i := 0) (by decide) hl0)
        have cm0 : wr.cell? ⟨gm, 0, none⟩ = some (.int .i64 l0) := cm
        simp only [Option.bind_eq_bind, Option.bind_eq_some_iff] at hu
        obtain ⟨m, hm, hu⟩ := hu
        split at hu
        case isFalse => cases hu
        rename_i hokm
        obtain ⟨m0, m1⟩ := ok_spec hokm
        obtain ⟨o0, o1⟩ := of_bd hokm
        obtain ⟨a0, a1, _⟩ := gi_spec hm
        obtain ⟨gt, hgt, rgt, ct, _⟩ := hr.num .trail rfl rfl rfl hm
        have s5 := hn.at 5 rfl
        simp only [hdv, hgt] at s5
        simp only [hgm] at s6
        have a2 : i.toNat < M.trail.length := by omega
        have t1 : decide (0 ≤ i) = true := decide_eq_true c1
        have t2 : decide (0 < M.limits.length) = true := decide_eq_true c2
        have t3 : decide (l0 ≤ i) = true := decide_eq_true c3
        have c2' : (0 : Int) < (M.limits.length : Int) := by omega
        have hlk := hh.look Try.underlying80 Try.zero4 (of m)
        have HN := Lib.hid hn
        have HH := Lib.hid hh
        have HU := Lib.hid hu
        clear hu hm hl0 hd0 hgm hgt cm hn hh c3
        by_cases hin : of m ∈ why
        · have b2 : decide (of m ∈ s) = true := by simpa [HS.out] using hin
          rw [b2] at hlk
          clear b2
          have hu := HU.out
          rw [if_pos hin] at hu
          simp only [Option.bind_eq_some_iff] at hu
          obtain ⟨f, hf, hu⟩ := hu
          obtain ⟨v0, v1, _⟩ := gi_spec hf
          obtain ⟨gv, hgv, rgv, hcell, _⟩ := hr.var hf
          have s0 := HN.out.at 0 rfl
          simp only [hdv, hgv] at s0
          have d2 : wr.cell? ⟨gv, (of m).toNat * 5 + 2, none⟩ = some (ptrO L.cb f.reason) := hcell 2 _ rfl
          have vn : (of m).toNat < M.vars.length := by omega
          have HU2 := Lib.hid hu
          have hrid := hr.ids.1 f (List.mem_of_getElem? (gi_spec hf).2.2)
          have HRI := Lib.hid hrid
          clear hu HU hf hcell hgv hin hrid
          go_upto_region 8 with (go_at_call 53; refine (of_c _ _ m0 m1).mono ?_; rintro e w' ⟨rfl, rfl⟩)
          go_quiet ((go_at_call 53; exact quiet_eq (of_c _ _ m0 m1)))
          have hn6 := HN.out.drewN nq
          have hh6 := HH.out.drewN nq
          clear HN HH hr s0 d2 vn v0 v1 rgv s5 s6 ct cm0 hlk
          generalize wr.drewN nq = W6 at *
          have hr6 := hn6.rep
          have hu := HU2.out
          cases hre : f.reason with
          | some id =>
            rw [hre] at hu
            simp only [Option.bind_eq_some_iff] at hu
            obtain ⟨cl, hcl, hu⟩ := hu
            split at hu
            case isFalse => cases hu
            rename_i hall
            obtain ⟨q0, _, _, _⟩ := hr6.clause hcl
            simp only [hdv] at q0
            have crow := hr6.lits id cl hcl rfl
            have hcl1 := crow.len
            simp only [maxLen] at hcl1
            have hcl2 : cl.lits.length ≤ 9223372036854775807 := by omega
            have HALL := Lib.hid hall
            have HCROW : Hid (∀ W, Next w L M W L M → Row W 3 1 (L.lv id).a cl.lits.length (L.lv id).c (cl.lits.map vi)) := Lib.hid fun W hW => hW.rep.lits id cl hcl rfl
            have HU3 := Lib.hid hu
            simp only [ptrO, paddr]
            clear hu HU2 hcl crow hcl1 hall hr6 hre HRI
            go_wp2
            go_loopg [76] cl.lits.length (WhyI w L M a co mb o cl.lits why)
            case atStart => exact ⟨0, s, rfl, Nat.zero_le _, rfl, hn6, hh6, fun j => by simp [HS.out]⟩
            case round =>
              clear hn6 hh6 q0
              obtain ⟨i2, s2, rfl, hi4, rfl, hn, hh, hs2⟩ := hrel
              have HS2 := Lib.hid hs2
              clear hs2
              by_cases hlt : i2 < cl.lits.length
              · have hlti : (i2 : Int) < (cl.lits.length : Int) := by omega
                have crow := HCROW.out wr hn
                obtain ⟨gl, hgl⟩ := crow.pos (by omega)
                rw [hgl] at crow
                have hok3 : ok cl.lits[i2] = true := List.all_eq_true.1 HALL.out _ (List.getElem_mem hlt)
                have hget : cl.lits[i2]? = some cl.lits[i2] := List.getElem?_eq_getElem hlt
                have htk : cl.lits.take (i2 + 1) = cl.lits.take i2 ++ [cl.lits[i2]] := List.take_succ_eq_append_getElem hlt
                generalize cl.lits[i2] = ml at hok3 hget htk
                have cel : wr.cell? ⟨gl, i2, none⟩ = some (.int .i64 ml) := crow.cell (by simp [hget])
                obtain ⟨p0, p1⟩ := ok_spec hok3
                obtain ⟨w5, s5, hup, hn5, hh5, hs5⟩ := Held.mark hn hh Try.underlying80 (of ml)
                have FIN : Hid (WhyI w L M a co mb o cl.lits why (cl.lits.length - (i2 + 1)) (.int .i64 ((i2 + 1 : Nat) : Int)) w5) := Lib.hid ⟨i2 + 1, s5, rfl, hlt, rfl, hn5, hh5, fun j => by
                  rw [hs5, HS2.out, htk]
                  simp only [List.map_append, List.map_cons, List.map_nil, List.mem_append, List.mem_singleton]
                  rw [← or_assoc, or_comm (a := j = of ml)]⟩
                rw [hgl]
                have HGL := Lib.hid hgl
                clear hgl crow hget htk hs5 hn5 hh5 hn hh
                go_wp2_with (go_at_call 53; refine (of_c _ _ p0 p1).mono ?_; rintro e w' ⟨rfl, rfl⟩)
                rw [← HGL.out]
                go_roundg (cl.lits.length - (i2 + 1))
                case measure => omega
                case rel => exact FIN.out
              · obtain rfl : i2 = cl.lits.length := by omega
                go_wp2
                go_roundg k
                case measure => omega
                case rel => exact ⟨i - 1, cl.lits.map of ++ why, s2, o, a, co, rfl, rfl, hn, hh, (fun j => by rw [HS2.out, List.take_length, List.mem_append]), HU3.out, hpos, by omega, by omega, hol0⟩
          | none =>
            rw [hre] at hu
            dsimp only at hu
            simp only [ptrO, paddr]
            have HR6 := (hn6.keepOff HR.out HO.out).1
            by_cases hin : m ∈ ax
            · rw [if_pos hin] at hu
              split at hu
              case isFalse => cases hu
              rename_i hol
              have b5 : decide (m ∈ ax) = true := decide_eq_true hin
              have HU3 := Lib.hid hu
              clear hu HU2 hin hre HRI
              go_upto_region 16 with (go_at_call 62; refine (contains_c HR6 _).mono ?_; rintro e w' ⟨rfl, rfl⟩)
              go_wp2_with (at_builtin; refine app_out hn6 hh6 rfl rfl (.tmp 87) (.tmp 89) rfl rfl m rfl rfl hol ?_; intro a' c' w' hn7 hh7; clear hn6 hh6)
              go_roundg k
              case measure => omega
              case rel => exact ⟨i - 1, why, s, o ++ [m], a', c', rfl, by simp, hn7, hh7, HS.out, HU3.out, by simp, by omega, by omega, by simp only [LIM] at hol; simp; omega⟩
            · rw [if_neg hin] at hu
              have b5 : decide (m ∈ ax) = false := decide_eq_false hin
              have HU3 := Lib.hid hu
              clear hu HU2 hin hre HRI
              go_wp2_with (go_at_call 62; refine (contains_c HR6 _).mono ?_; rintro e w' ⟨rfl, rfl⟩)
              go_roundg k
              case measure => omega
              case rel => exact ⟨i - 1, why, s, o, a, co, rfl, rfl, hn6, hh6, HS.out, HU3.out, hpos, by omega, by omega, hol0⟩
        · have b2 : decide (of m ∈ s) = false := by simpa [HS.out] using hin
          rw [b2] at hlk
          clear b2
          have hu := HU.out
          rw [if_neg hin] at hu
          have HU2 := Lib.hid hu
          clear hu HU hin
          go_wp2_with (go_at_call 53; refine (of_c _ _ m0 m1).mono ?_; rintro e w' ⟨rfl, rfl⟩)
          go_roundg k
          case measure => omega
          case rel => exact ⟨i - 1, why, s, o, a, co, rfl, rfl, HN.out, HH.out, HS.out, HU2.out, hpos, by omega, by omega, hol0⟩
      · rw [if_neg hcond] at hu
        simp only [Option.some.injEq] at hu
        subst hu
        have hol : o.length < 4611686018427387904 := by omega
        have hcase : decide (0 ≤ i) = false ∨ (decide (0 ≤ i) = true ∧ decide (0 < M.limits.length) = false) ∨ (decide (0 ≤ i) = true ∧ 0 < M.limits.length ∧ decide (M.limits.headD 0 ≤ i) = false) := by
          by_cases h1 : 0 ≤ i
          · by_cases h2 : 0 < M.limits.length
            · exact .inr (.inr ⟨decide_eq_true h1, h2, decide_eq_false fun h3 => hcond ⟨h1, h2, h3⟩⟩)
            · exact .inr (.inl ⟨decide_eq_true h1, decide_eq_false h2⟩)
          · exact .inl (decide_eq_false h1)
        rcases hcase with t1 | ⟨t1, t2⟩ | ⟨t1, c2, t3⟩
        · clear hcond
          go_upto_region 18 with (go_at_call 63; refine (sort_c hh.row hol).mono ?_; rintro e w' ⟨rfl, hg, hrw⟩)
          obtain ⟨hn2, _⟩ := hn.side hg fun g hg' => hh.own g hg'
          clear hg
          go_wp2_with (go_at_call 64; refine (compact_c hrw).mono ?_; rintro e w' ⟨rfl, hg, hrw2⟩)
          go_ret
          exact ⟨_, _, rfl, (hn2.side hg fun g hg' => hh.own g hg').1, hrw2, hh.own⟩
        · clear hcond
          go_upto_region 18 with (go_at_call 63; refine (sort_c hh.row hol).mono ?_; rintro e w' ⟨rfl, hg, hrw⟩)
          obtain ⟨hn2, _⟩ := hn.side hg fun g hg' => hh.own g hg'
          clear hg
          go_wp2_with (go_at_call 64; refine (compact_c hrw).mono ?_; rintro e w' ⟨rfl, hg, hrw2⟩)
          go_ret
          exact ⟨_, _, rfl, (hn2.side hg fun g hg' => hh.own g hg').1, hrw2, hh.own⟩
        · obtain ⟨l0, hl0⟩ : ∃ l0, M.limits[0]? = some l0 := ⟨_, List.getElem?_eq_getElem c2⟩
          have hd0 : M.limits.headD 0 = l0 := by rw [List.headD_eq_head?_getD, List.head?_eq_getElem?, hl0]; rfl
          rw [hd0] at t3
          obtain ⟨gm, hgm, rgm, cm, _⟩ := hr.num .limits rfl rfl rfl (gi_of (i := 0) (by decide) hl0)
          have cm0 : wr.cell? ⟨gm, 0, none⟩ = some (.int .i64 l0) := cm
          simp only [hgm] at s6
          have t2 : decide (0 < M.limits.length) = true := decide_eq_true c2
          have c2' : (0 : Int) < (M.limits.length : Int) := by omega
          clear hcond hl0 hd0 hgm cm
          go_upto_region 18 with (go_at_call 63; refine (sort_c hh.row hol).mono ?_; rintro e w' ⟨rfl, hg, hrw⟩)
          obtain ⟨hn2, _⟩ := hn.side hg fun g hg' => hh.own g hg'
          clear hg
          go_wp2_with (go_at_call 64; refine (compact_c hrw).mono ?_; rintro e w' ⟨rfl, hg, hrw2⟩)
          go_ret
          exact ⟨_, _, rfl, (hn2.side hg fun g hg' => hh.own g hg').1, hrw2, hh.own⟩

end Go.Proofs.Ytminhlpbdpbolaa
