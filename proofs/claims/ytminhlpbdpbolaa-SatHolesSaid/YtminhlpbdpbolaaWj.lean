/- What follows from what is on the trail. -/
import Derived.Test.YtminhlpbdpbolaaLef
import Derived.Test.YtminhlpbdpbolaaWi
namespace Go.Proofs.Ytminhlpbdpbolaa
open Go.RowKit Mir

theorem look_put_ne {l : List (Int × List Nat)} {k n : Int} {x : List Nat} (h : ¬ k = n) : Mir.look (put l k x) n = Mir.look l n := by
  unfold Mir.look
  induction l with
  | nil => simp [put, h]
  | cons e l ih =>
    unfold put
    split
    · rename_i he
      have h2 : ¬ e.1 = n := fun q => h (he ▸ q)
      simp [List.find?_cons, h, h2]
    · by_cases h2 : e.1 = n
      · simp [List.find?_cons, h2]
      · have h3 : (e.1 == n) = false := by simpa using h2
        simp only [List.find?_cons, h3]
        exact ih

theorem addW_look {M M1 : St} {k n : Int} {id : Nat} (h : addW M k id = some M1) (hk : ¬ k = n) : Mir.look M1.wat n = Mir.look M.wat n := by
  unfold addW at h
  split at h
  · cases h; exact look_put_ne hk
  · cases h

theorem movedL_look : ∀ (f : Nat) (M M1 : St) (id : Nat) (n : Int) (k : Nat) (b : Bool), movedL f M id n k = some (M1, b) → Mir.look M1.wat n = Mir.look M.wat n
  | 0, _, _, _, _, _, _, h => by cases h
  | f + 1, M, M1, id, n, k, b, h => by
    unfold movedL at h
    simp only [Option.bind_eq_bind, Option.bind_eq_some_iff] at h
    obtain ⟨c, hc, h⟩ := h
    split at h
    · simp only [Option.pure_def, Option.some.injEq, Prod.mk.injEq] at h
      rw [h.1]
    · simp only [Option.bind_eq_some_iff] at h
      obtain ⟨x, hx, h⟩ := h
      split at h
      · exact movedL_look f M M1 id n (k + 1) b h
      · split at h
        · rename_i hc
          simp only [Option.bind_eq_some_iff, Option.pure_def, Option.some.injEq, Prod.mk.injEq] at h
          obtain ⟨M2, h2, rfl, _⟩ := h
          rw [addW_look h2 hc.2]
          rfl
        · cases h

theorem moved_look {M M1 : St} {id : Nat} {n : Int} {b : Bool} (h : Mir.moved M id n = some (M1, b)) : Mir.look M1.wat n = Mir.look M.wat n := by
  unfold Mir.moved at h
  split at h
  · simp only [Option.bind_eq_bind, Option.bind_eq_some_iff] at h
    obtain ⟨c, hc, l0, h0, l1, h1, x, hx, h⟩ := h
    have hM : Mir.look (if l0 = -n then setLits M id c (Mir.swap c.lits 0 1) else M).wat n = Mir.look M.wat n := by
      split <;> rfl
    split at h
    · simp only [Option.pure_def, Option.some.injEq, Prod.mk.injEq] at h
      rw [← h.1, hM]
    · split at h
      · rw [movedL_look _ _ _ _ _ _ _ h, hM]
      · cases h
  · cases h

theorem set_wat {M M1 : St} {n : Int} {why : Option Nat} (h : Mir.set M n why = some M1) : M1.wat = M.wat := by
  unfold Mir.set at h
  split at h
  · simp only [Option.bind_eq_bind, Option.bind_eq_some_iff, Option.pure_def, Option.some.injEq] at h
    obtain ⟨f, _, rfl⟩ := h
    rfl
  · cases h

theorem watHd_of {L : Lay} {l : List (Int × List Nat)} {n : Int} (h : Mir.look l n ≠ []) : watHd L l n = L.wv n := by
  unfold watHd
  unfold Mir.look at h
  split
  · rfl
  · rename_i e
    rw [e] at h
    exact (h rfl).elim

theorem map_ptr {w w' : World} {L L' : Lay} {M M' : St} (q : Next w L M w' L' M') {l : List Nat} (h : ∀ id ∈ l, id < M.cls.length) : l.map (ptr L'.cb) = l.map (ptr L.cb) :=
  List.map_congr_left fun id hi => by unfold ptr; rw [q.ext.cb id (h id hi)]

theorem drop_map_get {l : List Nat} {f : Nat → Value} {i j : Nat} {u : Value} (h : ((l.drop i).map f)[j]? = some u) : (l.map f)[i + j]? = some u := by
  rw [List.map_drop, List.getElem?_drop] at h
  exact h

theorem add_at (g i j : Nat) : (⟨g, i, none⟩ : Addr).add j = ⟨g, i + j, none⟩ := by unfold Addr.add; split <;> simp_all

def SpreadO (w : World) (L : Lay) (M Mf : St) (r : Option Nat) (k : Nat) (wr : World) : Prop :=
  ∃ M1 L1, Next w L M wr L1 M1 ∧ spreadK k M1 = some (Mf, r)

def SpreadI (w : World) (L : Lay) (M Mf : St) (r : Option Nat) (n : Int) (l : List Nat) (hd : Hd) (g : Nat) (k : Nat) (iv lv : Value) (wr : World) : Prop :=
  ∃ M1 L1 i left a c M2 r2, iv = .int .i64 (i : Nat) ∧ lv = .slice a left.length c ∧ i ≤ l.length ∧ k = l.length - i ∧ Next w L M wr L1 M1 ∧ left.length ≤ i ∧
    spreadL (l.drop i) M1 n left = some (M2, r2) ∧ (match r2 with | some id => pure (M2, some id) | none => spreadK g M2) = some (Mf, r) ∧
    Mir.look M1.wat n = l ∧ (l ≠ [] → L1.wv n = hd) ∧ LeftI w wr L1 n a left.length c (left.map (ptr L1.cb)) ∧ ∀ id ∈ left, id < M1.cls.length

set_option maxHeartbeats 4000000 in
set_option maxRecDepth 100000 in
theorem spread_c {w : World} {L : Lay} {M Mf : St} {r : Option Nat} (h : Rep w L M) {sb : Nat} (hs : L.sb = sb) (hx : Mir.spread M = some (Mf, r)) :
    Calls Try.prog 30 #[.pointer (some ⟨sb, 0, none⟩)] w fun e w' => ∃ L', e = .returned (ptrO L'.cb r) ∧ Next w L M w' L' Mf ∧ ∀ id, r = some id → id < Mf.cls.length := by
  subst hs
  unfold Mir.spread at hx
  have HX := Lib.hid hx
  clear hx
  go_enter Try.func30, Try.ntmps30
  go_wp2
  go_loopg [] (M.vars.length + 2) (SpreadO w L M Mf r)
  case atStart => exact ⟨M, L, Next.refl h, HX.out⟩
  case round =>
    obtain ⟨M1, L1, hn, hu⟩ := hrel
    clear HX h
    cases gk with
    | zero => cases hu
    | succ k =>
      unfold spreadK at hu
      have hr := hn.rep
      have s5 := hn.at 5 rfl
      have s7 := hn.at 7 rfl
      have f7 := hn.free 7
      simp only [hdv] at s5
      have hlen := hr.len .trail
      simp only [lenOf, maxLen] at hlen
      have hlen1 : M1.trail.length ≤ 9223372036854775807 := by omega
      clear hlen
      by_cases hle : M1.head < M1.trail.length
      · rw [if_pos hle] at hu
        simp only [Option.bind_eq_bind, Option.bind_eq_some_iff] at hu
        obtain ⟨n, hnn, hu⟩ := hu
        split at hu
        case isFalse => cases hu
        rename_i hlim
        simp only [Option.bind_eq_some_iff] at hu
        obtain ⟨⟨M2, r2⟩, hsl, hu⟩ := hu
        obtain ⟨h0, _, _⟩ := gi_spec hnn
        obtain ⟨gt, hgt, rgt, ct, ft⟩ := hr.num .trail rfl rfl rfl hnn
        rw [hgt] at s5
        have HU := Lib.hid hu
        have HS := Lib.hid hsl
        have HLM := Lib.hid hlim
        have hle2 : M1.head.toNat < M1.trail.length := by omega
        have hw1 : IntKind.i64.wrap (M1.head + 1) = M1.head + 1 := IntWalk.i64_in _ (by omega)
        clear hu hsl hlim hnn hgt
        go_wp2
        go_quiet (fail)
        replace hn := hn.drewN nq
        replace s5 : (wr.drewN nq).cell? ⟨L.sb, 5, none⟩ = some (.slice (some ⟨gt, 0, none⟩) M1.trail.length (L1.hd K.trail).c) := s5
        replace s7 : (wr.drewN nq).cell? ⟨L.sb, 7, none⟩ = some (vi M1.head) := s7
        replace f7 : (wr.drewN nq).frozen? ⟨L.sb, 7, none⟩ = false := f7
        replace ct : (wr.drewN nq).cell? ⟨gt, M1.head.toNat, none⟩ = some (vi n) := ct
        clear hr ft
        generalize wr.drewN nq = W0 at *
        go_wp2
        go_quiet (fail)
        replace hn := hn.drewN nq
        replace s7 : (W0.drewN nq).cell? ⟨L.sb, 7, none⟩ = some (vi M1.head) := s7
        replace f7 : (W0.drewN nq).frozen? ⟨L.sb, 7, none⟩ = false := f7
        clear s5 ct
        generalize W0.drewN nq = W1 at *
        go_upto_region 4 with (fail)
        have hn2 := Next.setOwn hn { M1 with head := M1.head + 1 } 7 (vi (M1.head + 1)) rfl rfl rfl rfl rfl rfl rfl rfl rfl
        clear hn s7 f7
        change Hid (spreadL (Mir.look ({ M1 with head := M1.head + 1 } : St).wat n) { M1 with head := M1.head + 1 } n [] = some (M2, r2)) at HS
        change Hid ((Mir.look ({ M1 with head := M1.head + 1 } : St).wat n).length ≤ LIM) at HLM
        generalize ({ M1 with head := M1.head + 1 } : St) = Ma at *
        generalize W1.setCell ⟨L.sb, 7, none⟩ (vi (M1.head + 1)) = W2 at *
        have hr2 := hn2.rep
        have s3 := hn2.at 3 rfl
        have hlk : (Instr.lookup 50 (.map (some L1.mb)) (.int .i64 n) false).run Try.prog W2 = .ok (.slice (watHd L1 Ma.wat n).a (Mir.look Ma.wat n).length (watHd L1 Ma.wat n).c) W2 := hr2.look n
        obtain ⟨lrow, lrole⟩ := hr2.lookRow n
        have hids : ∀ id ∈ Mir.look Ma.wat n, id < Ma.cls.length := by
          intro j hj
          unfold Mir.look at hj
          cases hf : Ma.wat.find? fun e => e.1 == n with
          | none => rw [hf] at hj; simp at hj
          | some e => rw [hf] at hj; exact hr2.ids.2.1 e (List.mem_of_find?_eq_some hf) j hj
        have hwv : Mir.look Ma.wat n ≠ [] → L1.wv n = watHd L1 Ma.wat n := fun q => (watHd_of q).symm
        generalize hll : Mir.look Ma.wat n = l at *
        generalize watHd L1 Ma.wat n = hd at *
        obtain ⟨ha, hc⟩ := hd
        dsimp only at lrow lrole hlk
        have HLK := Lib.hid hll
        have HWV := Lib.hid hwv
        have HID := Lib.hid hids
        clear hll hwv hids hlen1 hle hle2 hw1 rgt h0
        go_upto_region 5 with (fail)
        go_cut [5] from 8 to 103 (fun v wc => ∃ a, v = .slice a 0 0 ∧ hasRole L1.ro a (.wl n) ∧ wc = W2)
        case first =>
          rcases ha with _ | ad
          all_goals
            go_wp2
            go_meet
            case rel => exact ⟨_, rfl, lrole, rfl⟩
        case rest =>
          obtain ⟨a5, rfl, role5, rfl⟩ := hcut
          clear lrow lrole hlk s3
          go_wp2
          go_loopg [45, 5] l.length (SpreadI w L M Mf r n l ⟨ha, hc⟩ k)
          case atStart => exact ⟨Ma, L1, 0, [], a5, 0, M2, r2, rfl, rfl, Nat.zero_le _, rfl, hn2, Nat.le_refl _, HS.out, HU.out, HLK.out, HWV.out, .inl ⟨rfl, rfl, rfl, role5⟩, by simp⟩
          case round =>
            clear hn2 hr2 role5 HS HU HLK HWV HID
            obtain ⟨Mb, Lb, i, left, al, cl, M3, r3, rfl, rfl, hil, rfl, hn, hli, hsl, hu, hlk, hwv, hleft, hlid⟩ := hrel
            have hr := hn.rep
            by_cases hlt : i < l.length
            · have hlti : (i : Int) < (l.length : Int) := by omega
              have hib : i < 1099511627776 := by have := HLM.out; simp only [LIM] at this; omega
              have hne : l ≠ [] := by rintro rfl; simp at hlt
              obtain ⟨lrow, _⟩ := hr.lookRow n
              rw [watHd_of (by rw [hlk]; exact hne), hwv hne, hlk] at lrow
              dsimp only at lrow
              have lrow : Row wr 54 1 ha l.length hc (l.map (ptr Lb.cb)) := by
                rcases lrow with q | ⟨q, _, _⟩
                · exact q
                · omega
              obtain ⟨gl, rfl⟩ := lrow.pos (by omega)
              generalize hid : l[i] = id at *
              rw [List.drop_eq_getElem_cons hlt, hid] at hsl
              have cel : wr.cell? ⟨gl, i, none⟩ = some (.pointer (some ⟨Lb.cb id, 0, none⟩)) := lrow.cell (by simp [hlt, hid, ptr])
              have hidlt : id < Mb.cls.length := by
                have hm : id ∈ Mir.look Mb.wat n := by rw [hlk, ← hid]; exact List.getElem_mem hlt
                unfold Mir.look at hm
                cases hf : Mb.wat.find? fun e => e.1 == n with
                | none => rw [hf] at hm; simp at hm
                | some e => rw [hf] at hm; exact hr.ids.2.1 e (List.mem_of_find?_eq_some hf) id hm
              have HID0 : Hid (∀ j ∈ l, j < Mb.cls.length) := Lib.hid fun j hm => by
                have hm : j ∈ Mir.look Mb.wat n := by rw [hlk]; exact hm
                unfold Mir.look at hm
                cases hf : Mb.wat.find? fun e => e.1 == n with
                | none => rw [hf] at hm; simp at hm
                | some e => rw [hf] at hm; exact hr.ids.2.1 e (List.mem_of_find?_eq_some hf) j hm
              unfold spreadL at hsl
              simp only [Option.bind_eq_bind, Option.bind_eq_some_iff] at hsl
              obtain ⟨⟨Mc, gone⟩, hmv, hsl⟩ := hsl
              have hlkc : Mir.look Mc.wat n = l := (moved_look hmv).trans hlk
              have HLM' : left.length < LIM := by have := HLM.out; omega
              have HLK := Lib.hid hlkc
              have HWV := Lib.hid hwv
              have HU := Lib.hid hu
              have HL := Lib.hid hleft
              have HLI := Lib.hid hlid
              have HSL := Lib.hid hsl
              clear hlkc hwv hu hleft hlid hsl hlk hid
              go_upto_region 9 with (fail)
              cases gone with
              | true =>
                go_wp2_with (go_at_call 55; refine (moved_c hr hn.ext.sb rfl hmv).mono ?_; rintro e w' ⟨rfl, L2, hn2, hwv2⟩)
                go_roundg (l.length - (i + 1))
                case measure => omega
                case rel =>
                  have hl2 := HL.out.next hr hn2
                  rw [← map_ptr hn2 HLI.out] at hl2
                  exact ⟨Mc, L2, i + 1, left, al, cl, M3, r3, by go_num, rfl, hlt, rfl, hn.trans hn2, by omega, by simpa using HSL.out, HU.out, HLK.out, fun q => hwv2.trans (HWV.out q), hl2, fun j hj => Nat.lt_of_lt_of_le (HLI.out j hj) hn2.cls⟩
              | false =>
                have hsl := HSL.out
                simp only [Bool.false_eq_true, if_false, Option.bind_eq_some_iff] at hsl
                obtain ⟨c, hc2, l0, hl0, x, hv, hsl⟩ := hsl
                have HSM := Lib.hid hsl
                clear HSL
                have HC := Lib.hid hc2
                have HL0 := Lib.hid hl0
                clear hsl hc2 hl0
                go_upto_region 10 with (go_at_call 55; refine (moved_c hr hn.ext.sb rfl hmv).mono ?_; rintro e w' ⟨rfl, L2, hn2, hwv2⟩)
                have hn3 := hn.trans hn2
                have hl3 := HL.out.next hr hn2
                rw [← map_ptr hn2 HLI.out] at hl3
                have hcbid : L2.cb id = Lb.cb id := hn2.ext.cb id hidlt
                have hidlt2 : id < Mc.cls.length := Nat.lt_of_lt_of_le hidlt hn2.cls
                have hl2k : LeftI w w' L2 n al left.length cl (left.map (ptr L2.cb)) := hl3
                have HLI2 : Hid (∀ j ∈ left ++ [id], j < Mc.cls.length) := Lib.hid fun j hj => by
                  rcases List.mem_append.1 hj with hj | hj
                  · exact Nat.lt_of_lt_of_le (HLI.out j hj) hn2.cls
                  · simp only [List.mem_singleton] at hj; subst hj; exact hidlt2
                have HID2 : Hid (∀ j ∈ l, j < Mc.cls.length) := Lib.hid fun j hm => Nat.lt_of_lt_of_le (HID0.out j hm) hn2.cls
                have HWV2 : Hid (l ≠ [] → L2.wv n = ⟨some ⟨gl, 0, none⟩, hc⟩) := Lib.hid fun q => hwv2.trans (HWV.out q)
                clear hn hr hn2 hwv2 hl3 HLI HWV HL cel lrow hmv
                go_upto_region 11 with (at_builtin; refine app_left hn3 hl2k rfl (.tmp 54) (.tmp 56) rfl rfl id hcbid rfl rfl HLM' ?_; intro a' c' w4 hn4 hrow4 hown4 hk4)
                clear hn3 hl2k hk4
                have hr4 := hn4.rep
                obtain ⟨q0, _, _, _⟩ := hr4.clause HC.out
                have crow := hr4.lits id c HC.out rfl
                have hpos : 0 < c.lits.length := (List.getElem?_eq_some_iff.1 HL0.out).1
                have hposI : (0 : Int) < (c.lits.length : Int) := by omega
                obtain ⟨gc, hgc⟩ := crow.pos hpos
                rw [hgc] at crow
                simp only [hdv, hgc, hcbid] at q0
                have q1 : w4.cell? ⟨gc, 0, none⟩ = some (.int .i64 l0) := crow.cell (by simp [HL0.out])
                have hi63 : (l.length - (i + 1)) + (left.length + 1) ≤ 1099511627776 + 1 := by have := HLM.out; simp only [LIM] at this; omega
                have hnum : (left ++ [id]).length = left.length + 1 := by simp
                clear crow hgc
                by_cases h1 : x = 1
                · subst h1
                  have hsl := HSM.out
                  rw [if_pos rfl] at hsl
                  have HSL := Lib.hid hsl
                  clear hsl
                  go_wp2_with (go_at_call 46; refine (value_c hr4 hn4.ext.sb hv).mono ?_; rintro e w' ⟨rfl, d, rfl⟩)
                  go_roundg (l.length - (i + 1))
                  case measure => omega
                  case rel =>
                    exact ⟨Mc, L2, i + 1, left ++ [id], a', c', M3, r3, by go_num, by rw [hnum], hlt, rfl, hn4.drewN d, by omega, HSL.out, HU.out, HLK.out, HWV2.out, .inr ⟨by rw [hnum]; exact hrow4, hown4⟩, HLI2.out⟩
                · have hsl := HSM.out
                  rw [if_neg h1] at hsl
                  have ht1 : (x == 1) = false := by simpa using h1
                  go_upto_region 12 with (go_at_call 46; refine (value_c hr4 hn4.ext.sb hv).mono ?_; rintro e w' ⟨rfl, d, rfl⟩)
                  replace hn4 := hn4.drewN d
                  replace hr4 := hr4.drewN d
                  replace hrow4 : Row (w4.drewN d) 54 1 a' (left.length + 1) c' ((left ++ [id]).map (ptr L2.cb)) := hrow4
                  replace q0 : (w4.drewN d).cell? ⟨Lb.cb id, 0, none⟩ = some (.slice (some ⟨gc, 0, none⟩) c.lits.length (L2.lv id).c) := q0
                  replace q1 : (w4.drewN d).cell? ⟨gc, 0, none⟩ = some (.int .i64 l0) := q1
                  generalize w4.drewN d = W4 at *
                  by_cases h2 : x = -1
                  · subst h2
                    rw [if_pos rfl] at hsl
                    simp only [Option.some.injEq, Prod.mk.injEq] at hsl
                    obtain ⟨rfl, rfl⟩ := hsl
                    go_upto_region 13 with (go_at_call 46; refine (value_c hr4 hn4.ext.sb hv).mono ?_; rintro e w' ⟨rfl, d, rfl⟩)
                    replace hn4 := hn4.drewN d
                    replace hr4 := hr4.drewN d
                    replace hrow4 : Row (W4.drewN d) 54 1 a' (left.length + 1) c' ((left ++ [id]).map (ptr L2.cb)) := hrow4
                    clear HSM lrow q0 q1
                    generalize W4.drewN d = W5 at *
                    obtain ⟨lrow, _⟩ := Rep.lookRow hr4 n
                    rw [watHd_of (by rw [HLK.out]; exact hne), HWV2.out hne, HLK.out] at lrow
                    dsimp only at lrow
                    have lrow : Row W5 54 1 (some ⟨gl, 0, none⟩) l.length hc (l.map (ptr L2.cb)) := by
                      rcases lrow with q | ⟨q, _, _⟩
                      · exact q
                      · omega
                    have hcp := lrow.len
                    simp only [maxLen] at hcp
                    have hcp1 := hcp.1
                    have hcp2 : hc ≤ 9223372036854775807 := by omega
                    have hwr : IntKind.i64.wrap ((i : Int) + 1) = (i : Int) + 1 := IntWalk.i64_in _ (by omega)
                    have hi1 : i + 1 ≤ l.length := hlt
                    have hi2 : i + 1 ≤ hc := by omega
                    have hi3 : (i : Int) + 1 ≤ (l.length : Int) := by omega
                    have hi4 : (0 : Int) ≤ (i : Int) + 1 := by omega
                    have HM9 : Hid (l.length - (i + 1) = (l.drop (i + 1)).length) := Lib.hid (by simp)
                    have HLR := Lib.hid lrow
                    have HK8 : Hid (∀ j ∈ left ++ [id] ++ l.drop (i + 1), j < Mc.cls.length) := Lib.hid fun j hj => by
                      rcases List.mem_append.1 hj with hj | hj
                      · exact HLI2.out j hj
                      · exact HID2.out j (List.mem_of_mem_drop hj)
                    have HX8 : Hid (left.length + 1 + (l.length - (i + 1)) = (left ++ [id] ++ l.drop (i + 1)).length) := Lib.hid (by simp; omega)
                    have hb8 : left.length + 1 + (l.length - (i + 1)) ≤ 2 * LIM + 2 := by simp only [LIM]; omega
                    have hn5 := hn4.drew
                    have s3 := hn4.at 3 rfl
                    clear hv hcp lrow hlti hil
                    have hA : 0 < l.length - (i + 1) → ∃ ad, (if hc = i + 1 then some (⟨gl, 0, none⟩ : Addr) else some ⟨gl, i + 1, none⟩) = some ad ∧ ∀ j u, ((l.drop (i + 1)).map (ptr L2.cb))[j]? = some u → W5.drew.cell? (ad.add j) = some u := by
                      intro q
                      refine ⟨⟨gl, i + 1, none⟩, if_neg (by omega), fun j u hu => ?_⟩
                      rw [add_at]
                      exact HLR.out.cell (j := i + 1 + j) (drop_map_get hu)
                    have HA := Lib.hid hA
                    have HN5 := Lib.hid hn5
                    have HR4 : Hid (Row W5.drew 54 1 a' (left.length + 1) c' ((left ++ [id]).map (ptr L2.cb))) := Lib.hid hrow4
                    have HO4 := Lib.hid hown4
                    clear hA hn5 hn4 hr4 hrow4 hown4
                    go_region_law (refine step_rest (w0 := w) (w := W5.drew) (L0 := L) (L := L2) (M0 := M) (M := Mc) HN5.out ?hgd (.tmp 81) (.tmp 85) ?ho (a0 := a') (k := left.length + 1) (c := c') (xs := left ++ [id]) ?hs HR4.out HO4.out (A := if hc = i + 1 then some (⟨gl, 0, none⟩ : Addr) else some ⟨gl, i + 1, none⟩) (m := l.length - (i + 1)) (c2 := hc - (i + 1)) (ys := l.drop (i + 1)) ?hx HM9.out HA.out hb8 ?_; (case hgd => rfl); (case ho => rfl); (case hs => kernel_rfl); (case hx => kernel_rfl); intro a8 c8 w8 hn8 hrow8 hown8 hk8; clear hk8; obtain ⟨s8, w9, hup, _, L9, hcb9, hn9⟩ := put_left hn8 (n := n) (xs := left ++ [id] ++ l.drop (i + 1)) HX8.out (.inr ⟨hrow8, hown8⟩) HK8.out; clear hn8 hrow8 hown8)
                    all_goals
                      go_wp2
                      all_goals
                        go_ret
                        have hu := HU.out
                        simp only [Option.pure_def, Option.some.injEq, Prod.mk.injEq] at hu
                        obtain ⟨rfl, rfl⟩ := hu
                        exact ⟨L9, by simp only [ptrO, paddr, hcb9, hcbid]; kernel_rfl, hn9, fun j hj => by cases hj; exact hidlt2⟩
                  · rw [if_neg h2] at hsl
                    simp only [Option.bind_eq_some_iff] at hsl
                    obtain ⟨Md, hset, hsl⟩ := hsl
                    have ht2 : (x == -1) = false := by simpa using h2
                    have HSL := Lib.hid hsl
                    clear hsl
                    go_upto_region 15 with (go_at_call 46; refine (value_c hr4 hn4.ext.sb hv).mono ?_; rintro e w' ⟨rfl, d, rfl⟩)
                    replace hn4 := hn4.drewN d
                    replace hr4 := hr4.drewN d
                    replace hrow4 : Row (W4.drewN d) 54 1 a' (left.length + 1) c' ((left ++ [id]).map (ptr L2.cb)) := hrow4
                    replace q0 : (W4.drewN d).cell? ⟨Lb.cb id, 0, none⟩ = some (.slice (some ⟨gc, 0, none⟩) c.lits.length (L2.lv id).c) := q0
                    replace q1 : (W4.drewN d).cell? ⟨gc, 0, none⟩ = some (.int .i64 l0) := q1
                    generalize W4.drewN d = W5 at *
                    go_wp2_with (go_at_call 38; refine (set_c hr4 hn4.ext.sb (why := some id) (fun r hr => by cases hr; exact hidlt2) hset (by rw [paddr, hcbid])).mono ?_; rintro e w' ⟨rfl, L5, hn5, hwv5⟩)
                    go_roundg (l.length - (i + 1))
                    case measure => omega
                    case rel =>
                      obtain ⟨r1, r2⟩ := hn5.keepRow hrow4 hown4
                      refine ⟨Md, L5, i + 1, left ++ [id], a', c', M3, r3, by go_num, by rw [hnum], hlt, rfl, hn4.trans hn5, by omega, HSL.out, HU.out, by rw [set_wat hset]; exact HLK.out, fun q => by rw [hwv5]; exact HWV2.out q, .inr ⟨?_, r2⟩, fun j hj => Nat.lt_of_lt_of_le (HLI2.out j hj) hn5.cls⟩
                      rw [hnum, map_ptr hn5 HLI2.out]
                      exact r1
            · have hie : i = l.length := by omega
              subst hie
              rw [List.drop_length] at hsl
              simp only [spreadL, Option.some.injEq, Prod.mk.injEq] at hsl
              obtain ⟨rfl, rfl⟩ := hsl
              obtain ⟨s3, w3, hup, _, L3, _, hn3⟩ := put_left hn (n := n) rfl hleft hlid
              have HU := Lib.hid hu
              clear hu hlk hwv hleft hlid
              go_wp2
              go_roundg k
              case measure => omega
              case rel => exact ⟨_, L3, hn3, HU.out⟩
      · rw [if_neg hle] at hu
        simp only [Option.some.injEq, Prod.mk.injEq] at hu
        obtain ⟨rfl, rfl⟩ := hu
        go_wp2
        go_quiet (fail)
        go_wp2
        go_ret
        exact ⟨L1, rfl, hn.drewN nq, by simp⟩


end Go.Proofs.Ytminhlpbdpbolaa
