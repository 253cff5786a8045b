/- Without the literals that are false: slices.DeleteFunc. -/
import Derived.Test.YtminhlpbdpbolaaWt
namespace Go.Proofs.Ytminhlpbdpbolaa
open Go.RowKit Mir

theorem grownBy_trans {a b c : World} {row : Option Nat} (h : a.grownBy b row) (k : b.grownBy c row) : a.grownBy c row :=
  ⟨k.os.trans h.os, k.tape.trans h.tape, k.output.trans h.output, Nat.le_trans h.size k.size, fun i hi hr => (k.block i (Nat.lt_of_lt_of_le hi h.size) hr).trans (h.block i hi hr)⟩
theorem grownBy_drewN {a b : World} {row : Option Nat} (h : a.grownBy b row) (d : Nat) : a.grownBy (b.drewN d) row := ⟨h.os, h.tape, h.output, h.size, h.block⟩
theorem grownBy_setCell (w : World) (g j : Nat) (u : Value) : w.grownBy (w.setCell ⟨g, j, none⟩ u) (some g) :=
  ⟨rfl, rfl, rfl, by simp, fun k _ hk => getElem?_setCell_other _ _ _ _ (fun e => hk (by rw [e]))⟩
theorem grownBy_setCells (g : Nat) : ∀ (vs : List Value) (o : Nat) (w : World), w.grownBy (w.setCells g o vs) (some g)
  | [], _, w => grownBy_refl w _
  | _ :: r, o, w => grownBy_trans (grownBy_setCell w g o _) (grownBy_setCells g r (o + 1) _)

theorem Row.setCells {E : Nat} {g n c : Nat} : ∀ (vs : List Value) (o : Nat) (w : World) (xs : List Value), Row w E 1 (some ⟨g, 0, none⟩) n c xs → o + vs.length ≤ xs.length → ∃ ys, Row (w.setCells g o vs) E 1 (some ⟨g, 0, none⟩) n c ys ∧ ys.take o = xs.take o
  | [], _, _, xs, h, _ => ⟨xs, h, rfl⟩
  | v :: r, o, w, xs, h, hl => by
    simp only [List.length_cons] at hl
    obtain ⟨ys, h1, h2⟩ := Row.setCells r (o + 1) _ _ (h.set o (by omega) v) (by simp; omega)
    refine ⟨ys, h1, ?_⟩
    have e : ∀ l : List Value, l.take o = (l.take (o + 1)).take o := fun l => by rw [List.take_take, Nat.min_eq_left (by omega)]
    rw [e ys, h2, ← e, List.take_set_of_le (Nat.le_refl _)]

theorem strip_first {M : St} {xs d : List Int} (i : Int) (h : strip M xs = some d) :
    ∃ r, firstVal M (-1) xs i = some r ∧ ((r = -1 ∧ d = xs) ∨ ∃ k : Nat, r = i + k ∧ k < xs.length ∧ ∃ rest, strip M (xs.drop (k + 1)) = some rest ∧ d = xs.take k ++ rest) := by
  induction xs generalizing i d with
  | nil => simp only [strip, Option.some.injEq] at h; subst h; exact ⟨-1, rfl, .inl ⟨rfl, rfl⟩⟩
  | cons x l ih =>
    simp only [strip, Option.bind_eq_bind, Option.bind_eq_some_iff, Option.pure_def, Option.some.injEq] at h
    obtain ⟨v, hv, r, hr, rfl⟩ := h
    by_cases hx : v = -1
    · exact ⟨i, by simp [firstVal, hv, hx], .inr ⟨0, by simp, by simp, r, by simpa using hr, by simp [hx]⟩⟩
    · obtain ⟨q, h1, h2⟩ := ih (i + 1) hr
      refine ⟨q, by simp [firstVal, hv, hx, h1], ?_⟩
      rw [if_neg hx]
      rcases h2 with ⟨h2, h3⟩ | ⟨k, h2, h3, rest, h4, h5⟩
      · exact .inl ⟨h2, by rw [h3]⟩
      · exact .inr ⟨k + 1, by omega, by simp; omega, rest, by simpa using h4, by simp [h5]⟩

def DelI (w : World) (M : St) (g n c : Nat) (xs d : List Int) (k : Nat) (v5 v6 : Value) (wr : World) : Prop :=
  ∃ (i j : Nat) (ys rest : List Int), v5 = .int .i64 (i : Nat) ∧ v6 = .int .i64 (j : Nat) ∧ i < j ∧ j ≤ n ∧ k = n - j ∧ ys.length = n ∧ Row wr 3 1 (some ⟨g, 0, none⟩) n c (ys.map vi) ∧ ys.drop j = xs.drop j ∧
    strip M (xs.drop j) = some rest ∧ d = ys.take i ++ rest ∧ w.grownBy wr (some g)

set_option maxHeartbeats 2000000 in
set_option maxRecDepth 100000 in
theorem strip_c {w : World} {L : Lay} {M : St} (h : Rep w L M) {sb : Nat} (hs : L.sb = sb) {bb : Nat} (hbox : w.cell? ⟨bb, 0, none⟩ = some (.pointer (some ⟨sb, 0, none⟩))) {a : Option Addr} {n c : Nat} {xs d : List Int} (hN : xs.length = n)
    (hrow : Row w 3 1 a n c (xs.map vi)) (hoff : Off L a) (hbb : ∀ g, blk a = some g → bb ≠ g) (hx : strip M xs = some d) :
    Calls Try.prog 47 #[.slice a n c, .func (.func 48) #[] #[.pointer (some ⟨bb, 0, none⟩)]] w fun e w' => e = .returned (.slice a d.length c) ∧ w.grownBy w' (blk a) ∧ Row w' 3 1 a d.length c (d.map vi) := by
  obtain ⟨r, hr, hcase⟩ := strip_first 0 hx
  have hlen := hrow.len
  simp only [maxLen] at hlen
  have hb1 : n ≤ 9223372036854775807 := by omega
  have hb2 : c ≤ 9223372036854775807 := by omega
  have hnc := hlen.1
  have HX := Lib.hid (index2_c (c := c) h hs hbox hN hrow.reads hb1 hr)
  have HR := Lib.hid hrow
  have HO := Lib.hid hoff
  have HB := Lib.hid hbb
  have HBX := Lib.hid hbox
  have HN := Lib.hid hN
  clear hr hlen hrow hoff hbox hbb hx hN
  rcases hcase with ⟨rfl, rfl⟩ | ⟨k, rfl, hk, rest, hrest, hd⟩
  · rw [HN.out]
    go_enter Try.func47, Try.ntmps47
    go_wp2_with (go_at_call 66; refine HX.out.mono ?_; rintro e w' ⟨rfl, q, rfl⟩)
    go_ret
    exact ⟨rfl, grownBy_drewN (grownBy_refl _ _) q, HR.out⟩
  · rw [HN.out] at hk
    obtain ⟨g, hg⟩ := HR.out.pos (by omega)
    subst hg
    have hgo : ∀ wr : World, w.grownBy wr (some g) → Rep wr L M ∧ wr.cell? ⟨bb, 0, none⟩ = some (.pointer (some ⟨sb, 0, none⟩)) := by
      intro wr hg
      have hblt : bb < w.heap.size := by
        have := HBX.out
        simp only [World.cell?] at this
        rcases Nat.lt_or_ge bb w.heap.size with q | q
        · exact q
        · simp [Array.getElem?_eq_none q] at this
      refine ⟨h.touch (fun _ h => h) hg.size fun b r hb hr _ => hg.block b hb fun e => ?_, (World.cell?_of_block (a := ⟨bb, 0, none⟩) (hg.block bb hblt fun e => HB.out g rfl (by cases e; rfl))).trans HBX.out⟩
      have := HO.out b e.symm
      rw [hr] at this
      cases this
    have HGO := Lib.hid hgo
    have HREST := Lib.hid hrest
    have HDD := Lib.hid hd
    have b0 : (((0 : Int) + (k : Int)) == -1) = false := by rw [beq_eq_false_iff_ne]; omega
    have b1 : ((k : Int) == -1) = false := by rw [beq_eq_false_iff_ne]; omega
    have hk0 : IntKind.i64.wrap ((0 : Int) + (k : Int) + 1) = (k : Int) + 1 := by rw [Int.zero_add]; exact IntWalk.i64_in _ (by omega)
    clear hrest hd hgo
    rw [Int.zero_add] at HX
    go_enter Try.func47, Try.ntmps47
    go_upto_region 5 with (go_at_call 66; refine HX.out.mono ?_; rintro e w' ⟨rfl, q, rfl⟩)
    have HW : Hid (w.grownBy (w.drewN q) (some g)) := Lib.hid (grownBy_drewN (grownBy_refl _ _) q)
    have HR1 : Hid (Row (w.drewN q) 3 1 (some ⟨g, 0, none⟩) n c (xs.map vi)) := Lib.hid HR.out
    clear HX hk0 b0 b1
    go_loopg [5, 6] (n - (k + 1)) (DelI w M g n c xs d)
    case atStart => exact ⟨k, k + 1, xs, rest, rfl, by go_num, Nat.lt_succ_self _, hk, rfl, HN.out, HR1.out, rfl, HREST.out, HDD.out, HW.out⟩
    case round =>
      clear HREST HDD HW HR1
      obtain ⟨i, j, ys, rs, rfl, rfl, hij, hjn, rfl, hyl, hrow, hdrop, hst, hd, hg⟩ := hrel
      obtain ⟨hrep, hbx⟩ := HGO.out _ hg
      have HYL := Lib.hid hyl
      by_cases hlt : j < n
      · have hlti : (j : Int) < (n : Int) := by omega
        have hjx : j < xs.length := by rw [HN.out]; exact hlt
        rw [List.drop_eq_getElem_cons hjx] at hst
        have hgx : xs[j]? = some xs[j] := List.getElem?_eq_getElem hjx
        have hgy : ys[j]? = xs[j]? := by
          have := congrArg (fun l => l[0]?) hdrop
          simpa using this
        rw [hgx] at hgy
        generalize xs[j] = x at hst hgx hgy
        simp only [strip, Option.bind_eq_bind, Option.bind_eq_some_iff, Option.pure_def, Option.some.injEq] at hst
        obtain ⟨v, hv, rs2, hst, hrs⟩ := hst
        have cel : wr.cell? ⟨g, j, none⟩ = some (.int .i64 x) := hrow.cell (by simp [hgy])
        have hdrop2 : ys.drop (j + 1) = xs.drop (j + 1) := by
          have := congrArg (List.drop 1) hdrop
          simpa [List.drop_drop] using this
        have HV := Lib.hid hv
        have HG := Lib.hid hg
        have HROW := Lib.hid hrow
        have HST := Lib.hid hst
        have HD2 := Lib.hid hdrop2
        have HGY := Lib.hid hgy
        have HCALL := Lib.hid (val2_c hrep hs hbx hv)
        clear hv hg hrow hst hdrop2 hdrop hgx hgy hyl hrep hbx
        by_cases hx : v = -1
        · rw [if_pos hx] at hrs
          subst hrs
          have b1 : (v == -1) = true := by simpa using hx
          have hcall := HCALL.out
          rw [b1] at hcall
          have HDD := Lib.hid hd
          clear hx b1 hd HCALL
          go_wp2_with (go_at_call 48; refine hcall.mono ?_; rintro e w' ⟨rfl, q2, rfl⟩)
          go_roundg (n - (j + 1))
          case measure => omega
          case rel => exact ⟨i, j + 1, ys, rs2, rfl, by go_num, by omega, hlt, rfl, HYL.out, HROW.out, HD2.out, HST.out, HDD.out, grownBy_drewN HG.out q2⟩
        · rw [if_neg hx] at hrs
          subst hrs
          have b1 : (v == -1) = false := by simpa using hx
          have hcall := HCALL.out
          rw [b1] at hcall
          have HDD := Lib.hid hd
          clear hx b1 hd HCALL
          go_upto_region 9 with (go_at_call 48; refine hcall.mono ?_; rintro e w' ⟨rfl, q2, rfl⟩)
          have hrow1 : Row (wr.drewN q2) 3 1 (some ⟨g, 0, none⟩) n c (ys.map vi) := HROW.out
          have hg1 := grownBy_drewN HG.out q2
          clear cel hcall
          generalize wr.drewN q2 = W1 at *
          have hiy : i < ys.length := by rw [HYL.out]; omega
          have hci : W1.cell? ⟨g, i, none⟩ = some (.int .i64 ys[i]) := hrow1.cell (by simp [hiy])
          have hfi := hrow1.free i
          have hi1 : (i : Int) < (n : Int) := by omega
          have hi2 : i < n := by omega
          have hr2 := hrow1.set i (by simpa using hiy) (vi x)
          rw [← List.map_set] at hr2
          have HFIN : Hid (DelI w M g n c xs d (n - (j + 1)) (.int .i64 ((i + 1 : Nat) : Int)) (.int .i64 ((j + 1 : Nat) : Int)) (W1.setCell ⟨g, i, none⟩ (.int .i64 x))) := Lib.hid ⟨i + 1, j + 1, ys.set i x, rs2, rfl, rfl, by omega, hlt, rfl, by simp [HYL.out], hr2, by
              rw [List.drop_set_of_lt (by omega)]; exact HD2.out, HST.out, by
              rw [HDD.out, List.take_add_one, List.getElem?_set_self hiy, List.take_set_of_le (Nat.le_refl _)]; simp, grownBy_trans hg1 (grownBy_setCell _ _ _ _)⟩
          clear hrow1 hg1 hr2 HST HD2 HDD HROW HG HYL
          go_wp2
          go_roundg (n - (j + 1))
          case measure => omega
          case rel => exact HFIN.out
      · obtain rfl : j = n := by omega
        rw [List.drop_of_length_le (by rw [HN.out]; exact Nat.le_refl _)] at hst
        simp only [strip, Option.some.injEq] at hst
        subst hst
        rw [List.append_nil] at hd
        have hil : i < ys.length := by rw [HYL.out]; exact hij
        have hcl : ∀ ty, (Builtin.clear_ #[23] ty #[.slice (some ⟨g, i, none⟩) (j - i) (c - i)]).run Try.prog wr = .ok (.tuple #[]) (wr.setCells g i (List.replicate (j - i) (.int .i64 0))) :=
          fun ty => Lib.run_clear_slice wr 23 3 ty (.int .i64 0) Try.underlying23 Try.zeroValue3 rfl rfl g i _ _ (by omega)
            (fun l hl => by
              have : (ys.map vi)[i + l]? = some (vi (ys[i + l]'(by rw [HYL.out]; omega))) := by simp [show i + l < ys.length by rw [HYL.out]; omega]
              rw [hrow.cell this]; rfl)
            (fun l _ => hrow.free _)
        obtain ⟨zs, hz1, hz2⟩ := Row.setCells (List.replicate (j - i) (.int .i64 0)) i wr _ hrow (by simp [HYL.out]; omega)
        have hg2 := grownBy_trans hg (grownBy_setCells g (List.replicate (j - i) (.int .i64 0)) i wr)
        have hz3 := hz1.cut i (by omega)
        rw [Nat.mul_one, hz2, ← List.map_take, ← hd] at hz3
        have hdl : d.length = i := by rw [hd, List.length_take]; omega
        have HDL := Lib.hid hdl
        have HZ3 := Lib.hid hz3
        have HG2 := Lib.hid hg2
        have hci : ¬ c = i := by omega
        have hii : (i : Int) ≤ (j : Int) := by omega
        have hin : i ≤ j := by omega
        have hic : i ≤ c := by omega
        have hicI : (i : Int) ≤ (c : Int) := by omega
        clear hd hz1 hz2 hz3 hg2 hdl hrow hg hdrop hyl hrep hbx hil
        go_wp2
        go_ret
        exact ⟨by rw [HDL.out]; rfl, HG2.out, by rw [HDL.out]; exact HZ3.out⟩

end Go.Proofs.Ytminhlpbdpbolaa
