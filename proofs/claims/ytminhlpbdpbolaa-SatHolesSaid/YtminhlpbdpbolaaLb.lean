/- What the chapter's examples fix: awake. -/
import Derived.Test.YtminhlpbdpbolaaLa
namespace Go.Proofs.Ytminhlpbdpbolaa
open Go.RowKit Mir

def awakeB : Bool :=
  match adds [[1, 2], [-1, 2], [1, -2]] news with
  | none => false
  | some M3 => match solveF 50 M3 0 [] with
    | some (Ma, .sat m) => decide (m = [1, 2]) && match solveF 50 Ma 0 [-2] with
      | some (Mb, .unsat c) => decide (c = [-2]) && match add Mb [-1, -2] with
        | none => false
        | some Mc => match solveF 50 Mc 0 [] with
          | some (Md, .unsat d) => decide (d = []) && decide (Md.vars.length = 3)
          | _ => false
      | _ => false
    | _ => false

theorem awakeB_true : awakeB = true := by decide +kernel

theorem awake_steps : ∃ M3 Ma Mb Mc Md, adds [[1, 2], [-1, 2], [1, -2]] news = some M3 ∧ solveF 50 M3 0 [] = some (Ma, .sat [1, 2]) ∧ solveF 50 Ma 0 [-2] = some (Mb, .unsat [-2]) ∧ add Mb [-1, -2] = some Mc ∧
    solveF 50 Mc 0 [] = some (Md, .unsat []) ∧ Md.vars.length = 3 := by
  have h := awakeB_true
  unfold awakeB at h
  split at h
  · cases h
  rename_i M3 h1
  split at h
  case h_2 => cases h
  rename_i Ma m h2
  simp only [Bool.and_eq_true, decide_eq_true_eq] at h
  obtain ⟨rfl, h⟩ := h
  split at h
  case h_2 => cases h
  rename_i Mb c h3
  simp only [Bool.and_eq_true, decide_eq_true_eq] at h
  obtain ⟨rfl, h⟩ := h
  split at h
  · cases h
  rename_i Mc h4
  split at h
  case h_2 => cases h
  rename_i Md d h5
  simp only [Bool.and_eq_true, decide_eq_true_eq] at h
  obtain ⟨rfl, h⟩ := h
  exact ⟨M3, Ma, Mb, Mc, Md, h1, h2, h3, h4, h5, h⟩

theorem cell3 {W : World} {b : Nat} {x y z : Value} {E : Nat} (h : W.heap[b]? = some (.cells #[x, y, z] E (0, 0))) : W.cell? ⟨b, 0, none⟩ = some x ∧ W.cell? ⟨b, 1, none⟩ = some y ∧ W.cell? ⟨b, 2, none⟩ = some z := by
  refine ⟨?_, ?_, ?_⟩
  · rw [cell_of_row W b 0 _ E (0, 0) h]; rfl
  · rw [cell_of_row W b 1 _ E (0, 0) h]; rfl
  · rw [cell_of_row W b 2 _ E (0, 0) h]; rfl

/-- A block of the call's own beside a solver. -/
structure Beside (w : World) (L : Lay) (b : Nat) (o : Obj) : Prop where
  blk : w.heap[b]? = some o
  off : L.ro b = none
theorem Beside.next {w w' : World} {L L' : Lay} {M M' : St} {b : Nat} {o : Obj} (h : Beside w L b o) (q : Next w L M w' L' M') : Beside w' L' b o :=
  have hlt := (Array.getElem?_eq_some_iff.1 h.blk).1
  ⟨(q.fr.block b hlt h.off).trans h.blk, (q.ext.ro b hlt).trans h.off⟩
theorem Beside.kept {w w' : World} {L : Lay} {b : Nat} {o : Obj} (h : Beside w L b o) (q : Kept w w') : Beside w' L b o :=
  ⟨(q.block b (Array.getElem?_eq_some_iff.1 h.blk).1 rfl).trans h.blk, h.off⟩
theorem Beside.new {w : World} {L : Lay} {M : St} (h : Rep w L M) (xs : Array Value) (E : Nat) : Beside (w.alloc (.cells xs E)) L w.heap.size (.cells xs E (0, 0)) := ⟨heap_alloc_new w _, h.new (Nat.le_refl _)⟩

/-- Numbers written out make a row. -/
theorem row_lit {w : World} (xs : List Int) (hl : xs.length ≤ 1000) : Row (w.alloc (.cells (xs.map vi).toArray 3)) 3 1 (some ⟨w.heap.size, 0, none⟩) xs.length xs.length (xs.map vi) :=
  ⟨by simp, .inr ⟨w.heap.size, _, rfl, heap_alloc_new w _, Nat.le_refl _, by simp only [maxLen]; omega, by simp, by rw [Nat.mul_one, List.take_of_length_le (by simp)]⟩⟩

theorem three_reads (w : World) :
    ReadsM ((((w.alloc (.cells #[.int .i64 1, .int .i64 2] 3)).alloc (.cells #[.int .i64 (-1), .int .i64 2] 3)).alloc (.cells #[.int .i64 1, .int .i64 (-2)] 3)).alloc (.cells #[.slice (some ⟨w.heap.size, 0, none⟩) 2 2, .slice (some ⟨w.heap.size + 1, 0, none⟩) 2 2, .slice (some ⟨w.heap.size + 2, 0, none⟩) 2 2] 23))
      (some ⟨w.heap.size + 3, 0, none⟩) [[1, 2], [-1, 2], [1, -2]] := by
  have k1 := row_lit (w := w) [1, 2] (by decide)
  have k2 := row_lit (w := w.alloc (.cells #[.int .i64 1, .int .i64 2] 3)) [-1, 2] (by decide)
  have k3 := row_lit (w := (w.alloc (.cells #[.int .i64 1, .int .i64 2] 3)).alloc (.cells #[.int .i64 (-1), .int .i64 2] 3)) [1, -2] (by decide)
  have r1 := ((k1.alloc (.cells #[.int .i64 (-1), .int .i64 2] 3)).alloc (.cells #[.int .i64 1, .int .i64 (-2)] 3)).alloc (.cells #[.slice (some ⟨w.heap.size, 0, none⟩) 2 2, .slice (some ⟨w.heap.size + 1, 0, none⟩) 2 2, .slice (some ⟨w.heap.size + 2, 0, none⟩) 2 2] 23)
  have r2 := (k2.alloc (.cells #[.int .i64 1, .int .i64 (-2)] 3)).alloc (.cells #[.slice (some ⟨w.heap.size, 0, none⟩) 2 2, .slice (some ⟨w.heap.size + 1, 0, none⟩) 2 2, .slice (some ⟨w.heap.size + 2, 0, none⟩) 2 2] 23)
  have r3 := k3.alloc (.cells #[.slice (some ⟨w.heap.size, 0, none⟩) 2 2, .slice (some ⟨w.heap.size + 1, 0, none⟩) 2 2, .slice (some ⟨w.heap.size + 2, 0, none⟩) 2 2] 23)
  intro _
  refine ⟨w.heap.size + 3, 0, rfl, ?_⟩
  have hb := heap_alloc_new (((w.alloc (.cells #[.int .i64 1, .int .i64 2] 3)).alloc (.cells #[.int .i64 (-1), .int .i64 2] 3)).alloc (.cells #[.int .i64 1, .int .i64 (-2)] 3)) (.cells #[.slice (some ⟨w.heap.size, 0, none⟩) 2 2, .slice (some ⟨w.heap.size + 1, 0, none⟩) 2 2, .slice (some ⟨w.heap.size + 2, 0, none⟩) 2 2] 23)
  simp only [World.size_alloc] at hb
  obtain ⟨c0, c1, c2⟩ := cell3 hb
  intro i xs hi
  match i, hi with
  | 0, hi => cases hi; exact ⟨_, 2, c0, Row.reads r1, fun g hg => r1.lt hg⟩
  | 1, hi => cases hi; exact ⟨_, 2, c1, by simpa using Row.reads r2, fun g hg => r2.lt (by simpa using hg)⟩
  | 2, hi => cases hi; exact ⟨_, 2, c2, by simpa using Row.reads r3, fun g hg => r3.lt (by simpa using hg)⟩
  | n + 3, hi => simp at hi

/-- What stands behind a Solve whose answer is kept in a block. -/
theorem solved {w0 w w2 : World} {L L2 : Lay} {M M2 : St} {a : Option Addr} {n c : Nat} {xs : List Int} (hs : Sol w0 w L M) (hn : Next w L M w2 L2 M2) (hr : Row w2 3 1 a n c (xs.map vi)) (ho : Own w L2 a) (o : Obj) :
    Sol w0 (w2.alloc o) L2 M2 ∧ Beside (w2.alloc o) L2 w2.heap.size o ∧ Row (w2.alloc o) 3 1 a n c (xs.map vi) ∧ Off L2 a :=
  ⟨(hs.next hn).side (Kept.made w2 o), ⟨heap_alloc_new w2 _, hn.rep.new (Nat.le_refl _)⟩, hr.alloc o, fun g hg => (ho g hg).1⟩

set_option maxHeartbeats 2000000 in
set_option maxRecDepth 100000 in
theorem awake_c (w : World) : Calls Try.prog 12 #[] w fun e w' => e = .returned (.bool true) ∧ Kept w w' := by
  obtain ⟨M3, Ma, Mb, Mc, Md, h1, h2, h3, h4, h5, h6⟩ := awake_steps
  have hr3 := three_reads w
  have hk4 : Kept w ((((w.alloc (.cells #[.int .i64 1, .int .i64 2] 3)).alloc (.cells #[.int .i64 (-1), .int .i64 2] 3)).alloc (.cells #[.int .i64 1, .int .i64 (-2)] 3)).alloc (.cells #[.slice (some ⟨w.heap.size, 0, none⟩) 2 2, .slice (some ⟨w.heap.size + 1, 0, none⟩) 2 2, .slice (some ⟨w.heap.size + 2, 0, none⟩) 2 2] 23)) := Fr.alloc (Fr.alloc (Fr.alloc (Fr.alloc (Fr.refl _ _) _) _) _) _
  have hlt4 : ∀ g, blk (some (⟨w.heap.size + 3, 0, none⟩ : Addr)) = some g → g < ((((w.alloc (.cells #[.int .i64 1, .int .i64 2] 3)).alloc (.cells #[.int .i64 (-1), .int .i64 2] 3)).alloc (.cells #[.int .i64 1, .int .i64 (-2)] 3)).alloc (.cells #[.slice (some ⟨w.heap.size, 0, none⟩) 2 2, .slice (some ⟨w.heap.size + 1, 0, none⟩) 2 2, .slice (some ⟨w.heap.size + 2, 0, none⟩) 2 2] 23)).heap.size := by
    intro g hg
    cases hg
    simp only [World.size_alloc]; omega
  have HOF := Lib.hid (of_law (c := 3) rfl hr3 hlt4 (by decide) (by decide) h1)
  have HK4 := Lib.hid hk4
  have H2 := Lib.hid h2
  have H3 := Lib.hid h3
  have H4 := Lib.hid h4
  have H5 := Lib.hid h5
  have H6 := Lib.hid h6
  clear hr3 hk4 hlt4 h1 h2 h3 h4 h5 h6
  go_enter Try.func12, Try.ntmps12
  go_upto_region 4 with (go_at_call 13; refine HOF.out.mono ?_; rintro e w1 ⟨L1, rfl, hs1⟩)
  have hs := hs1.from HK4.out
  clear HOF hs1 HK4
  have HS1 := Lib.hid (solve_c (c := 0) hs.rep rfl (limit := 0) rfl (Row.nil w1 3 1) (fun g hg => by cases hg) rfl (by decide) H2.out)
  go_upto_region 5 with (go_at_call 14; refine HS1.out.mono ?_; rintro e w2 ⟨L2, a2, c2, rfl, hn2, hrow2, hown2⟩; simp only [ansV, Ans.list, List.length_cons, List.length_nil, Nat.zero_add, Nat.reduceAdd] at *)
  obtain ⟨hs3, hb1, hrow3, hoff3⟩ := solved hs hn2 hrow2 hown2 (.cells #[.bool true, .slice a2 2 c2, .slice none 0 0] 29)
  have hsb2 := hn2.ext.sb
  clear hs hn2 hrow2 hown2 HS1
  generalize w2.alloc (.cells #[.bool true, .slice a2 2 c2, .slice none 0 0] 29) = w3 at *
  generalize w2.heap.size = b1 at *
  generalize L1.sb = sb at *
  -- the second Solve
  have hn4 := hs3.side (Kept.made w3 (.cells #[.int .i64 (-2)] 3))
  have hb4 := hb1.kept (Kept.made w3 (.cells #[.int .i64 (-2)] 3))
  have hr4 := hrow3.alloc (.cells #[.int .i64 (-2)] 3)
  have HS2 := Lib.hid (solve_c (c := 1) hn4.rep hsb2 (limit := 0) (n := 1) rfl (row_lit (w := w3) [-2] (by decide)) (fun g hg => by cases hg; exact hs3.rep.new (Nat.le_refl _)) rfl (by decide) H3.out)
  have HB := Lib.hid hb4
  have HR := Lib.hid hr4
  have HO := Lib.hid hoff3
  have HN := Lib.hid hn4
  have HSB := Lib.hid hsb2
  clear hs3 hb1 hrow3 hoff3 hn4 hb4 hr4 hsb2
  go_upto_region 6 with (go_at_call 14; refine HS2.out.mono ?_; rintro e w5 ⟨L5, a5, c5, rfl, hn5, hrow5, hown5⟩; simp only [ansV, Ans.list, List.length_cons, List.length_nil, Nat.zero_add, Nat.reduceAdd] at *)
  -- what the second one left
  obtain ⟨hs6, hb6, hrow6, hoff6⟩ := solved HN.out hn5 hrow5 hown5 (.cells #[.bool false, .slice none 0 0, .slice a5 1 c5] 29)
  have hsb5 := hn5.ext.sb.trans HSB.out
  have hb1 := (HB.out.next hn5).kept (Kept.made w5 (.cells #[.bool false, .slice none 0 0, .slice a5 1 c5] 29))
  obtain ⟨hr1, ho1⟩ := hn5.keepOff HR.out HO.out
  have hr1 := hr1.alloc (.cells #[.bool false, .slice none 0 0, .slice a5 1 c5] 29)
  clear hn5 hrow5 hown5 HS2 HB HR HO HN HSB
  generalize w5.alloc (.cells #[.bool false, .slice none 0 0, .slice a5 1 c5] 29) = w6 at *
  generalize w5.heap.size = b2 at *
  -- the clause that leaves nothing
  have hn7 := hs6.side (Kept.made w6 (.cells #[.int .i64 (-1), .int .i64 (-2)] 3))
  have hb17 := hb1.kept (Kept.made w6 (.cells #[.int .i64 (-1), .int .i64 (-2)] 3))
  have hb27 := hb6.kept (Kept.made w6 (.cells #[.int .i64 (-1), .int .i64 (-2)] 3))
  have hr17 := hr1.alloc (.cells #[.int .i64 (-1), .int .i64 (-2)] 3)
  have hr27 := hrow6.alloc (.cells #[.int .i64 (-1), .int .i64 (-2)] 3)
  have HA := Lib.hid (add_c (c := 2) hn7.rep hsb5 (n := 2) rfl ((row_lit (w := w6) [-1, -2] (by decide)).rd (fun g hg => by cases hg; exact hs6.rep.new (Nat.le_refl _))) rfl H4.out)
  have HB1 := Lib.hid hb17
  have HB2 := Lib.hid hb27
  have HR1 := Lib.hid hr17
  have HR2 := Lib.hid hr27
  have HO1 := Lib.hid ho1
  have HO2 := Lib.hid hoff6
  have HN := Lib.hid hn7
  have HSB := Lib.hid hsb5
  clear hs6 hb6 hrow6 hoff6 hsb5 hb1 hr1 ho1 hn7 hb17 hb27 hr17 hr27
  go_upto_region 8 with (go_at_call 19; refine HA.out.mono ?_; rintro e w8 ⟨rfl, L8, hn8⟩)
  have hs8 := HN.out.next hn8
  have hsb8 := hn8.ext.sb.trans HSB.out
  have hb18 := HB1.out.next hn8
  have hb28 := HB2.out.next hn8
  obtain ⟨hr18, ho18⟩ := hn8.keepOff HR1.out HO1.out
  obtain ⟨hr28, ho28⟩ := hn8.keepOff HR2.out HO2.out
  have HS3 := Lib.hid (solve_c (c := 0) hs8.rep hsb8 (limit := 0) (n := 0) rfl (Row.nil w8 3 1) (fun g hg => by cases hg) rfl (by decide) H5.out)
  clear hn8 HA HB1 HB2 HR1 HR2 HO1 HO2 HN HSB
  have HB1 := Lib.hid hb18
  have HB2 := Lib.hid hb28
  have HR1 := Lib.hid hr18
  have HR2 := Lib.hid hr28
  have HO1 := Lib.hid ho18
  have HO2 := Lib.hid ho28
  have HN := Lib.hid hs8
  have HSB := Lib.hid hsb8
  clear hs8 hsb8 hb18 hb28 hr18 hr28 ho18 ho28
  go_upto_region 9 with (go_at_call 14; refine HS3.out.mono ?_; rintro e w9 ⟨L9, a9, c9, rfl, hn9, hrow9, hown9⟩; simp only [ansV, Ans.list, List.length_cons, List.length_nil, Nat.zero_add, Nat.reduceAdd] at *)
  obtain ⟨hs10, hb10, hrow10, hoff10⟩ := solved HN.out hn9 hrow9 hown9 (.cells #[.bool false, .slice none 0 0, .slice a9 0 c9] 29)
  have hsb9 := hn9.ext.sb.trans HSB.out
  have hb1 := (HB1.out.next hn9).kept (Kept.made w9 (.cells #[.bool false, .slice none 0 0, .slice a9 0 c9] 29))
  have hb2 := (HB2.out.next hn9).kept (Kept.made w9 (.cells #[.bool false, .slice none 0 0, .slice a9 0 c9] 29))
  have hr1 := (hn9.keepOff HR1.out HO1.out).1.alloc (.cells #[.bool false, .slice none 0 0, .slice a9 0 c9] 29)
  have hr2 := (hn9.keepOff HR2.out HO2.out).1.alloc (.cells #[.bool false, .slice none 0 0, .slice a9 0 c9] 29)
  clear hn9 hrow9 hown9 hrow10 hoff10 HS3 HB1 HB2 HR1 HR2 HO1 HO2 HN HSB
  generalize w9.alloc (.cells #[.bool false, .slice none 0 0, .slice a9 0 c9] 29) = wa at *
  generalize w9.heap.size = b3 at *
  -- the cells, as long as the checks last
  have k1 : Kept wa (wa.alloc (.cells #[.int .i64 1, .int .i64 2] 3)) := Kept.made wa _
  have t1 := same_c (c := c2) (d := 2) (n := 2) (m := 2) rfl rfl (hr1.alloc (.cells #[.int .i64 1, .int .i64 2] 3)).reads (row_lit (w := wa) [1, 2] (by decide)).reads (by decide) (by decide)
  rw [show decide (([1, 2] : List Int) = [1, 2]) = true from by decide] at t1
  have HS1 := Lib.hid t1
  clear t1
  obtain ⟨c11, c12, -⟩ := cell3 hb1.blk
  clear hr1 hb1
  have HSOL := Lib.hid hs10
  have HB2 := Lib.hid hb2
  have HB3 := Lib.hid hb10
  have HR2 := Lib.hid hr2
  have HSB := Lib.hid hsb9
  have HK1 := Lib.hid k1
  clear hs10 hb2 hb10 hr2 hsb9 k1
  go_wp2_with (first
    | (go_at_call 20
       refine HS1.out.mono ?_
       rintro e wb ⟨rfl, q1, hq1⟩
       have kb : Kept wa wb := by (rw [← hq1]; exact HK1.out.drewN q1)
       obtain ⟨c21, -, c23⟩ := cell3 (HB2.out.kept kb).blk
       have hrb := kb.row HR2.out
       have t2 := same_c (c := c5) (d := 1) (n := 1) (m := 1) rfl rfl (hrb.alloc (.cells #[.int .i64 (-2)] 3)).reads (row_lit (w := wb) [-2] (by decide)).reads (by decide) (by decide)
       rw [show decide (([-2] : List Int) = [-2]) = true from by decide] at t2
       have k2 : Kept wa (wb.alloc (.cells #[.int .i64 (-2)] 3)) := kb.trans' (Kept.made wb _)
       have HS2 := Lib.hid t2
       have HK2 := Lib.hid k2
       clear t2 k2 hrb hq1 kb HS1)
    | (go_at_call 20
       refine HS2.out.mono ?_
       rintro e wc ⟨rfl, q2, hq2⟩
       have kc : Kept wa wc := by (rw [← hq2]; exact HK2.out.drewN q2)
       obtain ⟨c31, -, c33⟩ := cell3 (HB3.out.kept kc).blk
       have hsc := HSOL.out.side kc
       have HSC := Lib.hid hsc
       have HKC := Lib.hid kc
       clear hq2 hsc kc)
    | (go_at_call 15
       refine (vars_c HSC.out.rep HSB.out (by rw [H6.out]; decide)).mono ?_
       rintro e wd ⟨rfl, rfl⟩
       rw [show ((Md.vars.length : Int) - 1) = 2 from by rw [H6.out]; rfl])
    | (go_at_call 19
       refine (add_bad (xs := [0]) (n := 1) (c := 1) rfl (row_lit (w := wc) [0] (by decide)).reads (fun g hg => by cases hg; simp) (by decide) rfl).mono ?_
       rintro e we ⟨rfl, ke⟩))
  go_ret
  exact ⟨rfl, HSC.out.kept.trans' ((Kept.made wc _).trans' ke)⟩

end Go.Proofs.Ytminhlpbdpbolaa
