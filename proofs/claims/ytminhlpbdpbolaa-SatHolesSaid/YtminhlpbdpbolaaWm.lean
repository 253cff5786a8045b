/- A clause that was learnt is taken. -/
import Derived.Test.YtminhlpbdpbolaaNew
import Derived.Test.YtminhlpbdpbolaaWl
namespace Go.Proofs.Ytminhlpbdpbolaa
open Go.RowKit Mir

theorem watch_cls {M Mf : St} {id : Nat} (h : Mir.watch M id = some Mf) : Mf.cls = M.cls := by
  simp only [Mir.watch, Option.bind_eq_bind, Option.bind_eq_some_iff] at h
  obtain ⟨c, _, a, _, b, _, h⟩ := h
  split at h
  case isFalse => cases h
  simp only [Option.bind_eq_some_iff] at h
  obtain ⟨M1, h1, h2⟩ := h
  exact (addW_cls h2).trans (addW_cls h1)

set_option maxHeartbeats 2000000 in
set_option maxRecDepth 100000 in
theorem take_c {w0 w : World} {L0 L : Lay} {M0 M Mf : St} {lits : List Int} {b : Int} (hn : Next w0 L0 M0 w L M) {sb : Nat} (hs : L0.sb = sb) {a : Option Addr} {c n : Nat} (hl : lits.length = n) (hrow : Row w 3 1 a n c (lits.map vi)) (hown : Own w0 L a) (hx : Mir.take M lits b = some Mf) :
    Calls Try.prog 32 #[.pointer (some ⟨sb, 0, none⟩), .slice a n c, .int .i64 b] w fun e w' => e = .returned (.tuple #[]) ∧ ∃ L', Next w0 L0 M0 w' L' Mf := by
  subst hs hl
  simp only [Mir.take, Option.bind_eq_bind, Option.bind_eq_some_iff] at hx
  obtain ⟨M1, hb, hx⟩ := hx
  have hsb := hn.ext.sb
  have HN := Lib.hid hn
  have HB := Lib.hid hb
  have HX := Lib.hid hx
  have HR := Lib.hid hrow
  have HO := Lib.hid hown
  have hlen := hrow.len
  simp only [maxLen] at hlen
  have hlen1 : lits.length ≤ 9223372036854775807 := by omega
  clear hx hb hrow hown hlen
  go_enter Try.func32, Try.ntmps32
  go_upto_region 1 with (go_at_call 28; refine (back_c hn.rep hsb HB.out).mono ?_; rintro e w' ⟨rfl, L1, hn1⟩)
  have hn2 := hn.trans hn1
  obtain ⟨hrow, hown⟩ := hn1.keepRow HR.out HO.out
  have HOW := Lib.hid hown
  have hsb2 := hn2.ext.sb
  clear hn hn1 HN HR HO hown hsb
  cases lits with
  | nil => cases HX.out
  | cons l0 rest =>
    have hx := HX.out
    cases rest with
    | nil =>
      dsimp only at hx
      have HX2 := Lib.hid hx
      obtain ⟨g, hg⟩ := hrow.pos (by simp)
      subst hg
      have d0 : w'.cell? ⟨g, 0, none⟩ = some (.int .i64 l0) := hrow.cell (by simp)
      clear hx HX hrow
      have hr := hn2.rep
      go_wp2_with (go_at_call 38; refine (set_c hr hsb2 (why := none) (fun r q => by cases q) HX2.out rfl).mono ?_; rintro e w' ⟨rfl, L2, hn3, _⟩)
      exact bodyPost_ret (v := .tuple #[]) (by simp [results, Try.results32, go_sem]) rfl ⟨rfl, _, hn2.trans hn3⟩
    | cons l1 rest =>
      dsimp only at hx
      split at hx
      case isFalse => cases hx
      rename_i hlim
      simp only [Option.bind_eq_some_iff] at hx
      obtain ⟨M2, hwt, hset⟩ := hx
      have HWT := Lib.hid hwt
      have HSET := Lib.hid hset
      have h0 : (l0 :: l1 :: rest)[0]? = some l0 := rfl
      have h2 : 2 ≤ (l0 :: l1 :: rest).length := by simp
      clear hwt hset HX
      generalize (l0 :: l1 :: rest) = lits at *
      obtain ⟨g, hg⟩ := hrow.pos (by omega)
      subst hg
      have d0 : w'.cell? ⟨g, 0, none⟩ = some (.int .i64 l0) := hrow.cell (by simp [h0])
      have s8 := hn2.at 8 rfl
      have b1 : ((lits.length : Int) == 1) = false := by simp; omega
      have H0 := Lib.hid h0
      have hp0 : 0 < lits.length := by omega
      have hp1 : (0 : Int) < (lits.length : Int) := by omega
      clear h0
      go_upto_region 4 with (fail)
      have hn3 := Next.newCl hn2 ⟨lits, true, M1.conflicts⟩ hrow HOW.out 74
      dsimp only at hn3
      have hcb : (L1.withCl M1.cls.length w'.heap.size ⟨some ⟨g, 0, none⟩, c⟩).cb M1.cls.length = w'.heap.size := by simp [Lay.withCl]
      have d2 : (w'.alloc (.cells #[.slice (some ⟨g, 0, none⟩) lits.length c, .bool true, .int .i64 M1.conflicts] 74)).cell? ⟨g, 0, none⟩ = some (.int .i64 l0) := (hrow.alloc _).cell (by simp [H0.out])
      have HCB := Lib.hid hcb
      have HLV : Hid ((L1.withCl M1.cls.length w'.heap.size ⟨some ⟨g, 0, none⟩, c⟩).lv M1.cls.length = ⟨some ⟨g, 0, none⟩, c⟩) := Lib.hid (by simp [Lay.withCl])
      have rg : (L1.withCl M1.cls.length w'.heap.size ⟨some ⟨g, 0, none⟩, c⟩).ro g = some (.lits M1.cls.length) := hn3.rep.rlits M1.cls.length (by simp) g (by simp [Lay.withCl, blk])
      clear hcb s8 d0 hrow hn2
      generalize (w'.alloc (.cells #[.slice (some ⟨g, 0, none⟩) lits.length c, .bool true, .int .i64 M1.conflicts] 74)) = W3 at *
      generalize (L1.withCl M1.cls.length w'.heap.size ⟨some ⟨g, 0, none⟩, c⟩) = L3 at *
      generalize w'.heap.size = cb at *
      have hr3 := hn3.rep
      have hsb3 := hn3.ext.sb
      have s4 := hn3.at 4 rfl
      have f4 := hn3.free 4
      simp only [hdv] at s4
      have lrow : Row W3 54 1 (L3.hd .learnt).a M1.learnt.length (L3.hd .learnt).c (M1.learnt.map (ptr L3.cb)) := hr3.rows .learnt rfl
      have hid1 : ∀ id ∈ M1.learnt ++ [M1.cls.length], id < (M1.cls ++ [(⟨lits, true, M1.conflicts⟩ : Cl)]).length := by
        intro id hid
        rcases List.mem_append.1 hid with q | q
        · exact hr3.ids.2.2 id q
        · simp at q; simp [q]
      have HSB : Hid (SameBut _ { ({ M1 with cls := M1.cls ++ [⟨lits, true, M1.conflicts⟩] } : St) with learnt := M1.learnt ++ [M1.cls.length] } .learnt) := Lib.hid (same_learnt hr3 (M1.learnt ++ [M1.cls.length]) hid1)
      have HRG := Lib.hid rg
      clear hid1 rg
      go_upto_region 5 with (at_builtin; refine app_ptr' rfl (.tmp 29) (.tmp 31) rfl _ _ _ L3.cb M1.learnt rfl lrow M1.cls.length HCB.out rfl rfl hlim ?_; intro a' c' w2 hro hgrow hnew; obtain ⟨q1, q2⟩ := hn3.grown .learnt hgrow s4)
      have q := Rep.newHd' hr3 .learnt HSB.out (n := M1.learnt.length + 1) (by simp [lenOf]) hgrow hro hnew
      have hlt : M1.cls.length < (M1.cls ++ [(⟨lits, true, M1.conflicts⟩ : Cl)]).length := by simp
      have c1 := q.ext.cb M1.cls.length hlt
      have c2 := q.ext.lv M1.cls.length hlt
      rw [HCB.out] at c1
      rw [HLV.out] at c2
      rw [hsb3] at q
      have hn4 := hn3.trans q
      change Next w0 L0 M0 (w2.setCell ⟨L0.sb, 4, none⟩ (.slice a' (M1.learnt.length + 1) c')) _ _ at hn4
      clear q hro hgrow hnew q1 q2 s4 f4 lrow hr3 hn3 d2 HRG
      generalize w2.setCell ⟨L0.sb, 4, none⟩ (.slice a' (M1.learnt.length + 1) c') = W4 at *
      generalize L3.withHd .learnt ⟨a', c'⟩ = L4 at *
      have hr4 := hn4.rep
      have hsb4 := hn4.ext.sb
      have C1 := Lib.hid c1
      have C2 := Lib.hid c2
      clear c1 c2 hsb3 HSB
      go_upto_region 6 with (go_at_call 49; refine (watch_c hr4 hsb4 C1.out HWT.out).mono ?_; rintro e w' ⟨rfl, L5, hn5⟩)
      have c1 := (hn5.ext.cb M1.cls.length hlt).trans C1.out
      have c2 := (hn5.ext.lv M1.cls.length hlt).trans C2.out
      have hcls := watch_cls HWT.out
      have hn6 := hn4.trans hn5
      have hr6 := hn6.rep
      have lrow := hr6.lits M1.cls.length ⟨lits, true, M1.conflicts⟩ (by rw [hcls]; simp) rfl
      rw [c2] at lrow
      dsimp only at lrow
      have d3 : w'.cell? ⟨g, 0, none⟩ = some (.int .i64 l0) := lrow.cell (by simp [H0.out])
      have hsb6 := hn6.ext.sb
      have hlt2 : M1.cls.length < M2.cls.length := by rw [hcls]; exact hlt
      have C3 := Lib.hid c1
      clear hcls c1 c2 lrow hn4 hn5 hr4 hsb4
      go_wp2_with (go_at_call 38; refine (set_c hr6 hsb6 (why := some M1.cls.length) (fun r q => by cases q; exact hlt2) HSET.out (by rw [paddr, C3.out])).mono ?_; rintro e w' ⟨rfl, L7, hn7, _⟩)
      go_end0
      exact ⟨rfl, _, hn6.trans hn7⟩

end Go.Proofs.Ytminhlpbdpbolaa
