/- SatHoles walked. -/
import Derived.Test.YtminhlpbdpbolaaLc
namespace Go.Proofs.Ytminhlpbdpbolaa
open Go.RowKit Mir

def HoleP (w0 : World) (L0 : Lay) (M0 Mf : St) (k : Nat) (kk : Nat) (v6 : Value) (wr : World) : Prop :=
  ∃ (p : Nat) (L : Lay) (M : St), v6 = .int .i64 (p : Nat) ∧ p ≤ k ∧ kk = k - p ∧ Next w0 L0 M0 wr L M ∧ adds (hp k p (k - p)) M = some Mf

def HoleH (w0 : World) (L0 : Lay) (M0 Mf : St) (k p : Nat) (T : List (List Int)) (kk : Nat) (v7 v8 : Value) (wr : World) : Prop :=
  ∃ (h : Nat) (L : Lay) (M : St) (a : Option Addr) (c : Nat), v7 = .slice a h c ∧ v8 = .int .i64 (h : Nat) ∧ h ≤ k - 1 ∧ kk = k - 1 - h ∧ Next w0 L0 M0 wr L M ∧
    Row wr 3 1 a h c ((hsome k p h).map vi) ∧ Own w0 L a ∧ adds (hh k p h (k - 1 - h) ++ T) M = some Mf

def HoleQ (w0 : World) (L0 : Lay) (M0 Mf : St) (k p h : Nat) (T : List (List Int)) (a : Option Addr) (c : Nat) (kk : Nat) (v9 : Value) (wr : World) : Prop :=
  ∃ (q : Nat) (L : Lay) (M : St), v9 = .int .i64 (q : Nat) ∧ q ≤ p ∧ kk = p - q ∧ Next w0 L0 M0 wr L M ∧
    Row wr 3 1 a (h + 1) c ((hsome k p (h + 1)).map vi) ∧ Own w0 L a ∧ adds (hq k p h q (p - q) ++ T) M = some Mf

theorem Own.row {w0 w w' : World} {L L' : Lay} {M M' : St} {a : Option Addr} {n c : Nat} {xs : List Value} (ho : Own w0 L a) (hr : Row w 3 1 a n c xs) (q : Next w L M w' L' M') : Row w' 3 1 a n c xs ∧ Own w0 L' a :=
  ⟨(q.keepOff hr fun g hg => (ho g hg).1).1, fun g hg => ⟨(q.keepOff hr fun g hg => (ho g hg).1).2 g hg, (ho g hg).2⟩⟩

theorem pair_right {a b : Int} (ha : 1 ≤ a ∧ a ≤ 26) (hb : 1 ≤ b ∧ b ≤ 26) : ([-a, -b] : List Int).all Mir.right = true := by
  simp [(right_of ha).2, (right_of hb).2]

set_option maxHeartbeats 4000000 in
set_option maxRecDepth 100000 in
theorem holes_c (n : Nat) (hn : n < 256) (w : World) : Calls Try.prog 10 #[.int .u8 (n : Nat)] w fun e w' => e = .returned (.bool true) ∧ Kept w w' := by
  go_enter Try.func10, Try.ntmps10
  go_upto_region 2 with (fail)
  have ek : (2 + (n : Int) % 4) = ((2 + n % 4 : Nat) : Int) := by omega
  have hk2 : 2 ≤ 2 + n % 4 := by omega
  have hk5 : 2 + n % 4 ≤ 5 := by omega
  rw [ek]
  generalize 2 + n % 4 = k at hk2 hk5 ⊢
  obtain ⟨M, Mf, h1, h2⟩ := holes_steps k hk2 hk5
  have H1 := Lib.hid h1
  have H2 := Lib.hid h2
  clear ek h1 h2 hn
  generalize hw1 : w.alloc (.cells #[.int .i64 (k : Nat)] 3) = w1
  have hkc0 : w1.heap[w.heap.size]? = some (.cells #[.int .i64 (k : Nat)] 3) := by rw [← hw1]; exact heap_alloc_new w _
  have hkw : Kept w w1 := by rw [← hw1]; exact Kept.made w _
  have HKW := Lib.hid hkw
  have HKC := Lib.hid hkc0
  clear hw1 hkw hkc0
  generalize hkb : w.heap.size = kb at *
  have HKB := Lib.hid hkb
  clear hkb
  go_upto_region 3 with (go_at_call 18; refine (new_c w1).mono ?_; rintro e w2 ⟨rfl, hw2⟩)
  have hs2 := Sol.new w1
  rw [hw2] at hs2
  have hsb : (newLay w1.heap.size).sb = w1.heap.size + 3 := rfl
  generalize newLay w1.heap.size = L0 at *
  generalize w1.heap.size + 3 = sb at *
  have HS2 := Lib.hid hs2
  have HSB := Lib.hid hsb
  clear hw2 hs2 hsb
  go_upto_region 5 with (go_at_call 12; refine (awake_c w2).mono ?_; rintro e w3 ⟨rfl, hk3⟩)
  have hs3 := HS2.out.side hk3
  clear HS2 hk3
  have hkc : ∀ (wr : World) (L : Lay) (M : St), Next w3 L0 news wr L M → wr.cell? ⟨kb, 0, none⟩ = some (.int .i64 (k : Nat)) := by
    intro wr L M hn
    have hlt : kb < w1.heap.size := (Array.getElem?_eq_some_iff.1 HKC.out).1
    have hb := (hs3.next hn).kept.block kb hlt rfl
    rw [cell_of_row wr kb 0 _ 3 (0, 0) (hb.trans HKC.out)]
    rfl
  have HS3 := Lib.hid hs3
  have HC := Lib.hid hkc
  clear hs3 hkc
  go_wp2
  go_loopg [6] k (HoleP w3 L0 news M k)
  case atStart => exact ⟨0, L0, news, rfl, Nat.zero_le _, rfl, Next.refl HS3.out.rep, H1.out⟩
  case round =>
    clear H1
    obtain ⟨p, L, M1, rfl, hpk, rfl, hn, hx⟩ := hrel
    have c0 := HC.out wr L M1 hn
    have HN := Lib.hid hn
    by_cases hlt : p < k
    · have hltI : (p : Int) < (k : Int) := by omega
      have hx2 : adds (hh k p 0 (k - 1) ++ (hsome k p (k - 1) :: hp k (p + 1) (k - (p + 1)))) M1 = some M := by
        rw [show k - p = (k - (p + 1)) + 1 from by omega] at hx
        exact hx
      have HX := Lib.hid hx2
      generalize hT : hsome k p (k - 1) :: hp k (p + 1) (k - (p + 1)) = T at *
      have HT := Lib.hid hT
      clear hx hx2 hn hT
      have hrow0 : Row (wr.alloc (.cells #[] 3)) 3 1 (some ⟨wr.heap.size, 0, none⟩) 0 0 ((hsome k p 0).map vi) := ⟨rfl, .inr ⟨wr.heap.size, #[], rfl, heap_alloc_new wr _, Nat.le_refl _, Nat.zero_le _, rfl, rfl⟩⟩
      have hown0 : Own w3 L (some ⟨wr.heap.size, 0, none⟩) := fun g hg => by cases hg; exact ⟨HN.out.rep.new (Nat.le_refl _), HN.out.fr.size⟩
      have hn0 := HN.out.alloc (.cells #[] 3)
      have HROW0 := Lib.hid hrow0
      have HOWN0 := Lib.hid hown0
      have HN0 := Lib.hid hn0
      clear hrow0 hown0 hn0
      go_wp2
      go_loopg [7, 8] (k - 1) (HoleH w3 L0 news M k p T)
      case atStart => exact ⟨0, L, M1, _, 0, rfl, rfl, Nat.zero_le _, rfl, HN0.out, HROW0.out, HOWN0.out, HX.out⟩
      case round =>
        clear HROW0 HOWN0 HN0 HX HN c0
        obtain ⟨h, L, M1, a, c, rfl, rfl, hhk, rfl, hn, hrow, hown, hx⟩ := hrel
        have c0 := HC.out wr L M1 hn
        have HN := Lib.hid hn
        have HROW := Lib.hid hrow
        have HOWN := Lib.hid hown
        have HX := Lib.hid hx
        clear hn hrow hown hx
        by_cases hlt2 : h < k - 1
        · have hltI2 : (h : Int) < (k : Int) - 1 := by omega
          have hx2 : adds (hq k p h 0 p ++ (hh k p (h + 1) (k - 1 - (h + 1)) ++ T)) M1 = some M := by
            have hx := HX.out
            rw [show k - 1 - h = (k - 1 - (h + 1)) + 1 from by omega] at hx
            rw [← List.append_assoc]
            exact hx
          have hlim : h < LIM := by simp only [LIM]; omega
          have HX2 := Lib.hid hx2
          generalize hT2 : hh k p (h + 1) (k - 1 - (h + 1)) ++ T = T2 at *
          have HT2 := Lib.hid hT2
          clear hx2 hT2 HX
          go_wp2_with (first
            | (go_at_call 25; refine (at_c c0 hk2 hk5 (by omega) (by omega)).mono ?_; rintro e w' ⟨rfl, rfl⟩)
            | (at_builtin; refine app_own HN.out HROW.out HOWN.out rfl (.tmp 36) (.tmp 41) rfl rfl (hat k p h) rfl rfl hlim ?_; intro a' c' w2 hn2 hrow2 hown2; rw [← hsome_succ] at hrow2; have HN2 := Lib.hid hn2; have HROW2 := Lib.hid hrow2; have HOWN2 := Lib.hid hown2; clear hn2 hrow2 hown2 c0 HN HROW HOWN))
          go_loopg [9] p (HoleQ w3 L0 news M k p h T2 a' c')
          case atStart => exact ⟨0, L, M1, rfl, Nat.zero_le _, rfl, HN2.out, HROW2.out, HOWN2.out, HX2.out⟩
          case round =>
            clear HN2 HROW2 HOWN2 HX2
            obtain ⟨q, L, M1, rfl, hqp, rfl, hn, hrow, hown, hx⟩ := hrel
            have c0 := HC.out wr L M1 hn
            by_cases hlt3 : q < p
            · have hltI3 : (q : Int) < (p : Int) := by omega
              rw [show p - q = (p - (q + 1)) + 1 from by omega] at hx
              replace hx : (add M1 [-(hat k p h), -(hat k q h)]).bind (adds (hq k p h (q + 1) (p - (q + 1)) ++ T2)) = some M := hx
              obtain ⟨M2, hadd, hx2⟩ := Option.bind_eq_some_iff.1 hx
              have hb1 := hat_pos k p h hk5 (by omega) (by omega)
              have hb2 := hat_pos k q h hk5 (by omega) (by omega)
              have hr := row_lit (w := wr) [-(hat k p h), -(hat k q h)] (by simp)
              have hn1 := hn.alloc (.cells #[.int .i64 (-(hat k p h)), .int .i64 (-(hat k q h))] 3)
              have hadd' := Lib.hid (add_c (c := 2) hn1.rep (hn1.ext.sb.trans HSB.out) (n := 2) rfl (hr.rd fun g hg => by cases hg; exact hn.rep.new (Nat.le_refl _)) (pair_right hb1 hb2) hadd)
              have hr1 := hrow.alloc (.cells #[.int .i64 (-(hat k p h)), .int .i64 (-(hat k q h))] 3)
              have HROW := Lib.hid hr1
              have HOWN := Lib.hid hown
              have HN := Lib.hid hn1
              have HX := Lib.hid hx2
              have hat1 := Lib.hid (at_c c0 hk2 hk5 (by omega : p ≤ 5) (by omega : h ≤ 5))
              have hat2 := Lib.hid (at_c c0 hk2 hk5 (by omega : q ≤ 5) (by omega : h ≤ 5))
              obtain ⟨hb11, hb12⟩ := hb1
              obtain ⟨hb21, hb22⟩ := hb2
              clear hn hrow hown hx hx2 hr hn1 hr1 hadd
              go_wp2_with (first
                | (go_at_call 25
                   refine hat1.out.mono ?_
                   rintro e w' ⟨rfl, rfl⟩
                   clear hat1)
                | (go_at_call 25
                   refine hat2.out.mono ?_
                   rintro e w' ⟨rfl, rfl⟩
                   clear hat2)
                | (go_at_call 19
                   refine hadd'.out.mono ?_
                   rintro e w5 ⟨rfl, L5, hn5⟩
                   have hro := Own.row HOWN.out HROW.out hn5
                   have hn6 := HN.out.trans hn5
                   have HRO := Lib.hid hro
                   have HN6 := Lib.hid hn6
                   clear hro hn6 hn5 c0 HN HROW HOWN hadd'))
              go_roundg (p - (q + 1))
              case measure => omega
              case rel => exact ⟨q + 1, L5, M2, by go_num, hlt3, rfl, HN6.out, HRO.out.1, HRO.out.2, HX.out⟩
            · have hqe : q = p := by omega
              subst hqe
              rw [Nat.sub_self] at hx
              have HN := Lib.hid hn
              have HROW := Lib.hid hrow
              have HOWN := Lib.hid hown
              have HX := Lib.hid hx
              clear hn hrow hown hx
              go_wp2
              go_roundg (k - 1 - (h + 1))
              case measure => omega
              case rel => exact ⟨h + 1, L, M1, a', c', rfl, by go_num, by omega, rfl, HN.out, HROW.out, HOWN.out, by rw [HT2.out]; exact HX.out⟩
        · have hhe : (h : Int) = (k : Int) - 1 := by omega
          have hx2 : adds T M1 = some M := by
            have hx := HX.out
            rw [show k - 1 - h = 0 from by omega] at hx
            exact hx
          rw [← HT.out] at hx2
          obtain ⟨M2, hadd, hx3⟩ := Option.bind_eq_some_iff.1 hx2
          have hhk2 : h = k - 1 := by omega
          have hrow2 : Row wr 3 1 a h c ((hsome k p (k - 1)).map vi) := hhk2 ▸ HROW.out
          have hadd' := Lib.hid (add_c (c := c) HN.out.rep (HN.out.ext.sb.trans HSB.out) (by rw [hsome_len, hhk2] : (hsome k p (k - 1)).length = h) (hrow2.rd fun g hg => (HOWN.out g hg).1) (hsome_right k p (k - 1) hk5 (by omega) (by omega)) hadd)
          have HX3 := Lib.hid hx3
          clear hx2 hadd hx3 hrow2 hhk2 HX HROW
          go_wp2_with (go_at_call 19; refine hadd'.out.mono ?_; rintro e w5 ⟨rfl, L5, hn5⟩)
          go_roundg (k - (p + 1))
          case measure => omega
          case rel => exact ⟨p + 1, L5, M2, by go_num, hlt, rfl, HN.out.trans hn5, HX3.out⟩
    · have hpe : p = k := by omega
      subst hpe
      have HX := Lib.hid hx
      clear hx hn
      have hx2 : M1 = M := by
        have hx := HX.out
        rw [Nat.sub_self] at hx
        exact Option.some.inj hx
      subst hx2
      have hsol := HS3.out.next HN.out
      have hsb := HN.out.ext.sb.trans HSB.out
      have HS := Lib.hid hsol
      have HSB2 := Lib.hid hsb
      have HSV := Lib.hid (solve_c (c := 0) hsol.rep hsb (limit := 0) (n := 0) rfl (Row.nil wr 3 1) (fun g hg => by cases hg) rfl (by decide) H2.out)
      clear hsol hsb HX HN HSB HC HKC H2
      go_upto_region 22 with (go_at_call 14; refine HSV.out.mono ?_; rintro e w9 ⟨L9, a9, c9, rfl, hn9, hrow9, hown9⟩; simp only [ansV, Ans.list, List.length_cons, List.length_nil, Nat.zero_add, Nat.reduceAdd] at *)
      obtain ⟨hs10, hb10, -, -⟩ := solved HS.out hn9 hrow9 hown9 (.cells #[.bool false, .slice none 0 0, .slice a9 0 c9] 29)
      have hsb9 := hn9.ext.sb.trans HSB2.out
      clear hn9 hrow9 hown9 HSV
      generalize w9.alloc (.cells #[.bool false, .slice none 0 0, .slice a9 0 c9] 29) = wa at *
      generalize w9.heap.size = b3 at *
      obtain ⟨c31, -, c33⟩ := cell3 hb10.blk
      have hl0 : ((Mf.learnt.length : Int) ≥ 0) := by omega
      have HS10 := Lib.hid hs10
      have HSB9 := Lib.hid hsb9
      clear hb10 hs10 hsb9
      go_wp2_with (go_at_call 26; refine (learnt_c HS10.out.rep HSB9.out).mono ?_; rintro e wd ⟨rfl, rfl⟩)
      go_ret
      exact ⟨by simp, HKW.out.trans' HS10.out.kept⟩

end Go.Proofs.Ytminhlpbdpbolaa
