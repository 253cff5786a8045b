/- A clause is put behind the others: Add. -/
import Derived.Test.YtminhlpbdpbolaaWu
import Derived.Test.YtminhlpbdpbolaaWm
import Derived.Test.YtminhlpbdpbolaaWj
import Derived.StillTailTactics
namespace Go.Proofs.Ytminhlpbdpbolaa
open Go.RowKit Mir

/-- A slice of numbers that plays no role of the solver's. -/
def Rd (w : World) (L : Lay) (a : Option Addr) (xs : List Int) : Prop :=
  xs ≠ [] → ∃ g off, a = some ⟨g, off, none⟩ ∧ L.ro g = none ∧ g < w.heap.size ∧ ∀ j x, xs[j]? = some x → w.cell? ⟨g, off + j, none⟩ = some (.int .i64 x)

theorem Rd.reads {w : World} {L : Lay} {a : Option Addr} {xs : List Int} (h : Rd w L a xs) : Reads w a xs := fun q => let ⟨g, off, h1, _, _, h4⟩ := h q; ⟨g, off, h1, h4⟩

theorem Rd.next {w w' : World} {L L' : Lay} {M M' : St} {a : Option Addr} {xs : List Int} (h : Rd w L a xs) (k : Next w L M w' L' M') : Rd w' L' a xs := by
  intro q
  obtain ⟨g, off, h1, h2, h3, h4⟩ := h q
  exact ⟨g, off, h1, (k.ext.ro g h3).trans h2, Nat.lt_of_lt_of_le h3 k.fr.size, fun j x hj => (World.cell?_of_block (a := ⟨g, off + j, none⟩) (k.fr.block g h3 h2)).trans (h4 j x hj)⟩

theorem Rd.kept {w w' : World} {L : Lay} {a : Option Addr} {xs : List Int} (h : Rd w L a xs) (k : Kept w w') : Rd w' L a xs := by
  intro q
  obtain ⟨g, off, h1, h2, h3, h4⟩ := h q
  exact ⟨g, off, h1, h2, Nat.lt_of_lt_of_le h3 k.size, fun j x hj => (World.cell?_of_block (a := ⟨g, off + j, none⟩) (k.block g h3 rfl)).trans (h4 j x hj)⟩

theorem Row.rd {w : World} {L : Lay} {a : Option Addr} {n c : Nat} {xs : List Int} (h : Row w 3 1 a n c (xs.map vi)) (ho : Off L a) : Rd w L a xs := by
  intro hne
  have hl : xs.length = n := by have := h.1; simpa using this
  obtain ⟨g, rfl⟩ := h.pos (by have := List.length_pos_iff.2 hne; omega)
  exact ⟨g, 0, rfl, ho g rfl, h.lt rfl, fun j x hj => by rw [Nat.zero_add]; exact h.cell (by simp [hj])⟩

theorem Kept.made (w : World) (o : Obj) : Kept w (w.alloc o) := (Fr.refl _ _).alloc o

theorem Rep.new {w : World} {L : Lay} {M : St} (h : Rep w L M) {g : Nat} (hg : w.heap.size ≤ g) : L.ro g = none := by
  cases hro : L.ro g with
  | none => rfl
  | some r => have := h.fresh g (by rw [hro]; simp); omega

/-- Literals that may not be are refused. -/
theorem add_bad {w : World} {sb : Nat} {A : Option Addr} {n c : Nat} {xs : List Int} (hN : xs.length = n) (hr : Reads w A xs) (hl : ∀ g, blk A = some g → g < w.heap.size) (hb : n ≤ LIM) (hall : xs.all Mir.right = false) :
    Calls Try.prog 19 #[.pointer (some ⟨sb, 0, none⟩), .slice A n c] w fun e w' => e = .returned (.int .i64 60) ∧ Kept w w' := by
  have hk1 := Kept.made w (.cells #[.pointer (some ⟨sb, 0, none⟩)] 26)
  have hk2 : Kept w ((w.alloc (.cells #[.pointer (some ⟨sb, 0, none⟩)] 26)).alloc (.cells #[.slice A n c] 23)) := Fr.alloc hk1 (.cells #[.slice A n c] 23)
  have hr2 := hk2.reads hr hl
  have hcell : ((w.alloc (.cells #[.pointer (some ⟨sb, 0, none⟩)] 26)).alloc (.cells #[.slice A n c] 23)).cell? ⟨w.heap.size + 1, 0, none⟩ = some (.slice A n c) := by simp
  have hbad : badE xs = 60 := by simp [badE, hall]
  have HC := Lib.hid (check1_c hN hr2 (by simp only [LIM] at hb; omega) hcell)
  rw [hbad] at HC
  have HK := Lib.hid hk2
  clear hk1 hk2 hr2 hcell hbad hr hl
  go_enter Try.func19, Try.ntmps19
  go_wp2_with (go_at_call 27; refine HC.out.mono ?_; rintro e w' ⟨rfl, rfl⟩)
  go_ret
  exact ⟨rfl, HK.out⟩

def GrowsI (w0 : World) (L0 : Lay) (M0 M2 : St) (xs : List Int) (k : Nat) (v27 : Value) (wr : World) : Prop :=
  ∃ (i : Nat) (M1 : St) (L1 : Lay), v27 = .int .i64 (i : Nat) ∧ i ≤ xs.length ∧ k = xs.length - i ∧ Next w0 L0 M0 wr L1 M1 ∧ grows (xs.drop i) M1 = some M2

set_option maxHeartbeats 4000000 in
set_option maxRecDepth 100000 in
theorem add_c {w : World} {L : Lay} {M Mf : St} (h : Rep w L M) {sb : Nat} (hs : L.sb = sb) {A : Option Addr} {n c : Nat} {xs : List Int} (hN : xs.length = n) (hr : Rd w L A xs) (hall : xs.all Mir.right = true) (hx : Mir.add M xs = some Mf) :
    Calls Try.prog 19 #[.pointer (some ⟨sb, 0, none⟩), .slice A n c] w fun e w' => e = .returned (.int .i64 0) ∧ ∃ L', Next w L M w' L' Mf := by
  subst hs hN
  unfold Mir.add at hx
  split at hx
  case isFalse => cases hx
  rename_i hc
  obtain ⟨ad0, ad1, hxl⟩ := hc
  simp only [Option.bind_eq_bind, Option.bind_eq_some_iff] at hx
  obtain ⟨Ma, hback, Mb, hgrows, hx⟩ := hx
  have hok : ∀ x ∈ xs, ok x = true := fun x hx => by
    have := List.all_eq_true.1 hall x hx
    simp only [Mir.right, Bool.and_eq_true] at this
    exact this.2
  have hn0 : Next w L M ((w.alloc (.cells #[.pointer (some ⟨L.sb, 0, none⟩)] 26)).alloc (.cells #[.slice A xs.length c] 23)) L M := ((Next.refl h).alloc _).alloc _
  have hbb0 : L.ro w.heap.size = none := h.new (Nat.le_refl _)
  have hbox0 : ((w.alloc (.cells #[.pointer (some ⟨L.sb, 0, none⟩)] 26)).alloc (.cells #[.slice A xs.length c] 23)).cell? ⟨w.heap.size, 0, none⟩ = some (.pointer (some ⟨L.sb, 0, none⟩)) := by simp
  have hcell : ((w.alloc (.cells #[.pointer (some ⟨L.sb, 0, none⟩)] 26)).alloc (.cells #[.slice A xs.length c] 23)).cell? ⟨w.heap.size + 1, 0, none⟩ = some (.slice A xs.length c) := by simp
  have hsz : w.heap.size < ((w.alloc (.cells #[.pointer (some ⟨L.sb, 0, none⟩)] 26)).alloc (.cells #[.slice A xs.length c] 23)).heap.size := by simp; omega
  have hrd := hr.next hn0
  have hxl1 : xs.length ≤ 9223372036854775807 := by simp only [LIM] at hxl; omega
  have HCK := Lib.hid (check1_c (c := c) rfl hrd.reads hxl1 hcell)
  have hbad : badE xs = 0 := by simp [badE, hall]
  rw [hbad] at HCK
  have HRD := Lib.hid hrd
  have HOK := Lib.hid hok
  have HBACK := Lib.hid hback
  have HGR := Lib.hid hgrows
  have HX := Lib.hid hx
  clear hr hrd hok hback hgrows hx hbad hcell hall
  go_enter Try.func19, Try.ntmps19
  go_upto_region 4 with (go_at_call 27; refine HCK.out.mono ?_; rintro e w' ⟨rfl, rfl⟩)
  clear HCK h
  generalize hbb : w.heap.size = bb at *
  generalize (w.alloc (.cells #[.pointer (some ⟨L.sb, 0, none⟩)] 26)).alloc (.cells #[.slice A xs.length c] 23) = W0 at *
  have s9 := hn0.at 9 rfl
  have f9 := hn0.free 9
  have hadd : IntKind.i64.wrap (M.added + 1) = M.added + 1 := IntWalk.i64_in _ (by simp only [LIM] at ad1; omega)
  have ad2 : M.added < 1099511627776 := ad1
  go_upto_region 5 with (fail)
  have hq1 := Next.setOwn (Next.refl hn0.rep) { M with added := M.added + 1 } 9 (vi (M.added + 1)) rfl rfl rfl rfl rfl rfl rfl rfl rfl
  change Next W0 L M (W0.setCell ⟨L.sb, 9, none⟩ (.int .i64 (M.added + 1))) L _ at hq1
  have HBX : Hid (∀ W' L' M', Next W0 L M W' L' M' → W'.cell? ⟨bb, 0, none⟩ = some (.pointer (some ⟨L.sb, 0, none⟩))) := Lib.hid fun W' L' M' q =>
    (World.cell?_of_block (a := ⟨bb, 0, none⟩) (q.fr.block bb hsz hbb0)).trans hbox0
  have HN0 := Lib.hid hn0
  clear s9 f9 hadd ad2 ad0 ad1 hn0 hbox0
  generalize W0.setCell ⟨L.sb, 9, none⟩ (.int .i64 (M.added + 1)) = W1 at *
  have hb1 := HBX.out _ _ _ hq1
  go_upto_region 6 with (go_at_call 28; refine (back_c hq1.rep hq1.ext.sb HBACK.out).mono ?_; rintro e w2 ⟨rfl, L2, hn2⟩)
  have hq2 := hq1.trans hn2
  clear hq1 hn2 hb1
  go_wp2
  go_loopg [27] xs.length (GrowsI W0 L M Mb xs)
  case atStart => exact ⟨0, Ma, L2, rfl, Nat.zero_le _, rfl, hq2, by simpa using HGR.out⟩
  case round =>
    clear hq2 HGR
    obtain ⟨i, M1, L1, rfl, hi, rfl, hq, hg⟩ := hrel
    by_cases hlt : i < xs.length
    · have hlti : (i : Int) < (xs.length : Int) := by omega
      rw [List.drop_eq_getElem_cons hlt] at hg
      have hget : xs[i]? = some xs[i] := List.getElem?_eq_getElem hlt
      generalize xs[i] = x at hg hget
      simp only [grows, Option.bind_eq_bind, Option.bind_eq_some_iff] at hg
      obtain ⟨M3, hg1, hg2⟩ := hg
      obtain ⟨g, off, hA, _, _, hcl⟩ := (HRD.out.next hq) (by intro q; rw [q] at hget; cases hget)
      subst hA
      have hcel := hcl i x hget
      have hbx := HBX.out _ _ _ hq
      have HG1 := Lib.hid hg1
      have HG2 := Lib.hid hg2
      clear hcl hget hg1 hg2
      go_wp2_with (go_at_call 29; refine (grow_c hq.rep hq.ext.sb HG1.out).mono ?_; rintro e w4 ⟨rfl, L4, hn4⟩)
      go_roundg (xs.length - (i + 1))
      case measure => omega
      case rel => exact ⟨i + 1, M3, L4, by go_num, hlt, rfl, hq.trans hn4, HG2.out⟩
    · obtain rfl : i = xs.length := by omega
      rw [List.drop_length] at hg
      simp only [grows, Option.some.injEq] at hg
      subst hg
      have HRR := Lib.hid (HRD.out.next hq).reads
      have hcln := clean_c (c := c) rfl HRR.out hxl HOK.out
      have HX2 := HX.out
      cases hcx : Mir.clean xs with
      | none =>
        rw [hcx] at hcln HX2
        simp only [Option.pure_def, Option.some.injEq] at HX2
        subst HX2
        have HCLN := Lib.hid hcln
        clear hcln
        go_wp2_with (go_at_call 43; refine HCLN.out.mono ?_; rintro e w5 ⟨hk5, rfl⟩)
        go_ret
        exact ⟨rfl, L1, HN0.out.trans (hq.kept hk5)⟩
      | some d =>
        rw [hcx] at hcln HX2
        dsimp only at HX2
        simp only [Option.bind_eq_some_iff] at HX2
        obtain ⟨b, hany, hx⟩ := HX2
        have HCLN := Lib.hid hcln
        have HANY := Lib.hid hany
        have HXX := Lib.hid hx
        clear hcln hany hx
        go_upto_region 12 with (go_at_call 43; refine HCLN.out.mono ?_; rintro e w5 ⟨hk5, a5, c5, rfl, hrow5, hf5⟩)
        have hq5 := hq.kept hk5
        have hoff5 : Off L1 a5 := fun g hg => hq.rep.new (hf5 g hg)
        clear hk5
        have hbx5 := HBX.out _ _ _ hq5
        have hdl := hrow5.len
        simp only [maxLen] at hdl
        have hdl1 : d.length ≤ 9223372036854775807 := by omega
        have hbb5 : ∀ g, blk a5 = some g → bb ≠ g := fun g hg e => by
          have := hf5 g hg
          have := hq.fr.size
          omega
        have own5 : Own W0 L1 a5 := fun g hg => ⟨hoff5 g hg, by have := hf5 g hg; have := hq.fr.size; omega⟩
        have HANYC := Lib.hid (any_c (c := c5) hq5.rep hq5.ext.sb hbx5 rfl hrow5.reads hdl1 HANY.out)
        have HROW5 := Lib.hid hrow5
        have HQ5 := Lib.hid hq5
        have HOFF5 := Lib.hid hoff5
        have HBB5 := Lib.hid hbb5
        have OWN5 := Lib.hid own5
        clear hcx HCLN hrow5 hq5 hoff5 hbb5 own5 hdl hf5 hq HRR HX hbx5
        cases b with
        | true =>
          have hx := HXX.out
          rw [if_pos rfl] at hx
          simp only [Option.pure_def, Option.some.injEq] at hx
          subst hx
          clear HXX
          go_wp2_with (go_at_call 44; refine HANYC.out.mono ?_; rintro e w6 ⟨rfl, q, rfl⟩)
          go_ret
          exact ⟨rfl, L1, HN0.out.trans (HQ5.out.drewN q)⟩
        | false =>
          have hx := HXX.out
          rw [if_neg (by decide)] at hx
          simp only [Option.bind_eq_some_iff] at hx
          obtain ⟨d2, hst, hx⟩ := hx
          have HST := Lib.hid hst
          have HX2 := Lib.hid hx
          clear hst hx HXX
          go_upto_region 14 with (go_at_call 44; refine HANYC.out.mono ?_; rintro e w6 ⟨rfl, q, rfl⟩)
          have hq6 := HQ5.out.drewN q
          have hrow6 : Row (w5.drewN q) 3 1 a5 d.length c5 (d.map vi) := HROW5.out
          clear HANYC HROW5 HQ5
          generalize w5.drewN q = W6 at *
          have HSTR := Lib.hid (strip_c hq6.rep hq6.ext.sb (HBX.out _ _ _ hq6) rfl hrow6 HOFF5.out HBB5.out HST.out)
          clear hrow6
          go_upto_region 15 with (go_at_call 47; refine HSTR.out.mono ?_; rintro e w7 ⟨rfl, hg7, hrow7⟩)
          obtain ⟨hq7, _⟩ := hq6.side hg7 fun g hg => OWN5.out g hg
          clear hg7 hq6 HSTR HST
          have hbx7 := HBX.out _ _ _ hq7
          cases d2 with
          | nil =>
            have hx := HX2.out
            simp only [Option.pure_def, Option.some.injEq] at hx
            subst hx
            have s11 := hq7.at 11 rfl
            have f11 := hq7.free 11
            have HF := Lib.hid (Next.setOwn hq7 { M1 with broken := true } 11 (.bool true) rfl rfl rfl rfl rfl rfl rfl rfl rfl)
            clear HX2 hq7 hrow7
            go_wp2
            go_ret
            exact ⟨rfl, L1, HN0.out.trans HF.out⟩
          | cons l0 rest =>
            cases rest with
            | nil =>
              have hx := HX2.out
              simp only [Option.bind_eq_some_iff] at hx
              obtain ⟨M3, hset, hx⟩ := hx
              have HSET := Lib.hid hset
              have HX3 := Lib.hid hx
              obtain ⟨g, hg⟩ := hrow7.pos (by simp)
              subst hg
              have d0 : w7.cell? ⟨g, 0, none⟩ = some (.int .i64 l0) := hrow7.cell (by simp)
              have HQ7 := Lib.hid hq7
              clear HX2 hset hx hrow7 hq7
              go_upto_region 20 with (fail)
              go_still_tail 4, (by kernel_rfl)
              change wpList _ _ _ _ _ w7.drew
              have hq8 := HQ7.out.drew
              clear HQ7 d0 hbx7
              generalize w7.drew = W8 at *
              go_upto_region 21 with (go_at_call 38; refine (set_c hq8.rep hq8.ext.sb (why := none) (fun r q => by cases q) HSET.out rfl).mono ?_; rintro e w9 ⟨rfl, L9, hn9, _⟩)
              have hq9 := hq8.trans hn9
              have hbx9 := HBX.out _ _ _ hq9
              have s11 := hq9.at 11 rfl
              have f11 := hq9.free 11
              clear hq8 hn9
              have hx := HX3.out
              by_cases hbr : M3.broken = true
              · rw [if_pos hbr] at hx
                simp only [Option.pure_def, Option.some.injEq] at hx
                subst hx
                have he : ({ M3 with broken := true } : St) = M3 := by rw [← hbr]
                have HF := Lib.hid (Next.setOwn hq9 M3 11 (.bool true) (by simp only [slvCells, hbr]; rfl) rfl rfl rfl rfl rfl rfl rfl rfl)
                rw [hbr] at s11
                have HQ9 := Lib.hid hq9
                clear hbr he hq9 HX3
                go_region
                all_goals
                  go_wp2
                  go_ret
                  exact ⟨rfl, L9, HN0.out.trans HF.out.drew⟩
              · rw [if_neg hbr] at hx
                simp only [Option.bind_eq_some_iff, Option.pure_def, Option.some.injEq] at hx
                obtain ⟨⟨M4, r⟩, hsp, hx⟩ := hx
                dsimp only at hx
                subst hx
                have hbr2 : M3.broken = false := by simpa using hbr
                rw [hbr2] at s11
                have HSP := Lib.hid hsp
                have hq9d := hq9.drew
                clear hbr hbr2 hsp HX3 hq9
                cases r with
                | none =>
                  go_region_with (go_at_call 30; refine (spread_c hq9d.rep hq9d.ext.sb HSP.out).mono ?_; rintro e w10 ⟨L10, rfl, hn10, _⟩; simp only [ptrO, paddr]; have hq10 := hq9d.trans hn10; have hbx10 := HBX.out _ _ _ hq10; have s11' := hq10.at 11 rfl; have f11' := hq10.free 11)
                  all_goals
                    have HF := Lib.hid (Next.setOwn hq10 { M4 with broken := false } 11 (.bool false) rfl rfl rfl rfl rfl rfl rfl rfl rfl)
                    clear hq10 hn10 s11' f11' hbx10
                    go_wp2
                    go_ret
                    exact ⟨rfl, L10, HN0.out.trans HF.out⟩
                | some id =>
                  go_region_with (go_at_call 30; refine (spread_c hq9d.rep hq9d.ext.sb HSP.out).mono ?_; rintro e w10 ⟨L10, rfl, hn10, _⟩; simp only [ptrO, paddr]; have hq10 := hq9d.trans hn10; have hbx10 := HBX.out _ _ _ hq10; have s11' := hq10.at 11 rfl; have f11' := hq10.free 11)
                  all_goals
                    have HF := Lib.hid (Next.setOwn hq10 { M4 with broken := true } 11 (.bool true) rfl rfl rfl rfl rfl rfl rfl rfl rfl)
                    clear hq10 hn10 s11' f11' hbx10
                    go_wp2
                    go_ret
                    exact ⟨rfl, L10, HN0.out.trans HF.out⟩
            | cons l1 rest =>
              have hx := HX2.out
              dsimp only at hx
              have h2 : 2 ≤ (l0 :: l1 :: rest).length := by simp
              have HWT := Lib.hid hx
              clear HX2 hx
              generalize (l0 :: l1 :: rest) = d3 at *
              have b0 : ((d3.length : Int) == 0) = false := by rw [beq_eq_false_iff_ne]; omega
              have b1 : ((d3.length : Int) == 1) = false := by rw [beq_eq_false_iff_ne]; omega
              have hn8 := Next.newCl hq7 ⟨d3, false, 0⟩ hrow7 OWN5.out 74
              dsimp only at hn8
              have hcb : (L1.withCl M1.cls.length w7.heap.size ⟨a5, c5⟩).cb M1.cls.length = w7.heap.size := by simp [Lay.withCl]
              have HCB := Lib.hid hcb
              have HN8 := Lib.hid hn8
              clear hn8 hcb hq7 hrow7
              go_wp2_with (go_at_call 49; refine (watch_c HN8.out.rep HN8.out.ext.sb HCB.out HWT.out).mono ?_; rintro e w9 ⟨rfl, L9, hn9⟩)
              go_ret
              exact ⟨rfl, L9, HN0.out.trans (HN8.out.trans hn9)⟩

end Go.Proofs.Ytminhlpbdpbolaa
