/- The laws' own small functions: Same, of. -/
import Derived.Test.YtminhlpbdpbolaaWx
namespace Go.Proofs.Ytminhlpbdpbolaa
open Go.RowKit Mir

/-- A solver that a call has made: all that was there before is as it was. -/
structure Sol (w0 w : World) (L : Lay) (M : St) : Prop where
  rep : Rep w L M
  kept : Kept w0 w
  off : ∀ b, b < w0.heap.size → L.ro b = none

theorem Sol.next {w0 w w' : World} {L L' : Lay} {M M' : St} (h : Sol w0 w L M) (q : Next w L M w' L' M') : Sol w0 w' L' M' :=
  ⟨q.rep, ⟨q.fr.os.trans h.kept.os, q.fr.output.trans h.kept.output, Nat.le_trans h.kept.size q.fr.size, fun b hb _ => (q.fr.block b (Nat.lt_of_lt_of_le hb h.kept.size) (h.off b hb)).trans (h.kept.block b hb rfl)⟩,
    fun b hb => (q.ext.ro b (Nat.lt_of_lt_of_le hb h.kept.size)).trans (h.off b hb)⟩
theorem Sol.side {w0 w w' : World} {L : Lay} {M : St} (h : Sol w0 w L M) (q : Kept w w') : Sol w0 w' L M := h.next ((Next.refl h.rep).kept q)
theorem Sol.new (w : World) : Sol w (newWorld w) (newLay w.heap.size) news := ⟨newRep w, newKept w, newOff w⟩
theorem Sol.from {w0 w1 w : World} {L : Lay} {M : St} (h : Sol w1 w L M) (k : Kept w0 w1) : Sol w0 w L M :=
  ⟨h.rep, k.trans' h.kept, fun b hb => h.off b (Nat.lt_of_lt_of_le hb k.size)⟩

/-- A copy of numbers: append([]int{}, xs...). -/
theorem run_copy {w : World} {A : Option Addr} {n c : Nat} {xs : List Int} (hn : xs.length = n) (hr : Reads w A xs) (hlt : ∀ g, blk A = some g → g < w.heap.size) (hb : n * 8 ≤ 140737488355328) (ty : TypeId) :
    ∃ a' c' w', (Builtin.append_ #[23, 23] ty #[.slice (some ⟨w.heap.size, 0, none⟩) 0 0, .slice A n c]).run Try.prog (w.alloc (.cells #[] 3)) = .ok (.slice a' n c') w' ∧ Row w' 3 1 a' n c' (xs.map vi) ∧ From w.heap.size a' ∧ Kept w w' := by
  subst hn
  obtain ⟨i0, hi, hz0, hz1, hz2⟩ := info_parts Try.info3
  have hk1 := Kept.made w (.cells #[] 3)
  have hrow : Row (w.alloc (.cells #[] 3)) 3 1 (some ⟨w.heap.size, 0, none⟩) 0 0 [] := ⟨rfl, .inr ⟨w.heap.size, #[], rfl, heap_alloc_new w _, Nat.le_refl _, Nat.zero_le _, rfl, rfl⟩⟩
  have hfr : From w.heap.size (some ⟨w.heap.size, 0, none⟩) := fun g hg => by cases hg; exact Nat.le_refl _
  by_cases hne : xs = []
  · subst hne
    have hsrc : Src Try.prog i0.size 23 (.slice A 0 c) 0 [] (w.alloc (.cells #[] 3)) := by
      cases A with
      | none => exact Src.ofNil _ Try.underlying23 c
      | some ad => exact Src.ofSlice _ Try.underlying23 ad 0 c [] (by simp) (by simp) (by simp)
    exact ⟨_, 0, _, run_append_nothing _ 23 23 ty 3 i0 Try.underlying23 hi _ 0 0 hrow.len.1 _ hsrc, hrow, hfr, hk1⟩
  · obtain ⟨g, off, rfl, hc⟩ := hr hne
    have hpos := List.length_pos_iff.2 hne
    obtain ⟨a', c', w', h1, h2, h3, h4, _⟩ := run_append_row (P := Try.prog) (w.alloc (.cells #[] 3)) 23 ty 3 i0 (.int .i64 0) 1 8 Try.underlying23 hi hz0 hz1 hz2 rfl (by decide) (some ⟨w.heap.size, 0, none⟩) 0 0 [] hrow ⟨g, off, none⟩ xs.length c (xs.map vi) (by simp) hpos
      (fun j u hu => by
        rw [show (⟨g, off, none⟩ : Addr).add j = ⟨g, off + j, none⟩ from add_at g off j]
        rw [List.getElem?_map] at hu
        cases hx : xs[j]? with
        | none => rw [hx] at hu; cases hu
        | some x =>
          rw [hx] at hu
          cases hu
          exact (World.cell?_of_block (a := ⟨g, off + j, none⟩) (hk1.block g (hlt g rfl) rfl)).trans (hc j x hx))
      (by simp [Value.oneCell']) (by simp only [maxLen]; omega) (by omega)
    rw [Nat.zero_add] at h1 h2
    refine ⟨a', c', w', h1, by simpa using h2, ?_, ?_⟩
    · rcases h4 with rfl | rfl
      · exact hfr
      · intro g' hg'
        cases hg'
        simp
    · exact hk1.grown' h3 hfr

theorem wpList_copy {w : World} {ops : Array Oper} {rest : List Oper} {o : Oper} {a : Act} {Q : Exit → Act → World → Prop} (hgd : o.guard = none) (s x : Operand) (ho : o.op = .call { callee := .builtin .append, args := #[s, x], argTypes := #[23, 23] })
    {A : Option Addr} {n c : Nat} {xs : List Int} (hn : xs.length = n) (hr : Reads w A xs) (hlt : ∀ g, blk A = some g → g < w.heap.size) (hb : n * 8 ≤ 140737488355328) {g : Nat} (hg : g = w.heap.size)
    (hs : a.eval s = .slice (some ⟨g, 0, none⟩) 0 0) (hx : a.eval x = .slice A n c)
    (h : ∀ a' c' w', Row w' 3 1 a' n c' (xs.map vi) → From w.heap.size a' → Kept w w' → wpList Try.prog ops Q rest (a.put o.dst (.slice a' n c')) w') : wpList Try.prog ops Q (o :: rest) a (w.alloc (.cells #[] 3)) := by
  subst hg
  obtain ⟨a', c', w', h1, h2, h3, h4⟩ := run_copy (c := c) hn hr hlt hb o.type
  exact wpList_plain hgd fun K hK => wp_append_of s x 23 ho hs hx h1 (hK _ _ (h a' c' w' h2 h3 h4))

/-- What a slice of clauses reads as, wherever it lies. -/
def ReadsM (w : World) (a : Option Addr) (xss : List (List Int)) : Prop :=
  xss ≠ [] → ∃ g off, a = some ⟨g, off, none⟩ ∧ ∀ i xs, xss[i]? = some xs → ∃ A C, w.cell? ⟨g, off + i, none⟩ = some (.slice A xs.length C) ∧ Reads w A xs ∧ (∀ g, blk A = some g → g < w.heap.size)

def adds : List (List Int) → St → Option St
  | [], M => some M
  | c :: cs, M => (add M c).bind (adds cs)

def OfI (w0 : World) (Mf : St) (sb : Nat) (xss : List (List Int)) (k : Nat) (v4 : Value) (wr : World) : Prop :=
  ∃ (i : Nat) (L : Lay) (M : St), v4 = .int .i64 (i : Nat) ∧ i ≤ xss.length ∧ k = xss.length - i ∧ Sol w0 wr L M ∧ L.sb = sb ∧ adds (xss.drop i) M = some Mf

set_option maxHeartbeats 2000000 in
set_option maxRecDepth 100000 in
theorem of_law {w : World} {a : Option Addr} {n c : Nat} {xss : List (List Int)} (hn : xss.length = n) (hr : ReadsM w a xss) (hlt : ∀ g, blk a = some g → g < w.heap.size) (hb : n ≤ LIM) (hall : ∀ xs ∈ xss, xs.all Mir.right = true ∧ xs.length ≤ LIM) {Mf : St} (hx : adds xss news = some Mf) :
    Calls Try.prog 13 #[.slice a n c] w fun e w' => ∃ L, e = .returned (.pointer (some ⟨L.sb, 0, none⟩)) ∧ Sol w w' L Mf := by
  subst hn
  simp only [LIM] at hb
  have HR := Lib.hid hr
  have HL := Lib.hid hlt
  have HA := Lib.hid hall
  have HX := Lib.hid hx
  clear hr hlt hall hx
  go_enter Try.func13, Try.ntmps13
  go_wp2_with (go_at_call 18; refine (new_c w).mono ?_; rintro e w1 ⟨rfl, rfl⟩)
  go_loopg [4] xss.length (OfI w Mf (w.heap.size + 3) xss)
  case atStart => exact ⟨0, _, _, rfl, Nat.zero_le _, rfl, Sol.new w, rfl, by simpa using HX.out⟩
  case round =>
    clear HX
    obtain ⟨i, L, M, rfl, hi, rfl, hsol, hsb, hu⟩ := hrel
    by_cases hlt : i < xss.length
    · have hlti : (i : Int) < (xss.length : Int) := by omega
      rw [List.drop_eq_getElem_cons hlt] at hu
      have hget : xss[i]? = some xss[i] := List.getElem?_eq_getElem hlt
      have hmem : xss[i] ∈ xss := List.getElem_mem hlt
      generalize xss[i] = xs at hu hget hmem
      simp only [adds, Option.bind_eq_some_iff] at hu
      obtain ⟨M2, hadd, hu⟩ := hu
      obtain ⟨hr1, hr2⟩ := HA.out xs hmem
      obtain ⟨g, off, rfl, hc⟩ := HR.out (by intro q; rw [q] at hget; cases hget)
      obtain ⟨A, C, hc1, hc2, hc3⟩ := hc i xs hget
      have hk := hsol.kept
      have cel : wr.cell? ⟨g, off + i, none⟩ = some (.slice A xs.length C) := (World.cell?_of_block (a := ⟨g, off + i, none⟩) (hk.block g (HL.out g rfl) rfl)).trans hc1
      have cel2 : (wr.alloc (.cells #[] 3)).cell? ⟨g, off + i, none⟩ = some (.slice A xs.length C) := (World.cell?_of_block (a := ⟨g, off + i, none⟩) (Below.heap_alloc _ _ _ (Nat.lt_of_lt_of_le (HL.out g rfl) hk.size))).trans cel
      have hrd : Reads wr A xs := hk.reads hc2 hc3
      have hlt3 : ∀ g, blk A = some g → g < wr.heap.size := fun g hg => Nat.lt_of_lt_of_le (hc3 g hg) hk.size
      have h8 : xs.length * 8 ≤ 140737488355328 := by simp only [LIM] at hr2; omega
      have HRD := Lib.hid hrd
      have HLT := Lib.hid hlt3
      have HS := Lib.hid hsol
      have HADD := Lib.hid hadd
      have HU := Lib.hid hu
      have HSB := Lib.hid hsb
      clear hc hc1 hc2 hc3 hget hrd hlt3 hsol hadd hu hk hmem hsb
      go_wp2_with (first
        | (at_builtin; refine wpList_copy rfl (.tmp 17) (.tmp 21) rfl rfl HRD.out HLT.out h8 rfl rfl rfl ?_; intro a4 c4 w4 hrow4 hf4 hk4; have hs4 := HS.out.side hk4; have hoff4 : Off L a4 := fun g hg => HS.out.rep.new (hf4 g hg))
        | (go_at_call 19; refine (add_c hs4.rep HSB.out rfl (hrow4.rd hoff4) hr1 HADD.out).mono ?_; rintro e w5 ⟨rfl, L5, hn5⟩))
      go_roundg (xss.length - (i + 1))
      case measure => omega
      case rel => exact ⟨i + 1, L5, M2, by go_num, hlt, rfl, hs4.next hn5, hn5.ext.sb.trans HSB.out, HU.out⟩
    · have hie : i = xss.length := by omega
      subst hie
      rw [List.drop_length] at hu
      simp only [adds, Option.some.injEq] at hu
      subst hu
      have HSB := Lib.hid hsb
      clear hsb
      go_wp2
      go_ret
      exact ⟨L, by rw [HSB.out]; rfl, hsol⟩

def SameI (w : World) (xs ys : List Int) (k : Nat) (v5 : Value) (wr : World) : Prop :=
  ∃ i d : Nat, v5 = .int .i64 (i : Nat) ∧ i ≤ xs.length ∧ k = xs.length - i ∧ wr = w.drewN d ∧ xs.take i = ys.take i

set_option maxHeartbeats 1000000 in
theorem same_c {w : World} {a b : Option Addr} {n m c d : Nat} {xs ys : List Int} (hn : xs.length = n) (hm : ys.length = m) (ha : Reads w a xs) (hb : Reads w b ys) (hb1 : n ≤ 9223372036854775807) (hb2 : m ≤ 9223372036854775807) :
    Calls Try.prog 20 #[.slice a n c, .slice b m d] w fun e w' => e = .returned (.bool (decide (xs = ys))) ∧ ∃ q, w.drewN q = w' := by
  subst hn hm
  have HA := Lib.hid ha
  have HB := Lib.hid hb
  clear ha hb
  by_cases hl : xs.length = ys.length
  · have t0 : ((xs.length : Int) != (ys.length : Int)) = false := by simp [hl]
    have t0' : (xs.length != ys.length) = false := by simpa using hl
    obtain ⟨r, hr⟩ : ∃ r, decide (xs = ys) = r := ⟨_, rfl⟩
    rw [hr]
    have HR := Lib.hid hr
    have HL := Lib.hid hl
    clear hr hl
    go_enter Try.func20, Try.ntmps20
    go_wp2
    go_loopg [5] xs.length (SameI w xs ys)
    case atStart => exact ⟨0, 0, rfl, Nat.zero_le _, rfl, rfl, rfl⟩
    case round =>
      obtain ⟨i, q, rfl, hi, rfl, hwr, htk⟩ := hrel
      by_cases hlt : i < xs.length
      · have hlty : i < ys.length := by have := HL.out; omega
        have hgx : xs[i]? = some xs[i] := List.getElem?_eq_getElem hlt
        have hgy : ys[i]? = some ys[i] := List.getElem?_eq_getElem hlty
        have hsx : xs.take (i + 1) = xs.take i ++ [xs[i]] := List.take_succ_eq_append_getElem hlt
        have hsy : ys.take (i + 1) = ys.take i ++ [ys[i]] := List.take_succ_eq_append_getElem hlty
        generalize xs[i] = x at *
        generalize ys[i] = y at *
        obtain ⟨g, off, hA, hca⟩ := HA.out (by intro q; rw [q] at hgx; cases hgx)
        obtain ⟨g2, off2, hB, hcb⟩ := HB.out (by intro q; rw [q] at hgy; cases hgy)
        subst hA hB
        have c1 : wr.cell? ⟨g, off + i, none⟩ = some (.int .i64 x) := by rw [hwr]; exact hca i x hgx
        have c2 : wr.cell? ⟨g2, off2 + i, none⟩ = some (.int .i64 y) := by rw [hwr]; exact hcb i y hgy
        have hltI : (i : Int) < (xs.length : Int) := by omega
        have hltJ : (i : Int) < (ys.length : Int) := by omega
        have HW := Lib.hid hwr
        have HT := Lib.hid htk
        have HSX := Lib.hid hsx
        have HSY := Lib.hid hsy
        have HGX := Lib.hid hgx
        have HGY := Lib.hid hgy
        clear hca hcb hgx hgy hwr htk hsx hsy
        by_cases hxy : x = y
        · subst hxy
          go_wp2
          go_quiet (fail)
          go_wp2
          go_roundg (xs.length - (i + 1))
          case measure => omega
          case rel => exact ⟨i + 1, q + nq, by go_num, hlt, rfl, by rw [HW.out, drewN_drewN], by rw [HSX.out, HSY.out, HT.out]⟩
        · have t1 : (x != y) = true := by simpa using hxy
          have hrf : r = false := by
            rw [← HR.out]
            refine decide_eq_false fun e => hxy ?_
            have h1 := HGX.out
            rw [e, HGY.out] at h1
            exact (Option.some.inj h1).symm
          subst hrf
          clear hxy
          go_wp2
          go_quiet (fail)
          go_wp2
          go_ret
          exact ⟨rfl, q + nq, by rw [HW.out, drewN_drewN]⟩
      · have hie : i = xs.length := by omega
        subst hie
        have hrf : r = true := by
          rw [← HR.out]
          refine decide_eq_true ?_
          rw [List.take_length] at htk
          rw [htk, HL.out, List.take_length]
        subst hrf
        have HW := Lib.hid hwr
        clear hwr htk
        go_wp2
        go_ret
        exact ⟨rfl, q, HW.out.symm⟩
  · have t0 : ((xs.length : Int) != (ys.length : Int)) = true := by simp; omega
    have t0' : (xs.length != ys.length) = true := by simpa using hl
    have hrf : decide (xs = ys) = false := decide_eq_false fun e => hl (by rw [e])
    rw [hrf]
    clear hl hrf
    go_enter Try.func20, Try.ntmps20
    go_wp2
    go_ret
    exact ⟨rfl, 0, rfl⟩

end Go.Proofs.Ytminhlpbdpbolaa
