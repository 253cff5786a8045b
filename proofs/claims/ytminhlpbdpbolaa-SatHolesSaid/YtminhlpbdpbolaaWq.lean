/- What is true; how great a solver is. -/
import Derived.Test.YtminhlpbdpbolaaWn
import Derived.Test.YtminhlpbdpbolaaNew
namespace Go.Proofs.Ytminhlpbdpbolaa
open Go.RowKit Mir

section
variable {w0 w : World} {L0 L : Lay} {M0 M : St} {ops : Array Oper} {rest : List Oper} {o : Oper} {a : Act} {Q : Exit → Act → World → Prop}

/-- One more number behind a row of the call's own. -/
theorem app_own (hn : Next w0 L0 M0 w L M) {a0 : Option Addr} {c k : Nat} {out : List Int} (hr : Row w 3 1 a0 k c (out.map vi)) (hw : Own w0 L a0)
    (hgd : o.guard = none) (s x : Operand) (ho : o.op = .call { callee := .builtin .append, args := #[s, x], argTypes := #[23, 23] }) (hs : a.eval s = .slice a0 k c) (m : Int)
    {g : Nat} (hx : a.eval x = .slice (some ⟨g, 0, none⟩) 1 1) (hgs : g = w.heap.size) (hl : k < LIM)
    (hq : ∀ a' c' w', Next w0 L0 M0 w' L M → Row w' 3 1 a' (k + 1) c' ((out ++ [m]).map vi) → Own w0 L a' → wpList Try.prog ops Q rest (a.put o.dst (.slice a' (k + 1) c')) w') :
    wpList Try.prog ops Q (o :: rest) a (w.alloc (.cells #[.int .i64 m] 3)) := by
  refine app_int hgd s x ho a0 k c out hs hr m hx hgs hl ?_
  intro a' c' w' hr2 hg hnew
  obtain ⟨hn2, _⟩ := hn.side hg fun g hg' => hw g hg'
  refine hq a' c' w' hn2 hr2 ?_
  rcases hnew with rfl | ⟨g, rfl, hge⟩
  · exact hw
  · exact hn.newOwn hge
end

def litsTo (M : St) (v : Nat) : List Int := ((M.vars.take v).drop 1).map (·.lit)
theorem litsTo_len {M : St} {v : Nat} (h : v ≤ M.vars.length ∨ v = 1) : (litsTo M v).length = v - 1 := by
  simp only [litsTo, List.length_map, List.length_drop, List.length_take]; omega
theorem litsTo_succ {M : St} {v : Nat} {f : Fact} (h1 : 1 ≤ v) (h : M.vars[v]? = some f) : litsTo M (v + 1) = litsTo M v ++ [f.lit] := by
  obtain ⟨hl, hf⟩ := List.getElem?_eq_some_iff.1 h
  unfold litsTo
  rw [List.take_succ_eq_append_getElem hl, hf, List.drop_append_of_le_length (by simp; omega)]
  simp
theorem litsTo_all {M : St} {v : Nat} (h : M.vars.length ≤ v) : litsTo M v = model M := by
  unfold litsTo model
  rw [List.take_of_length_le h]

def ModelI (w : World) (L : Lay) (M : St) (k : Nat) (v3 v4 : Value) (wr : World) : Prop :=
  ∃ (v : Nat) (a : Option Addr) (c : Nat), v4 = .int .i64 (v : Nat) ∧ v3 = .slice a (v - 1) c ∧ 1 ≤ v ∧ (v ≤ M.vars.length ∨ v = 1) ∧ k = M.vars.length - v ∧ Next w L M wr L M ∧ Row wr 3 1 a (v - 1) c ((litsTo M v).map vi) ∧ Own w L a

set_option maxHeartbeats 1000000 in
set_option maxRecDepth 100000 in
theorem model_c {w : World} {L : Lay} {M : St} (h : Rep w L M) {sb : Nat} (hs : L.sb = sb) (hlim : M.vars.length ≤ LIM) :
    Calls Try.prog 37 #[.pointer (some ⟨sb, 0, none⟩)] w fun e w' => ∃ a c, e = .returned (.slice a (model M).length c) ∧ Next w L M w' L M ∧ Row w' 3 1 a (model M).length c ((model M).map vi) ∧ Own w L a := by
  subst hs
  have hlim1 : M.vars.length ≤ 1099511627776 := hlim
  go_enter Try.func37, Try.ntmps37
  go_wp2
  go_loopg [3, 4] (M.vars.length - 1) (ModelI w L M)
  case atStart => exact ⟨1, none, 0, rfl, rfl, Nat.le_refl _, .inr rfl, rfl, Next.refl h, by simpa [litsTo] using Row.nil w 3 1, fun g hg => by cases hg⟩
  case round =>
    obtain ⟨v, a, c, rfl, rfl, hv1, hv2, rfl, hn, hrow, hown⟩ := hrel
    have hr := hn.rep
    have s0 := hn.at 0 rfl
    simp only [hdv] at s0
    by_cases hlt : v < M.vars.length
    · have hf : M.vars[v]? = some M.vars[v] := List.getElem?_eq_getElem hlt
      generalize M.vars[v] = f at hf
      obtain ⟨gv, hgv, rgv, hcell, _⟩ := hr.var (v := (v : Int)) (gi_of (by omega) (by simpa using hf))
      simp only [hgv] at s0
      have d0 : wr.cell? ⟨gv, v * 5, none⟩ = some (.int .i64 f.lit) := hcell 0 _ rfl
      have hlti : (v : Int) < (M.vars.length : Int) := by omega
      have HS : Hid (litsTo M (v + 1) = litsTo M v ++ [f.lit]) := Lib.hid (litsTo_succ hv1 hf)
      have hk : v - 1 < LIM := by simp only [LIM]; omega
      have HV : Hid (v - 1 + 1 = v + 1 - 1) := Lib.hid (by omega)
      clear hf hcell hgv hv2
      go_wp2_with (at_builtin; refine app_own hn hrow hown rfl (.tmp 14) (.tmp 23) rfl rfl f.lit rfl rfl hk ?_; intro a' c' w' hn2 hrow2 hown2; clear hn hrow hown)
      go_roundg (M.vars.length - (v + 1))
      case measure => omega
      case rel => exact ⟨v + 1, a', c', by go_num, rfl, by omega, .inl hlt, rfl, hn2, by rw [HS.out, ← HV.out]; exact hrow2, hown2⟩
    · have hm : litsTo M v = model M := litsTo_all (by omega)
      have hl := litsTo_len hv2
      rw [hm] at hl hrow
      have hlt' : ¬ (v : Int) < (M.vars.length : Int) := by omega
      have HL := Lib.hid hl
      clear hl hm hv2
      go_wp2
      go_ret
      exact ⟨a, c, by rw [HL.out]; rfl, hn, by rw [HL.out]; exact hrow, hown⟩

set_option maxHeartbeats 400000 in
theorem vars_c {w : World} {L : Lay} {M : St} (h : Rep w L M) {sb : Nat} (hs : L.sb = sb) (hl : M.vars.length ≤ LIM) :
    Calls Try.prog 15 #[.pointer (some ⟨sb, 0, none⟩)] w fun e w' => e = .returned (.int .i64 ((M.vars.length : Int) - 1)) ∧ w = w' := by
  subst hs
  have hlim1 : M.vars.length ≤ 1099511627776 := hl
  have s0 := h.at 0 rfl
  simp only [hdv] at s0
  go_enter Try.func15, Try.ntmps15
  go_wp2
  go_ret
  exact ⟨rfl, rfl⟩

set_option maxHeartbeats 400000 in
theorem conflicts_c {w : World} {L : Lay} {M : St} (h : Rep w L M) {sb : Nat} (hs : L.sb = sb) :
    Calls Try.prog 24 #[.pointer (some ⟨sb, 0, none⟩)] w fun e w' => e = .returned (.int .i64 M.conflicts) ∧ w = w' := by
  subst hs
  have s0 := h.at 8 rfl
  go_enter Try.func24, Try.ntmps24
  go_wp2
  go_ret
  exact ⟨rfl, rfl⟩

set_option maxHeartbeats 400000 in
theorem learnt_c {w : World} {L : Lay} {M : St} (h : Rep w L M) {sb : Nat} (hs : L.sb = sb) :
    Calls Try.prog 26 #[.pointer (some ⟨sb, 0, none⟩)] w fun e w' => e = .returned (.int .i64 M.learnt.length) ∧ w = w' := by
  subst hs
  have s0 := h.at 4 rfl
  simp only [hdv] at s0
  go_enter Try.func26, Try.ntmps26
  go_wp2
  go_ret
  exact ⟨rfl, rfl⟩

end Go.Proofs.Ytminhlpbdpbolaa
