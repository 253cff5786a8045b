/- append of one element to a row of numbers, of clauses, of facts. -/
import Derived.Test.YtminhlpbdpbolaaUpd
namespace Go.Proofs.Ytminhlpbdpbolaa
open Go.RowKit Mir

theorem Try.info3 : (Try.prog.info? 3).map (fun i => (i.zero, i.size, i.bytes)) = some (some (.int .i64 0), 1, 8) := by kernel_rfl
theorem Try.info54 : (Try.prog.info? 54).map (fun i => (i.zero, i.size, i.bytes)) = some (some (.pointer none), 1, 8) := by kernel_rfl
theorem Try.info78 : (Try.prog.info? 78).map (fun i => (i.zero, i.size, i.bytes)) = some (some (.agg #[.int .i64 0, .int .i64 0, .pointer none, .int .i64 0, .int .i64 0]), 5, 40) := by kernel_rfl

section
variable {w : World} {ops : Array Oper} {rest : List Oper} {o : Oper} {a : Act} {Q : Exit → Act → World → Prop}

theorem cell_new (w : World) (xs : List Value) (E : Nat) (j : Nat) (u : Value) (h : xs[j]? = some u) : (w.alloc (.cells xs.toArray E)).cell? ((⟨w.heap.size, 0, none⟩ : Addr).add j) = some u := by
  have e : (⟨w.heap.size, 0, none⟩ : Addr).add j = ⟨w.heap.size, j, none⟩ := by unfold Addr.add; split <;> simp_all
  rw [e, cell_of_row _ w.heap.size j _ E (0, 0) (heap_alloc_new w _)]
  simpa using h

theorem app_one (t E : Nat) (z : Value) (sz bytes : Nat) (ht : Try.prog.underlying t = some (.slice E)) (hinfo : (Try.prog.info? E).map (fun i => (i.zero, i.size, i.bytes)) = some (some z, sz, bytes))
    (hzs : z.cells.size = sz) (hsz : 0 < sz) (hby : bytes ≤ 100) (hgd : o.guard = none) (s x : Operand)
    (ho : o.op = .call { callee := .builtin .append, args := #[s, x], argTypes := #[t, t] })
    (a0 : Option Addr) (n c0 : Nat) (xs : List Value) (hs : a.eval s = .slice a0 n c0) (hown : Row w E sz a0 n c0 xs)
    (news : List Value) (hl : news.length = sz) (h1 : ∀ u ∈ news, u.oneCell' = true) {g : Nat} (hx : a.eval x = .slice (some ⟨g, 0, none⟩) 1 1) (hgs : g = w.heap.size) (hn : n < LIM)
    (h : ∀ a' c' w', Row w' E sz a' (n + 1) c' (xs ++ news) → w.grownBy w' (blk a0) → (a' = a0 ∨ ∃ g, a' = some ⟨g, 0, none⟩ ∧ w.heap.size ≤ g) → wpList Try.prog ops Q rest (a.put o.dst (.slice a' (n + 1) c')) w') :
    wpList Try.prog ops Q (o :: rest) a (w.alloc (.cells news.toArray E)) := by
  subst hgs
  obtain ⟨i0, hi, hz0, hz1, hz2⟩ := info_parts hinfo
  simp only [LIM] at hn
  refine wpList_append_row _ hgd s x t ho E i0 z sz bytes ht hi hz0 hz1 hz2 hzs hsz a0 n c0 xs hs (hown.alloc _) ⟨w.heap.size, 0, none⟩ 1 1 news hx (by omega) (by decide) (fun j u hu => cell_new w news E j u hu) h1 (by simp only [maxLen]; omega) ?_ ?_
  · have := Nat.mul_le_mul (show n + 1 ≤ 1099511627776 by omega) hby; omega
  · intro a' c' w' hr hg hnew
    refine h a' c' w' hr (grown_alloc hg) (hnew.imp id fun e => ⟨_, e, by simp⟩)

theorem app_int (hgd : o.guard = none) (s x : Operand) (ho : o.op = .call { callee := .builtin .append, args := #[s, x], argTypes := #[23, 23] })
    (a0 : Option Addr) (n c0 : Nat) (xs : List Int) (hs : a.eval s = .slice a0 n c0) (hown : Row w 3 1 a0 n c0 (xs.map vi)) (v : Int)
    {g : Nat} (hx : a.eval x = .slice (some ⟨g, 0, none⟩) 1 1) (hgs : g = w.heap.size) (hn : n < LIM)
    (h : ∀ a' c' w', Row w' 3 1 a' (n + 1) c' ((xs ++ [v]).map vi) → w.grownBy w' (blk a0) → (a' = a0 ∨ ∃ g, a' = some ⟨g, 0, none⟩ ∧ w.heap.size ≤ g) → wpList Try.prog ops Q rest (a.put o.dst (.slice a' (n + 1) c')) w') :
    wpList Try.prog ops Q (o :: rest) a (w.alloc (.cells #[.int .i64 v] 3)) :=
  app_one 23 3 _ 1 8 Try.underlying23 Try.info3 rfl (by decide) (by decide) hgd s x ho a0 n c0 _ hs hown [vi v] rfl (by simp [Value.oneCell']) hx hgs hn fun a' c' w' hr => h a' c' w' (by simpa using hr)

theorem app_ptr (hgd : o.guard = none) (s x : Operand) (ho : o.op = .call { callee := .builtin .append, args := #[s, x], argTypes := #[51, 51] })
    (a0 : Option Addr) (n c0 : Nat) (cb : Nat → Nat) (xs : List Nat) (hs : a.eval s = .slice a0 n c0) (hown : Row w 54 1 a0 n c0 (xs.map (ptr cb))) (id : Nat)
    {g : Nat} (hx : a.eval x = .slice (some ⟨g, 0, none⟩) 1 1) (hgs : g = w.heap.size) (hn : n < LIM)
    (h : ∀ a' c' w', Row w' 54 1 a' (n + 1) c' ((xs ++ [id]).map (ptr cb)) → w.grownBy w' (blk a0) → (a' = a0 ∨ ∃ g, a' = some ⟨g, 0, none⟩ ∧ w.heap.size ≤ g) → wpList Try.prog ops Q rest (a.put o.dst (.slice a' (n + 1) c')) w') :
    wpList Try.prog ops Q (o :: rest) a (w.alloc (.cells #[ptr cb id] 54)) :=
  app_one 51 54 _ 1 8 Try.underlying51 Try.info54 rfl (by decide) (by decide) hgd s x ho a0 n c0 _ hs hown [ptr cb id] rfl (by simp [ptr, Value.oneCell']) hx hgs hn fun a' c' w' hr => h a' c' w' (by simpa using hr)

theorem app_fact (hgd : o.guard = none) (s x : Operand) (ho : o.op = .call { callee := .builtin .append, args := #[s, x], argTypes := #[49, 49] })
    (a0 : Option Addr) (n c0 : Nat) (cb : Nat → Nat) (xs : List Fact) (hs : a.eval s = .slice a0 n c0) (hown : Row w 78 5 a0 n c0 (xs.flatMap (factCells cb)))
    {g : Nat} (hx : a.eval x = .slice (some ⟨g, 0, none⟩) 1 1) (hgs : g = w.heap.size) (hn : n < LIM)
    (h : ∀ a' c' w', Row w' 78 5 a' (n + 1) c' ((xs ++ [(⟨0, 0, none, 0, 0⟩ : Fact)]).flatMap (factCells cb)) → w.grownBy w' (blk a0) → (a' = a0 ∨ ∃ g, a' = some ⟨g, 0, none⟩ ∧ w.heap.size ≤ g) → wpList Try.prog ops Q rest (a.put o.dst (.slice a' (n + 1) c')) w') :
    wpList Try.prog ops Q (o :: rest) a (w.alloc (.cells #[.int .i64 0, .int .i64 0, .pointer none, .int .i64 0, .int .i64 0] 78)) :=
  app_one 49 78 _ 5 40 Try.underlying49 Try.info78 rfl (by decide) (by decide) hgd s x ho a0 n c0 _ hs hown [vi 0, vi 0, .pointer none, vi 0, vi 0] rfl (by simp [Value.oneCell']) hx hgs hn fun a' c' w' hr => h a' c' w' (by simpa [factCells, ptrO, paddr] using hr)
end

end Go.Proofs.Ytminhlpbdpbolaa
