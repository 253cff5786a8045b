/- Words used by all texts on the solver: rows of cells, roles of blocks, what a step leaves alone. -/
import Derived.Test.YtminhlpbdpbolaaProg
import Derived.WalkKit
import Derived.KernelRfl
import Derived.Deep.Draws
namespace Go.Proofs.Ytminhlpbdpbolaa
open Go.RowKit

/-- A slice header '.slice a n c' that owns its cells xs (n elements of sz cells each) at the head of a block. -/
def Row (w : World) (E sz : Nat) (a : Option Addr) (n c : Nat) (xs : List Value) : Prop :=
  xs.length = n * sz ∧ ((a = none ∧ n = 0 ∧ c = 0) ∨
    ∃ g cur, a = some ⟨g, 0, none⟩ ∧ w.heap[g]? = some (.cells cur E (0, 0)) ∧ n ≤ c ∧ c ≤ maxLen ∧ cur.size = c * sz ∧ cur.toList.take (n * sz) = xs)

def blk : Option Addr → Option Nat
  | some a => some a.block
  | none => none

theorem Row.own {w : World} {E sz : Nat} {a : Option Addr} {n c : Nat} {xs : List Value} (h : Row w E sz a n c xs) : w.ownsRow 0 E sz (.slice a n c) n xs := by
  refine ⟨h.1, ?_⟩
  rcases h.2 with ⟨rfl, rfl, rfl⟩ | ⟨g, cur, rfl, r⟩
  · exact .inl ⟨rfl, rfl⟩
  · exact .inr ⟨g, c, cur, rfl, Nat.zero_le _, r⟩

theorem Row.nil (w : World) (E sz : Nat) : Row w E sz none 0 0 [] := ⟨by simp, .inl ⟨rfl, rfl, rfl⟩⟩

/-- A row reads the same in a world that has the same block. -/
theorem Row.keep {w w' : World} {E sz : Nat} {a : Option Addr} {n c : Nat} {xs : List Value} (h : Row w E sz a n c xs)
    (hb : ∀ g, blk a = some g → w'.heap[g]? = w.heap[g]?) : Row w' E sz a n c xs := by
  refine ⟨h.1, ?_⟩
  rcases h.2 with h0 | ⟨g, cur, rfl, hg, r⟩
  · exact .inl h0
  · exact .inr ⟨g, cur, rfl, (hb g rfl).trans hg, r⟩

theorem Row.lt {w : World} {E sz : Nat} {a : Option Addr} {n c : Nat} {xs : List Value} (h : Row w E sz a n c xs) {g : Nat} (hg : blk a = some g) : g < w.heap.size := by
  rcases h.2 with ⟨rfl, _⟩ | ⟨g', cur, rfl, hh, _⟩
  · cases hg
  · cases hg; exact (Array.getElem?_eq_some_iff.1 hh).1

/-- A row that has an element has a block. -/
theorem Row.pos {w : World} {E sz : Nat} {a : Option Addr} {n c : Nat} {xs : List Value} (h : Row w E sz a n c xs) (hn : 0 < n) : ∃ g, a = some ⟨g, 0, none⟩ := by
  rcases h.2 with ⟨_, h0, _⟩ | ⟨g, cur, rfl, _⟩
  · omega
  · exact ⟨g, rfl⟩

theorem Row.len {w : World} {E sz : Nat} {a : Option Addr} {n c : Nat} {xs : List Value} (h : Row w E sz a n c xs) : n ≤ c ∧ c ≤ maxLen := by
  rcases h.2 with ⟨_, rfl, rfl⟩ | ⟨g, cur, _, _, h1, h2, _⟩
  · exact ⟨Nat.le_refl _, Nat.zero_le _⟩
  · exact ⟨h1, h2⟩

theorem Row.cell {w : World} {E sz : Nat} {g n c : Nat} {xs : List Value} (h : Row w E sz (some ⟨g, 0, none⟩) n c xs) {j : Nat} {u : Value} (hj : xs[j]? = some u) : w.cell? ⟨g, j, none⟩ = some u := by
  rcases h.2 with ⟨h0, _⟩ | ⟨g', cur, he, hg, _, _, _, ht⟩
  · cases h0
  · cases he
    rw [cell_of_row w g j cur E (0, 0) hg]
    rw [← ht, List.getElem?_take] at hj
    split at hj
    · simpa using hj
    · cases hj

theorem Row.free {w : World} {E sz : Nat} {g n c : Nat} {xs : List Value} (h : Row w E sz (some ⟨g, 0, none⟩) n c xs) (j : Nat) : w.frozen? ⟨g, j, none⟩ = false := by
  rcases h.2 with ⟨h0, _⟩ | ⟨g', cur, he, hg, _⟩
  · cases h0
  · cases he
    simp [World.frozen?, hg]

theorem getElem?_setCell_same (w : World) (g j : Nat) (u : Value) (cur : Array Value) (E : Nat) (fr : Nat × Nat) (hg : w.heap[g]? = some (.cells cur E fr)) :
    (w.setCell ⟨g, j, none⟩ u).heap[g]? = some (.cells (cur.setIfInBounds j u) E fr) := by
  simp [World.setCell, Array.getElem?_modify, hg]

theorem getElem?_setCell_other (w : World) (a : Addr) (u : Value) (b : Nat) (h : b ≠ a.block) : (w.setCell a u).heap[b]? = w.heap[b]? := Below.heap_setCell w a u b h

/-- A store into a row. -/
theorem Row.set {w : World} {E sz : Nat} {g n c : Nat} {xs : List Value} (h : Row w E sz (some ⟨g, 0, none⟩) n c xs) (j : Nat) (hj : j < xs.length) (u : Value) :
    Row (w.setCell ⟨g, j, none⟩ u) E sz (some ⟨g, 0, none⟩) n c (xs.set j u) := by
  refine ⟨by simpa using h.1, ?_⟩
  rcases h.2 with ⟨h0, _⟩ | ⟨g', cur, he, hg, h1, h2, h3, ht⟩
  · cases h0
  · cases he
    refine .inr ⟨g, cur.setIfInBounds j u, rfl, getElem?_setCell_same w g j u cur E (0, 0) hg, h1, h2, by simpa using h3, ?_⟩
    simp only [Array.toList_setIfInBounds, List.take_set, ht]

/-- Cut down to its first elements. -/
theorem Row.cut {w : World} {E sz : Nat} {a : Option Addr} {n c : Nat} {xs : List Value} (h : Row w E sz a n c xs) (k : Nat) (hk : k ≤ n) : Row w E sz a k c (xs.take (k * sz)) := by
  have hle : k * sz ≤ n * sz := Nat.mul_le_mul_right _ hk
  refine ⟨by rw [List.length_take, h.1]; omega, ?_⟩
  rcases h.2 with ⟨h0, h1, h2⟩ | ⟨g', cur, he, hg, h1, h2, h3, ht⟩
  · exact .inl ⟨h0, by omega, h2⟩
  · refine .inr ⟨g', cur, he, hg, by omega, h2, h3, ?_⟩
    rw [← ht, List.take_take, Nat.min_eq_left hle]

theorem blk_own (a : Option Addr) (n c : Nat) : (Value.slice a n c).ownBlock = blk a := by cases a <;> rfl

section
variable {P : Program} (w : World)

/-- append onto a row: in its own block, or in a new one. -/
theorem run_append_row (t ty e : TypeId) (i : TypeInfo) (z : Value) (size bytes : Nat) (ht : P.underlying t = some (.slice e)) (hi : P.info? e = some i) (hz : i.zero = some z)
    (hsize : i.size = size) (hby : i.bytes = bytes) (hzs : z.cells.size = size) (_hsz : 0 < size)
    (a0 : Option Addr) (n c0 : Nat) (xs : List Value) (hown : Row w e size a0 n c0 xs)
    (a : Addr) (m c : Nat) (news : List Value) (hl : news.length = m * size) (hm0 : 0 < m) (hnews : ∀ j u, news[j]? = some u → w.cell? (a.add j) = some u) (h1 : ∀ u ∈ news, u.oneCell' = true)
    (h63 : n + m ≤ maxLen) (hbytes : (n + m) * bytes ≤ 140737488355328) :
    ∃ a' c' w', (Builtin.append_ #[t, t] ty #[.slice a0 n c0, .slice (some a) m c]).run P w = .ok (.slice a' (n + m) c') w' ∧ Row w' e size a' (n + m) c' (xs ++ news) ∧ w.grownBy w' (blk a0) ∧
      (a' = a0 ∨ a' = some ⟨w.heap.size, 0, none⟩) ∧ a' ≠ none := by
  subst hsize
  subst hby
  have hsmall : n + m ≤ 9223372036854775807 := by simp only [maxLen] at h63; omega
  have hlen : (xs ++ news).length = (n + m) * i.size := by rw [List.length_append, hown.1, hl, Nat.add_mul]
  have grown : ∀ (old : Nat), old < n + m → ∀ (row : Option Nat),
      Row (w.drew.alloc (.cells (xs.toArray ++ news.toArray ++ Builtin.zeroCells z.cells (grownCap w (n + m) old e - (n + m))) e)) e i.size
        (some ⟨w.heap.size, 0, none⟩) (n + m) (grownCap w (n + m) old e) (xs ++ news) ∧
      w.grownBy (w.drew.alloc (.cells (xs.toArray ++ news.toArray ++ Builtin.zeroCells z.cells (grownCap w (n + m) old e - (n + m))) e)) row := by
    intro old ho row
    have hge := grownCap_ge w (n + m) old e
    have hcm : grownCap w (n + m) old e ≤ maxLen := grownCap_le_maxLen w (n + m) old e h63
    refine ⟨⟨hlen, .inr ⟨w.heap.size, _, rfl, heap_alloc_new w.drew _, hge, hcm, ?_, ?_⟩⟩, ⟨rfl, rfl, rfl, by simp, fun k hk _ => Below.heap_alloc w.drew _ k hk⟩⟩
    · simp only [Array.size_append, List.size_toArray, size_zeroCells, hzs, hown.1, hl, ← Nat.add_mul]
      congr 1
      omega
    · simp only [Array.toList_append, List.append_assoc]
      rw [← List.append_assoc, ← hlen]
      exact List.take_left
  rcases hown.2 with ⟨rfl, rfl, rfl⟩ | ⟨g, cur, rfl, hg, hnc, hcm, hcs, htake⟩
  · have hx : xs = [] := List.eq_nil_of_length_eq_zero (by simpa using hown.1)
    subst hx
    have hr := run_append_nil (P := P) w t ty e i z ht hi hz a m c news hl hnews (by omega) (by omega) (by have hb := hbytes; simp only [Nat.zero_add] at hb; omega)
    have hgr := grown 0 (by omega) (blk none)
    simp only [Nat.zero_add, List.nil_append, Array.empty_append] at hgr ⊢
    exact ⟨_, _, _, hr, hgr.1, hgr.2, .inr rfl, by simp⟩
  · by_cases hroom : n + m ≤ c0
    · have hfit : n * i.size + news.length ≤ cur.size := by rw [hl, hcs, ← Nat.add_mul]; exact Nat.mul_le_mul_right _ hroom
      have hr := run_append_room (P := P) w t ty e i ht hi g n c0 cur hg a m c news hl hnews h1 hroom hfit
      refine ⟨_, _, _, hr, ⟨hlen, .inr ⟨g, _, rfl, setRow_heap w g cur _ e _ hg, hroom, hcm, ?_, ?_⟩⟩, ⟨rfl, rfl, rfl, by simp, fun k _ hk => setRow_other w g k _ (fun e => hk (by simp [blk, e]))⟩, .inl rfl, by simp⟩
      · simp only [List.size_toArray, List.length_append, List.length_take, List.length_drop, Array.length_toList]
        omega
      · rw [htake, ← hlen]
        exact List.take_left
    · have holds : ∀ j u, xs[j]? = some u → w.cell? ((⟨g, 0, none⟩ : Addr).add j) = some u := hown.own.cells (g := g) rfl
      have hr := run_append_grow (P := P) w t ty e i z ht hi hz ⟨g, 0, none⟩ n c0 xs hown.1 holds a m c news hl hnews (by omega) (by omega) (growslice_fits (by omega) hbytes)
      have hgr := grown c0 (by omega) (blk (some ⟨g, 0, none⟩))
      exact ⟨_, _, _, hr, hgr.1, hgr.2, .inr rfl, by simp⟩

theorem wp_append_row {o : Oper} {a : Act} {K : Act → World → Prop} {Q : Exit → Act → World → Prop} (s x : Operand) (t : TypeId)
    (ho : o.op = .call { callee := .builtin .append, args := #[s, x], argTypes := #[t, t] })
    (e : TypeId) (i : TypeInfo) (z : Value) (size bytes : Nat) (ht : P.underlying t = some (.slice e)) (hi : P.info? e = some i) (hz : i.zero = some z)
    (hsize : i.size = size) (hby : i.bytes = bytes) (hzs : z.cells.size = size) (hsz : 0 < size)
    (a0 : Option Addr) (n c0 : Nat) (xs : List Value) (hs : a.eval s = .slice a0 n c0) (hown : Row w e size a0 n c0 xs)
    (ad : Addr) (m c : Nat) (news : List Value) (hx : a.eval x = .slice (some ad) m c) (hl : news.length = m * size) (hm0 : 0 < m) (hnews : ∀ j u, news[j]? = some u → w.cell? (ad.add j) = some u) (h1 : ∀ u ∈ news, u.oneCell' = true)
    (h63 : n + m ≤ maxLen) (hbytes : (n + m) * bytes ≤ 140737488355328)
    (h : ∀ a' c' w', Row w' e size a' (n + m) c' (xs ++ news) → w.grownBy w' (blk a0) → (a' = a0 ∨ a' = some ⟨w.heap.size, 0, none⟩) → K (a.put o.dst (.slice a' (n + m) c')) w') : o.wp P a w K Q := by
  obtain ⟨a', c', w', hr, h2, h3, h4, _⟩ := run_append_row (P := P) w t o.type e i z size bytes ht hi hz hsize hby hzs hsz a0 n c0 xs hown ad m c news hl hm0 hnews h1 h63 hbytes
  unfold Oper.wp execOp
  simp only [ho, resolve, invoke, builtin, Sem.run_bind, Sem.run_pure, Result.andThen_ok, List.map_toArray, List.map_cons, List.map_nil, hs, hx, hr]
  exact h a' c' w' h2 h3 h4

theorem wpList_append_row {ops : Array Oper} {rest : List Oper} {o : Oper} {a : Act} {Q : Exit → Act → World → Prop} (hgd : o.guard = none) (s x : Operand) (t : TypeId)
    (ho : o.op = .call { callee := .builtin .append, args := #[s, x], argTypes := #[t, t] })
    (e : TypeId) (i : TypeInfo) (z : Value) (size bytes : Nat) (ht : P.underlying t = some (.slice e)) (hi : P.info? e = some i) (hz : i.zero = some z)
    (hsize : i.size = size) (hby : i.bytes = bytes) (hzs : z.cells.size = size) (hsz : 0 < size)
    (a0 : Option Addr) (n c0 : Nat) (xs : List Value) (hs : a.eval s = .slice a0 n c0) (hown : Row w e size a0 n c0 xs)
    (ad : Addr) (m c : Nat) (news : List Value) (hx : a.eval x = .slice (some ad) m c) (hl : news.length = m * size) (hm0 : 0 < m) (hnews : ∀ j u, news[j]? = some u → w.cell? (ad.add j) = some u) (h1 : ∀ u ∈ news, u.oneCell' = true)
    (h63 : n + m ≤ maxLen) (hbytes : (n + m) * bytes ≤ 140737488355328)
    (h : ∀ a' c' w', Row w' e size a' (n + m) c' (xs ++ news) → w.grownBy w' (blk a0) → (a' = a0 ∨ a' = some ⟨w.heap.size, 0, none⟩) → wpList P ops Q rest (a.put o.dst (.slice a' (n + m) c')) w') : wpList P ops Q (o :: rest) a w :=
  wpList_plain hgd fun _ hK => wp_append_row w s x t ho e i z size bytes ht hi hz hsize hby hzs hsz a0 n c0 xs hs hown ad m c news hx hl hm0 hnews h1 h63 hbytes fun a' c' w' h2 h3 h4 => hK _ _ (h a' c' w' h2 h3 h4)
end

end Go.Proofs.Ytminhlpbdpbolaa
