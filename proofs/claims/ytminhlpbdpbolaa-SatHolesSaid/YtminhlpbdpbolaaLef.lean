/- The list that is left over while one list of the watches is gone through: empty at the watches' own address, or a row of its own. -/
import Derived.Test.YtminhlpbdpbolaaWg
import Derived.Deep.Upon
namespace Go.Proofs.Ytminhlpbdpbolaa
open Go.RowKit Mir

/-- What the call itself has made: no role of the solver's. -/
def Own (w0 : World) (L : Lay) (a : Option Addr) : Prop := ∀ g, blk a = some g → L.ro g = none ∧ w0.heap.size ≤ g

def LeftI (w0 w : World) (L : Lay) (n : Int) (a : Option Addr) (k c : Nat) (xs : List Value) : Prop :=
  (k = 0 ∧ c = 0 ∧ xs = [] ∧ hasRole L.ro a (.wl n)) ∨ (Row w 54 1 a k c xs ∧ Own w0 L a)

section
variable {w0 w w' : World} {L0 L L' : Lay} {M0 M M' : St}

theorem Own.next {a : Option Addr} (h : Own w0 L a) (hlt : ∀ g, blk a = some g → g < w.heap.size) (k : Next w L M w' L' M') : Own w0 L' a :=
  fun g hg => ⟨(k.ext.ro g (hlt g hg)).trans (h g hg).1, (h g hg).2⟩

theorem Next.keepRow (k : Next w L M w' L' M') {E sz : Nat} {a : Option Addr} {n c : Nat} {xs : List Value} (hr : Row w E sz a n c xs) (h : Own w0 L a) : Row w' E sz a n c xs ∧ Own w0 L' a :=
  ⟨hr.keep fun g hg => k.fr.block g (hr.lt hg) (h g hg).1, h.next (fun _ hg => hr.lt hg) k⟩

theorem LeftI.next {n : Int} {a : Option Addr} {k c : Nat} {xs : List Value} (h : LeftI w0 w L n a k c xs) (hr : Rep w L M) (q : Next w L M w' L' M') : LeftI w0 w' L' n a k c xs := by
  rcases h with ⟨h1, h2, h3, h4⟩ | ⟨h1, h2⟩
  · exact .inl ⟨h1, h2, h3, fun g hg => (q.ext.ro g (hr.fresh g (by rw [h4 g hg]; simp))).trans (h4 g hg)⟩
  · exact .inr (q.keepRow h1 h2)

theorem LeftI.drewN {n : Int} {a : Option Addr} {k c : Nat} {xs : List Value} (h : LeftI w0 w L n a k c xs) (d : Nat) : LeftI w0 (w.drewN d) L n a k c xs := h

theorem Next.side (hn : Next w0 L0 M0 w L M) {w2 : World} {row : Option Nat} (hg : w.grownBy w2 row) (hr : ∀ g, row = some g → L.ro g = none ∧ w0.heap.size ≤ g) : Next w0 L0 M0 w2 L M ∧ ∀ b r, L.ro b = some r → w2.heap[b]? = w.heap[b]? := by
  have hb : ∀ b r, b < w.heap.size → L.ro b = some r → w2.heap[b]? = w.heap[b]? := fun b r hb hr' => hg.block b hb fun e => by
    have := (hr b e.symm).1
    rw [hr'] at this
    cases this
  refine ⟨⟨hn.rep.touch (fun _ h => h) hg.size fun b r h1 h2 _ => hb b r h1 h2, hn.fr.grown hg fun g hg' hlt => ?_, hn.ext, hn.cls⟩, fun b r hr' => hb b r (hn.rep.fresh b (by rw [hr']; simp)) hr'⟩
  have := (hr g hg').2
  omega

theorem Next.alloc (hn : Next w0 L0 M0 w L M) (o : Obj) : Next w0 L0 M0 (w.alloc o) L M := ⟨hn.rep.alloc o, hn.fr.alloc o, hn.ext, hn.cls⟩

theorem Next.newOwn (hn : Next w0 L0 M0 w L M) {g : Nat} (hg : w.heap.size ≤ g) : Own w0 L (some ⟨g, 0, none⟩) := by
  intro g' h
  cases h
  refine ⟨?_, Nat.le_trans hn.fr.size hg⟩
  cases hro : L.ro g with
  | none => rfl
  | some r => have := hn.rep.fresh g (by rw [hro]; simp); omega
end

/-- append of one element to an empty slice without capacity: nothing that was there is written. -/
theorem append_bare' {P : Program} {w : World} (t ty e : TypeId) (i : TypeInfo) (z : Value) (bytes : Nat) (ht : P.underlying t = some (.slice e)) (hi : P.info? e = some i) (hz : i.zero = some z)
    (hsize : i.size = 1) (hby : i.bytes = bytes) (hzs : z.cells.size = 1) (a0 : Option Addr) (a : Addr) (v : Value) (hnews : ∀ j u, [v][j]? = some u → w.cell? (a.add j) = some u) (hb : bytes ≤ 100) :
    ∃ c' w', (Builtin.append_ #[t, t] ty #[.slice a0 0 0, .slice (some a) 1 1]).run P w = .ok (.slice (some ⟨w.heap.size, 0, none⟩) 1 c') w' ∧ Row w' e 1 (some ⟨w.heap.size, 0, none⟩) 1 c' [v] ∧ w.grownBy w' none := by
  have hl : [v].length = 1 * i.size := by rw [hsize]; rfl
  have hge := grownCap_ge w 1 0 e
  have hcm : grownCap w 1 0 e ≤ maxLen := grownCap_le_maxLen w 1 0 e (by simp only [maxLen]; omega)
  have row : Row (w.drew.alloc (.cells (#[v] ++ Builtin.zeroCells z.cells (grownCap w 1 0 e - 1)) e)) e 1 (some ⟨w.heap.size, 0, none⟩) 1 (grownCap w 1 0 e) [v] ∧ w.grownBy (w.drew.alloc (.cells (#[v] ++ Builtin.zeroCells z.cells (grownCap w 1 0 e - 1)) e)) none := by
    refine ⟨⟨rfl, .inr ⟨w.heap.size, _, rfl, heap_alloc_new w.drew _, hge, hcm, ?_, by simp⟩⟩, ⟨rfl, rfl, rfl, by simp, fun k hk _ => Below.heap_alloc w.drew _ k hk⟩⟩
    simp only [Array.size_append, size_zeroCells, hzs]
    simp
    omega
  cases a0 with
  | none =>
    have hr := run_append_nil (P := P) w t ty e i z ht hi hz a 1 1 [v] hl hnews (by decide) (by decide) (by omega)
    exact ⟨_, _, hr, row⟩
  | some b =>
    have hr := run_append_grow (P := P) w t ty e i z ht hi hz b 0 0 [] (by simp) (by simp) a 1 1 [v] hl hnews (by decide) (by decide) (growslice_fits (by omega) (by omega))
    simp only [Nat.zero_add, List.toArray, Array.empty_append] at hr
    exact ⟨_, _, by simpa using hr, row⟩

theorem wp_append_of {P : Program} {w w' : World} {o : Oper} {a : Act} {K : Act → World → Prop} {Q : Exit → Act → World → Prop} (s x : Operand) (t : TypeId)
    (ho : o.op = .call { callee := .builtin .append, args := #[s, x], argTypes := #[t, t] }) {u v r : Value} (hs : a.eval s = u) (hx : a.eval x = v)
    (hr : (Builtin.append_ #[t, t] o.type #[u, v]).run P w = .ok r w') (h : K (a.put o.dst r) w') : o.wp P a w K Q := by
  unfold Oper.wp execOp
  simp only [ho, resolve, invoke, builtin, Sem.run_bind, Sem.run_pure, Result.andThen_ok, List.map_toArray, List.map_cons, List.map_nil, hs, hx, hr]
  exact h

section
variable {w0 w : World} {L0 L : Lay} {M0 M : St} {ops : Array Oper} {rest : List Oper} {o : Oper} {a : Act} {K : Act → World → Prop} {Q : Exit → Act → World → Prop} {E : Prop}

/-- One more that is left. -/
theorem app_left (hn : Next w0 L0 M0 w L M) {n : Int} {a0 : Option Addr} {k c : Nat} {xs : List Nat} (hl : LeftI w0 w L n a0 k c (xs.map (ptr L.cb)))
    (hgd : o.guard = none) (s x : Operand) (ho : o.op = .call { callee := .builtin .append, args := #[s, x], argTypes := #[51, 51] }) (hs : a.eval s = .slice a0 k c) (id : Nat) {p : Nat} (hp : L.cb id = p)
    {g : Nat} (hx : a.eval x = .slice (some ⟨g, 0, none⟩) 1 1) (hgs : g = w.heap.size) (hk : k < LIM)
    (h : ∀ a' c' w', Next w0 L0 M0 w' L M → Row w' 54 1 a' (k + 1) c' ((xs ++ [id]).map (ptr L.cb)) → Own w0 L a' → (∀ b r, L.ro b = some r → w'.heap[b]? = w.heap[b]?) → wpList Try.prog ops Q rest (a.put o.dst (.slice a' (k + 1) c')) w') :
    wpList Try.prog ops Q (o :: rest) a (w.alloc (.cells #[.pointer (some ⟨p, 0, none⟩)] 54)) := by
  subst hgs hp
  have hold : ∀ b r, L.ro b = some r → b < w.heap.size := fun b r hr => hn.rep.fresh b (by rw [hr]; simp)
  rcases hl with ⟨rfl, rfl, h3, h4⟩ | ⟨h1, h2⟩
  · have hxs' : xs = [] := by simpa using h3
    subst hxs'
    obtain ⟨i0, hi, hz0, hz1, hz2⟩ := info_parts Try.info54
    refine wpList_plain hgd fun K hK => ?_
    obtain ⟨c', w', hr, hrow, hg⟩ := append_bare' (P := Try.prog) (w := w.alloc (.cells #[ptr L.cb id] 54)) 51 o.type 54 i0 (.pointer none) 8 Try.underlying51 hi hz0 hz1 hz2 rfl a0 ⟨w.heap.size, 0, none⟩ (ptr L.cb id) (cell_new w [ptr L.cb id] 54) (by decide)
    obtain ⟨hn2, hk2⟩ := (hn.alloc (.cells #[ptr L.cb id] 54)).side hg (by simp)
    refine wp_append_of s x 51 ho hs hx hr ?_
    exact hK _ _ (h _ c' w' hn2 (by simpa using hrow) (hn.newOwn (by simp)) fun b r hr => (hk2 b r hr).trans (Below.heap_alloc _ _ _ (hold b r hr)))
  · refine app_ptr hgd s x ho a0 k c L.cb xs hs h1 id hx rfl hk ?_
    intro a' c' w' hr hg hnew
    obtain ⟨hn2, hk2⟩ := hn.side hg fun g hg' => h2 g hg'
    refine h a' c' w' hn2 hr ?_ hk2
    rcases hnew with rfl | ⟨g, rfl, hge⟩
    · exact h2
    · exact hn.newOwn hge
end

theorem run_rest {P : Program} (hP : P.underlying 51 = some (.slice 54)) (hI : (P.info? 54).map (fun i => (i.zero, i.size, i.bytes)) = some (some (.pointer none), 1, 8)) {w0 w : World} {L0 L : Lay} {M0 M : St} (hn : Next w0 L0 M0 w L M) {a0 : Option Addr} {k c : Nat} {xs : List Nat} (hrow : Row w 54 1 a0 k c (xs.map (ptr L.cb))) (hown : Own w0 L a0)
    {A : Option Addr} {m c2 : Nat} {ys : List Nat} (hm : m = ys.length) (hA : 0 < m → ∃ ad, A = some ad ∧ ∀ j u, (ys.map (ptr L.cb))[j]? = some u → w.cell? (ad.add j) = some u) (hlen : k + m ≤ 2 * LIM + 2) (ty : TypeId) :
    ∃ a' c' w', (Builtin.append_ #[51, 51] ty #[.slice a0 k c, .slice A m c2]).run P w = .ok (.slice a' (k + m) c') w' ∧ Next w0 L0 M0 w' L M ∧ Row w' 54 1 a' (k + m) c' ((xs ++ ys).map (ptr L.cb)) ∧ Own w0 L a' ∧ (∀ b r, L.ro b = some r → w'.heap[b]? = w.heap[b]?) := by
  subst hm
  obtain ⟨i0, hi, hz0, hz1, hz2⟩ := info_parts hI
  simp only [LIM] at hlen
  by_cases h0 : ys.length = 0
  · have hys : ys = [] := List.eq_nil_of_length_eq_zero h0
    subst hys
    have hsrc : Src P i0.size 51 (.slice A 0 c2) 0 [] w := by
      cases A with
      | none => exact Src.ofNil w hP c2
      | some ad => exact Src.ofSlice w hP ad 0 c2 [] (by simp) (by simp) (by simp)
    refine ⟨a0, c, w, ?_, hn, by simpa using hrow, hown, fun _ _ _ => rfl⟩
    exact run_append_nothing w 51 51 ty 54 i0 hP hi a0 k c hrow.len.1 _ hsrc
  · obtain ⟨ad, rfl, hnews⟩ := hA (by omega)
    obtain ⟨a', c', w', hr, h2, h3, h4, _⟩ := run_append_row (P := P) w 51 ty 54 i0 (.pointer none) 1 8 hP hi hz0 hz1 hz2 rfl (by decide) a0 k c _ hrow ad ys.length c2 (ys.map (ptr L.cb)) (by simp) (by omega) hnews (by simp [ptr, Value.oneCell']) (by simp only [maxLen]; omega) (by omega)
    obtain ⟨hn2, hk2⟩ := hn.side h3 fun g hg => hown g hg
    refine ⟨a', c', w', hr, hn2, by simpa using h2, ?_, hk2⟩
    rcases h4 with rfl | rfl
    · exact hown
    · exact hn.newOwn (Nat.le_refl _)

section
variable {w0 w : World} {L0 L : Lay} {M0 M : St} {ops : Array Oper} {o : Oper} {a : Act} {K : Act → World → Prop} {Q : Exit → Act → World → Prop} {E : Prop}

/-- append of all that is still to come, as one step of a region that draws. -/
theorem step_rest (hn : Next w0 L0 M0 w L M) (hgd : o.guard = none) (s x : Operand) (ho : o.op = .call { callee := .builtin .append, args := #[s, x], argTypes := #[51, 51] })
    {a0 : Option Addr} {k c : Nat} {xs : List Nat} (hs : a.eval s = .slice a0 k c) (hrow : Row w 54 1 a0 k c (xs.map (ptr L.cb))) (hown : Own w0 L a0)
    {A : Option Addr} {m c2 : Nat} {ys : List Nat} (hx : a.eval x = .slice A m c2) (hm : m = ys.length) (hA : 0 < m → ∃ ad, A = some ad ∧ ∀ j u, (ys.map (ptr L.cb))[j]? = some u → w.cell? (ad.add j) = some u) (hlen : k + m ≤ 2 * LIM + 2)
    (h : ∀ a' c' w', Next w0 L0 M0 w' L M → Row w' 54 1 a' (k + m) c' ((xs ++ ys).map (ptr L.cb)) → Own w0 L a' → (∀ b r, L.ro b = some r → w'.heap[b]? = w.heap[b]?) → K (a.put o.dst (.slice a' (k + m) c')) w') :
    if Region.wanted o (yielded ops a.tmps) = true then Oper.wp Try.prog o a w K Q else E := by
  have hw : Region.wanted o (yielded ops a.tmps) = true := by simp [Region.wanted, hgd]
  rw [if_pos hw]
  obtain ⟨a', c', w', hr, h1, h2, h3, h4⟩ := run_rest Try.underlying51 Try.info54 hn hrow hown hm hA hlen o.type
  exact wp_append_of s x 51 ho hs hx hr (h a' c' w' h1 h2 h3 h4)
end

/-- What is left becomes the watches' list. -/
theorem put_left {w0 w : World} {L0 L : Lay} {M0 M : St} (hn : Next w0 L0 M0 w L M) {n : Int} {a : Option Addr} {c k : Nat} {xs : List Nat} (hk : k = xs.length) (hl : LeftI w0 w L n a k c (xs.map (ptr L.cb))) (hids : ∀ id ∈ xs, id < M.cls.length) :
    w.cell? ⟨L0.sb, 3, none⟩ = some (.map (some L.mb)) ∧ ∃ w3, (Instr.mapUpdate 50 (.map (some L.mb)) (.int .i64 n) (.slice a k c)).run Try.prog w = .ok () w3 ∧
      (∀ b r, L.ro b = some r → r ≠ .wmap → w3.heap[b]? = w.heap[b]?) ∧ ∃ L', L'.cb = L.cb ∧ Next w0 L0 M0 w3 L' { M with wat := put M.wat n xs } := by
  subst hk
  refine ⟨hn.at 3 rfl, ?_⟩
  have h := hn.rep
  have hm : Mp w L.mb (kv (watV L M.wat)) := by
    obtain ⟨es, ck, h1, h2⟩ := h.wat rfl
    exact ⟨es, ck, h1, by rw [h2, watCells_kv]⟩
  obtain ⟨w3, hup, hmp, hset⟩ := hm.update Try.underlying50 Try.underlying3 n (.slice a xs.length c)
  refine ⟨w3, hup, fun b r hr hx => hset.block b (role_ne hr h.rwat hx), L.withWv n ⟨a, c⟩, rfl, ?_⟩
  refine Next.putW hn n xs ⟨a, c⟩ (grownBy_refl w none) (by simp) ?_ ?_ ?_ hmp hset hids
  · rcases hl with ⟨h1, h2, h3, _⟩ | ⟨h1, _⟩
    · exact .inr ⟨h1, h2, h3⟩
    · exact .inl h1
  · intro g hg
    rcases hl with ⟨_, _, _, h4⟩ | ⟨h1, _⟩
    · exact h.fresh g (by rw [h4 g hg]; simp)
    · exact h1.lt hg
  · intro g hg
    rcases hl with ⟨_, _, _, h4⟩ | ⟨_, h2⟩
    · exact .inl (h4 g hg)
    · exact .inr (h2 g hg)

end Go.Proofs.Ytminhlpbdpbolaa
