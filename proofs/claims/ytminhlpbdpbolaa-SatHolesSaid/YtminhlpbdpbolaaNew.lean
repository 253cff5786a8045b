/- What becomes of a solver in memory when a clause is made. -/
import Derived.Test.YtminhlpbdpbolaaLef
import Derived.Test.YtminhlpbdpbolaaWh
import Derived.Test.YtminhlpbdpbolaaCla
namespace Go.Proofs.Ytminhlpbdpbolaa
open Go.RowKit Mir

theorem Rep.alloc {w : World} {L : Lay} {M : St} (h : Rep w L M) (o : Obj) : Rep (w.alloc o) L M := RepX.alloc h o

/-- The layout with one clause more: its block, its literals' row. -/
def Lay.withCl (L : Lay) (id b : Nat) (h : Hd) : Lay :=
  { L with cb := fun i => if i = id then b else L.cb i, lv := fun i => if i = id then h else L.lv i,
           ro := addRole (match h.a with | some a => addRole L.ro a.block (.lits id) | none => L.ro) b (.cl id) }

theorem ptr_withCl {L : Lay} {id b : Nat} {h : Hd} {j : Nat} (hj : j < id) : ptr (L.withCl id b h).cb j = ptr L.cb j := by
  have : j ≠ id := by omega
  simp [ptr, Lay.withCl, this]

theorem map_ptr_withCl {L : Lay} {id b : Nat} {h : Hd} {l : List Nat} (hl : ∀ j ∈ l, j < id) : l.map (ptr (L.withCl id b h).cb) = l.map (ptr L.cb) :=
  List.map_congr_left fun j hj => ptr_withCl (hl j hj)

theorem facts_withCl {L : Lay} {id b : Nat} {h : Hd} {l : List Fact} (hl : ∀ f ∈ l, ∀ r, f.reason = some r → r < id) : l.flatMap (factCells (L.withCl id b h).cb) = l.flatMap (factCells L.cb) := by
  induction l with
  | nil => rfl
  | cons f l ih =>
    have e : factCells (L.withCl id b h).cb f = factCells L.cb f := by
      have hf := hl f (List.mem_cons_self ..)
      cases hr : f.reason with
      | none => simp [factCells, ptrO, paddr, hr]
      | some r =>
        have : r ≠ id := by have := hf r hr; omega
        simp [factCells, ptrO, paddr, hr, Lay.withCl, this]
    rw [List.flatMap_cons, List.flatMap_cons, e, ih fun g hg => hl g (List.mem_cons_of_mem _ hg)]

theorem cells_withCl {w : World} {L : Lay} {M : St} (h : Rep w L M) (b : Nat) (hd : Hd) (k : K) : cellsOf (L.withCl M.cls.length b hd).cb M k = cellsOf L.cb M k := by
  cases k <;> first | rfl | skip
  · exact facts_withCl h.ids.1
  · exact map_ptr_withCl h.ids.2.2

/-- A clause is made out of a row of the call's own. -/
theorem Next.newCl {w0 w : World} {L0 L : Lay} {M0 M : St} (hn : Next w0 L0 M0 w L M) (cl : Cl) {a : Option Addr} {c : Nat} (hrow : Row w 3 1 a cl.lits.length c (cl.lits.map vi)) (hown : Own w0 L a) (E : Nat) :
    Next w0 L0 M0 (w.alloc (.cells #[.slice a cl.lits.length c, .bool cl.learnt, .int .i64 cl.score] E)) (L.withCl M.cls.length w.heap.size ⟨a, c⟩) { M with cls := M.cls ++ [cl] } := by
  have h := hn.rep
  generalize hL : L.withCl M.cls.length w.heap.size ⟨a, c⟩ = L'
  have hlt : ∀ b, L.ro b ≠ none → b < w.heap.size := h.fresh
  have hrn : L.ro w.heap.size = none := by
    cases hro : L.ro w.heap.size with
    | none => rfl
    | some r => have := hlt _ (by rw [hro]; simp); omega
  have hag : ∀ g, blk a = some g → g ≠ w.heap.size := fun g hg e => by have := hrow.lt hg; omega
  have rold : ∀ b r, L.ro b = some r → L'.ro b = some r := by
    intro b r hb
    have hbn : b ≠ w.heap.size := fun e => by rw [e, hrn] at hb; cases hb
    subst hL
    simp only [Lay.withCl, addRole_ne hbn]
    cases ha : a with
    | none => simpa [ha] using hb
    | some x =>
      simp only
      exact addRole_old (.inl (hown x.block (by rw [ha]; rfl)).1) hb
  have rcl' : L'.ro w.heap.size = some (.cl M.cls.length) := by subst hL; exact addRole_new _ _ _
  have rl' : hasRole L'.ro a (.lits M.cls.length) := by
    intro g hg
    subst hL
    simp only [Lay.withCl, addRole_ne (hag g hg)]
    cases ha : a with
    | none => rw [ha] at hg; cases hg
    | some x => rw [ha] at hg; cases hg; exact addRole_new _ _ _
  have hro : ∀ {x r}, hasRole L.ro x r → hasRole L'.ro x r := fun q g hg => rold g _ (q g hg)
  have hbk : ∀ {b xs r}, L.ro b = some r → Blk w b xs → Blk (w.alloc (.cells #[.slice a cl.lits.length c, .bool cl.learnt, .int .i64 cl.score] E)) b xs :=
    fun {b xs r} hr q => q.keep (Below.heap_alloc _ _ _ (hlt b (by rw [hr]; simp)))
  have hrw : ∀ {E' sz x n c' xs}, Row w E' sz x n c' xs → Row (w.alloc (.cells #[.slice a cl.lits.length c, .bool cl.learnt, .int .i64 cl.score] E)) E' sz x n c' xs := fun q => q.alloc _
  have hfresh : ∀ b, L'.ro b ≠ none → b < w.heap.size + 1 := by
    intro b hb
    by_cases e : b = w.heap.size
    · omega
    · subst hL
      simp only [Lay.withCl, addRole_ne e] at hb
      cases ha : a with
      | none => rw [ha] at hb; have := hlt b hb; omega
      | some x =>
        rw [ha] at hb
        by_cases e2 : b = x.block
        · have := hrow.lt (g := b) (by rw [ha, e2]; rfl); omega
        · simp only [addRole_ne e2] at hb; have := hlt b hb; omega
  have hcbold : ∀ i, i < M.cls.length → L'.cb i = L.cb i := fun i hi => by subst hL; have : i ≠ M.cls.length := (by omega); simp [Lay.withCl, this]
  have hlvold : ∀ i, i < M.cls.length → L'.lv i = L.lv i := fun i hi => by subst hL; have : i ≠ M.cls.length := (by omega); simp [Lay.withCl, this]
  have hcbn : L'.cb M.cls.length = w.heap.size := by subst hL; simp [Lay.withCl]
  have hlvn : L'.lv M.cls.length = ⟨a, c⟩ := by subst hL; simp [Lay.withCl]
  have hsb : L'.sb = L.sb := by subst hL; rfl
  have hhd : L'.hd = L.hd := by subst hL; rfl
  have hmb : L'.mb = L.mb := by subst hL; rfl
  have hwv : L'.wv = L.wv := by subst hL; rfl
  have hcells : ∀ k, cellsOf L'.cb M k = cellsOf L.cb M k := fun k => by subst hL; exact cells_withCl h _ _ k
  have hget : ∀ id c', (M.cls ++ [cl])[id]? = some c' → (id < M.cls.length ∧ M.cls[id]? = some c') ∨ (id = M.cls.length ∧ c' = cl) := by
    intro id c' hc
    rcases Nat.lt_or_ge id M.cls.length with q | q
    · rw [List.getElem?_append_left q] at hc; exact .inl ⟨q, hc⟩
    · rw [List.getElem?_append_right q] at hc
      have e : id - M.cls.length = 0 := by
        have := (List.getElem?_eq_some_iff.1 hc).1
        simp at this; omega
      rw [e] at hc
      simp at hc
      exact .inr ⟨by omega, hc.symm⟩
  refine ⟨⟨fun _ => ?_, ?_, fun k _ => ?_, fun k => ?_, fun _ => ?_, ?_, h.keys, fun k ids hm _ => ?_, fun k ids hm => ?_, fun id c' hc _ => ?_, fun id hi => ?_, fun id c' hc _ => ?_, fun id hi => ?_, fun b hb => ?_, ?_⟩, ?_, ?_, ?_⟩
  · have e : slvCells L' { M with cls := M.cls ++ [cl] } = slvCells L M := by simp [slvCells, hhd, hmb]
    rw [e, hsb]
    exact hbk h.rslv (h.slv rfl)
  · rw [hsb]; exact rold _ _ h.rslv
  · have e1 : lenOf { M with cls := M.cls ++ [cl] } k = lenOf M k := by cases k <;> rfl
    have e2 : cellsOf L'.cb { M with cls := M.cls ++ [cl] } k = cellsOf L'.cb M k := by cases k <;> rfl
    rw [e1, e2, hcells, hhd]
    exact hrw (h.rows k rfl)
  · rw [hhd]; exact hro (h.rrows k)
  · obtain ⟨es, ck, h1, h2⟩ := h.wat rfl
    refine ⟨es, ck, ?_, ?_⟩
    · rw [hmb, Below.heap_alloc _ _ _ (hlt _ (by rw [h.rwat]; simp))]; exact h1
    · rw [h2]; simp [watCells, hwv]
  · rw [hmb]; exact rold _ _ h.rwat
  · rw [hwv]
    have e : ids.map (ptr L'.cb) = ids.map (ptr L.cb) := by subst hL; exact map_ptr_withCl (h.ids.2.1 (k, ids) hm)
    rw [e]
    exact (h.wl k ids hm rfl).keep fun g hg => Below.heap_alloc _ _ _ (hlt g (by rw [h.rwl k ids hm g hg]; simp))
  · rw [hwv]; exact hro (h.rwl k ids hm)
  · rcases hget id c' hc with ⟨q, hc⟩ | ⟨rfl, rfl⟩
    · rw [hcbold id q, hlvold id q]
      exact hbk (h.rcl id q) (h.cl id c' hc rfl)
    · rw [hcbn, hlvn]
      exact ⟨E, heap_alloc_new w _⟩
  · rcases Nat.lt_or_ge id M.cls.length with q | q
    · rw [hcbold id q]; exact rold _ _ (h.rcl id q)
    · obtain rfl : id = M.cls.length := by simp at hi; omega
      rw [hcbn]; exact rcl'
  · rcases hget id c' hc with ⟨q, hc⟩ | ⟨rfl, rfl⟩
    · rw [hlvold id q]
      exact hrw (h.lits id c' hc rfl)
    · rw [hlvn]
      exact hrw hrow
  · rcases Nat.lt_or_ge id M.cls.length with q | q
    · rw [hlvold id q]; exact hro (h.rlits id q)
    · obtain rfl : id = M.cls.length := by simp at hi; omega
      rw [hlvn]; exact rl'
  · have := hfresh b hb
    simpa using this
  · have l : (M.cls ++ [cl]).length = M.cls.length + 1 := by simp
    refine ⟨fun f hf r hr => ?_, fun e he id hid => ?_, fun id hid => ?_⟩
    · have := h.ids.1 f hf r hr
      simp only [l]; omega
    · have := h.ids.2.1 e he id hid
      simp only [l]; omega
    · have := h.ids.2.2 id hid
      simp only [l]; omega
  · exact hn.fr.alloc _
  · refine ⟨hsb.trans hn.ext.sb, fun b hb => ?_, fun i hi => (hcbold i (Nat.lt_of_lt_of_le hi hn.cls)).trans (hn.ext.cb i hi), fun i hi => (hlvold i (Nat.lt_of_lt_of_le hi hn.cls)).trans (hn.ext.lv i hi)⟩
    rw [← hn.ext.ro b hb]
    have hbn : b ≠ w.heap.size := by have := hn.fr.size; omega
    subst hL
    simp only [Lay.withCl, addRole_ne hbn]
    cases ha : a with
    | none => rfl
    | some x =>
      have hx := hown x.block (by rw [ha]; rfl)
      have : b ≠ x.block := by have := hx.2; omega
      simp [addRole_ne this]
  · have := hn.cls
    simp; omega

theorem same_learnt {w : World} {L : Lay} {M : St} (h : Rep w L M) (xs : List Nat) (hx : ∀ id ∈ xs, id < M.cls.length) : SameBut M { M with learnt := xs } .learnt :=
  ⟨fun k' e => by cases k' <;> first | exact (e rfl).elim | exact ⟨rfl, fun _ => rfl⟩, rfl, rfl, ⟨rfl, rfl, rfl, rfl, rfl⟩, h.ids.1, hx⟩

theorem app_ptr' {w : World} {ops : Array Oper} {rest : List Oper} {o : Oper} {a : Act} {Q : Exit → Act → World → Prop} (hgd : o.guard = none) (s x : Operand) (ho : o.op = .call { callee := .builtin .append, args := #[s, x], argTypes := #[51, 51] })
    (a0 : Option Addr) (n c0 : Nat) (cb : Nat → Nat) (xs : List Nat) (hs : a.eval s = .slice a0 n c0) (hown : Row w 54 1 a0 n c0 (xs.map (ptr cb))) (id : Nat) {p : Nat} (hp : cb id = p)
    {g : Nat} (hx : a.eval x = .slice (some ⟨g, 0, none⟩) 1 1) (hgs : g = w.heap.size) (hn : n < LIM)
    (h : ∀ a' c' w', Row w' 54 1 a' (n + 1) c' ((xs ++ [id]).map (ptr cb)) → w.grownBy w' (blk a0) → (a' = a0 ∨ ∃ g, a' = some ⟨g, 0, none⟩ ∧ w.heap.size ≤ g) → wpList Try.prog ops Q rest (a.put o.dst (.slice a' (n + 1) c')) w') :
    wpList Try.prog ops Q (o :: rest) a (w.alloc (.cells #[.pointer (some ⟨p, 0, none⟩)] 54)) := by
  subst hp
  exact app_ptr hgd s x ho a0 n c0 cb xs hs hown id hx hgs hn h

end Go.Proofs.Ytminhlpbdpbolaa
