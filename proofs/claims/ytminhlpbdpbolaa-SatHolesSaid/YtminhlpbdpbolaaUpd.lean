/- What becomes of a solver in memory when one of its parts is written. -/
import Derived.Test.YtminhlpbdpbolaaRep
import Derived.Lib.Hide
namespace Go.Proofs.Ytminhlpbdpbolaa
open Go.RowKit Mir

def only (r : Role) : Role → Bool := fun x => decide (x = r)
theorem only_false {r r' : Role} (h : only r r' = false) : r' ≠ r := by simpa [only] using h

section
variable {w : World} {L : Lay} {M : St}

/-- Two blocks of different roles are two. -/
theorem role_ne {ro : Nat → Option Role} {b g : Nat} {r r' : Role} (hb : ro b = some r) (hg : ro g = some r') (h : r ≠ r') : b ≠ g := by
  rintro rfl
  rw [hb] at hg
  exact h (Option.some.inj hg)

/-- A store into a block of one role. -/
theorem RepX.store (h : Rep w L M) {g : Nat} {r : Role} (hg : L.ro g = some r) (j : Nat) (u : Value) : RepX (only r) (w.setCell ⟨g, j, none⟩ u) L M :=
  h.touch (fun _ _ => rfl) (by simp) fun b r' _ hb hr => getElem?_setCell_other _ _ _ _ (role_ne hb hg (only_false hr))

/-- Numbers of one of the solver's lists. -/
def withNums (M : St) (k : K) (xs : List Int) : St :=
  match k with
  | .heap => { M with heap := xs } | .place => { M with place := xs } | .trail => { M with trail := xs } | .limits => { M with limits := xs }
  | .vars | .learnt => M
def nums (M : St) : K → List Int
  | .heap => M.heap | .place => M.place | .trail => M.trail | .limits => M.limits
  | .vars | .learnt => []
def K.isNum : K → Bool | .vars | .learnt => false | _ => true

theorem Rep.setNum (h : Rep w L M) (k : K) (hk : k.isNum = true) {g : Nat} (hg : (L.hd k).a = some ⟨g, 0, none⟩) (i x : Int) (h0 : 0 ≤ i) (h1 : i < (nums M k).length) :
    Rep (w.setCell ⟨g, i.toNat, none⟩ (vi x)) L (withNums M k ((nums M k).set i.toNat x)) := by
  have hr : L.ro g = some (.fld k) := h.rrows k g (by rw [hg]; rfl)
  have t := h.store hr i.toNat (vi x)
  have row := h.rows k rfl
  rw [hg] at row
  have row2 := row.set i.toNat (by cases k <;> simp_all [cellsOf, nums, K.isNum] <;> omega) (vi x)
  refine ⟨fun _ => ?_, t.rslv, fun k' _ => ?_, t.rrows, fun _ => ?_, t.rwat, ?_, fun a b hm _ => t.wl a b ?_ (by simp [only]), fun a b hm => t.rwl a b ?_,
    fun a b hm _ => t.cl a b ?_ (by simp [only]), fun a ha => t.rcl a ?_, fun a b hm _ => t.lits a b ?_ (by simp [only]), fun a ha => t.rlits a ?_, t.fresh, ?_⟩
  · have := t.slv (by simp [only])
    cases k <;> simp_all [withNums, slvCells, nums, K.isNum]
  · by_cases e : k' = k
    · subst e
      rw [hg]
      cases k' <;> simp_all [withNums, cellsOf, nums, K.isNum, lenOf, List.map_set]
    · have := t.rows k' (by simp [only, e])
      cases k <;> cases k' <;> simp_all [withNums, cellsOf, nums, K.isNum, lenOf]
  · have := t.wat (by simp [only])
    cases k <;> exact this
  · cases k <;> exact t.keys
  · cases k <;> exact hm
  · cases k <;> exact hm
  · cases k <;> exact hm
  · cases k <;> exact ha
  · cases k <;> exact hm
  · cases k <;> exact ha
  · cases k <;> exact t.ids

/-- One of the solver's own numbers, or what is broken. -/
theorem Rep.setOwn (h : Rep w L M) (M' : St) (i : Nat) (u : Value) (he : slvCells L M' = (slvCells L M).set i u)
    (hv : M'.vars = M.vars) (hh : M'.heap = M.heap) (hp : M'.place = M.place) (hw : M'.wat = M.wat) (hl : M'.learnt = M.learnt) (ht : M'.trail = M.trail) (hm : M'.limits = M.limits) (hc : M'.cls = M.cls) :
    Rep (w.setCell ⟨L.sb, i, none⟩ u) L M' := by
  have t := h.store h.rslv i u
  refine ⟨fun _ => by rw [he]; exact (h.slv rfl).set i u, t.rslv, fun k' _ => ?_, t.rrows, fun _ => by rw [hw]; exact t.wat (by simp [only]), t.rwat, by rw [hw]; exact t.keys, ?_, ?_, ?_, ?_, ?_, ?_, t.fresh, ?_⟩
  · have := t.rows k' (by simp [only])
    cases k' <;> simp_all [cellsOf, lenOf]
  · rw [hw]; exact fun a b hm _ => t.wl a b hm (by simp [only])
  · rw [hw]; exact t.rwl
  · rw [hc]; exact fun a b hm _ => t.cl a b hm (by simp [only])
  · rw [hc]; exact t.rcl
  · rw [hc]; exact fun a b hm _ => t.lits a b hm (by simp [only])
  · rw [hc]; exact t.rlits
  · rw [hv, hw, hl, hc]; exact t.ids

/-- One cell of a variable's fact. -/
theorem Rep.setVar (h : Rep w L M) {g : Nat} (hg : (L.hd .vars).a = some ⟨g, 0, none⟩) (v : Int) (f f' : Fact) (hf : gi M.vars v = some f) (j : Nat) (hj : j < 5) (u : Value)
    (he : factCells L.cb f' = (factCells L.cb f).set j u) (hr' : ∀ r, f'.reason = some r → r < M.cls.length) :
    Rep (w.setCell ⟨g, v.toNat * 5 + j, none⟩ u) L { M with vars := M.vars.set v.toNat f' } := by
  obtain ⟨h0, h1, h2⟩ := gi_spec hf
  have hr : L.ro g = some (.fld .vars) := h.rrows .vars g (by rw [hg]; rfl)
  have t := h.store hr (v.toNat * 5 + j) u
  have row := h.rows .vars rfl
  rw [hg] at row
  have hlen : (cellsOf L.cb M .vars).length = 5 * M.vars.length := flat5_length _ _
  have row2 := row.set (v.toNat * 5 + j) (by rw [hlen]; omega) u
  refine ⟨fun _ => ?_, t.rslv, fun k' _ => ?_, t.rrows, fun _ => t.wat (by simp [only]), t.rwat, t.keys, fun a b hm _ => t.wl a b hm (by simp [only]), t.rwl,
    fun a b hm _ => t.cl a b hm (by simp [only]), t.rcl, fun a b hm _ => t.lits a b hm (by simp [only]), t.rlits, t.fresh, ?_, t.ids.2⟩
  · have := t.slv (by simp [only])
    simpa [slvCells] using this
  · by_cases e : k' = .vars
    · subst e
      rw [hg]
      show Row _ 78 5 _ (M.vars.set v.toNat f').length _ ((M.vars.set v.toNat f').flatMap (factCells L.cb))
      rw [List.length_set, flat5_set L.cb M.vars v.toNat j u f f' h2 hj he, Nat.mul_comm 5]
      exact row2
    · have := t.rows k' (by simp [only, e])
      cases k' <;> first | exact (e rfl).elim | exact this
  · intro x hx r hxr
    rcases List.mem_or_eq_of_mem_set hx with hx | rfl
    · exact t.ids.1 x hx r hxr
    · exact hr' r hxr

/-- A solver that differs in one of its lists alone. -/
structure SameBut (M M' : St) (k : K) : Prop where
  others : ∀ k', k' ≠ k → lenOf M' k' = lenOf M k' ∧ ∀ cb, cellsOf cb M' k' = cellsOf cb M k'
  wat : M'.wat = M.wat
  cls : M'.cls = M.cls
  own : M'.head = M.head ∧ M'.conflicts = M.conflicts ∧ M'.added = M.added ∧ M'.bump = M.bump ∧ M'.broken = M.broken
  ids : (∀ f ∈ M'.vars, ∀ r, f.reason = some r → r < M.cls.length) ∧ ∀ id ∈ M'.learnt, id < M.cls.length

def Lay.withHd (L : Lay) (k : K) (h : Hd) : Lay :=
  { L with hd := fun k' => if k' = k then h else L.hd k', ro := match h.a with | some a => addRole L.ro a.block (.fld k) | none => L.ro }

theorem slvCells_newHd {M' : St} (k : K) (hs : SameBut M M' k) (h : Hd) : slvCells (L.withHd k h) M' = (slvCells L M).set k.ix (hdv h (lenOf M' k)) := by
  obtain ⟨e1, e2, e3, e4, e5⟩ := hs.own
  have h1 := fun h' => (hs.others .vars h').1
  have h2 := fun h' => (hs.others .heap h').1
  have h3 := fun h' => (hs.others .place h').1
  have h4 := fun h' => (hs.others .learnt h').1
  have h5 := fun h' => (hs.others .trail h').1
  have h6 := fun h' => (hs.others .limits h').1
  simp only [lenOf] at h1 h2 h3 h4 h5 h6
  cases k <;> simp_all [slvCells, Lay.withHd, K.ix, lenOf]

/-- One of the solver's slices has a new header: longer, shorter, or elsewhere. -/
theorem Rep.newHd (h : Rep w L M) (k : K) {M' : St} (hs : SameBut M M' k) {w2 : World} {a' : Option Addr} {c' : Nat} (hg : w.grownBy w2 (blk (L.hd k).a))
    (hrow : Row w2 k.E k.sz a' (lenOf M' k) c' (cellsOf L.cb M' k)) (hnew : a' = (L.hd k).a ∨ ∃ g, a' = some ⟨g, 0, none⟩ ∧ w.heap.size ≤ g) :
    Next w L M (w2.setCell ⟨L.sb, k.ix, none⟩ (.slice a' (lenOf M' k) c')) (L.withHd k ⟨a', c'⟩) M' := by
  have hrk := h.rrows k
  have hsb : L.sb < w.heap.size := h.fresh _ (by rw [h.rslv]; simp)
  have t0 : RepX (only (.fld k)) w2 L M := h.touch (fun _ _ => rfl) hg.size fun b r hb hr hx => hg.block b hb fun e => by
    have := hrk b e.symm
    rw [hr] at this
    exact only_false hx (Option.some.inj this)
  have hro : ∀ g, blk a' = some g → L.ro g = none ∨ L.ro g = some (.fld k) := by
    intro g hg'
    rcases hnew with rfl | ⟨g', rfl, hge⟩
    · exact .inr (hrk g hg')
    · left
      cases hg'
      cases hn : L.ro g' with
      | none => rfl
      | some r => have := h.fresh g' (by rw [hn]; simp); omega
  have hrow' := hrow
  have t1 : RepX (only (.fld k)) w2 (L.withHd k ⟨a', c'⟩ |> fun l => { L with ro := l.ro }) M := by
    unfold Lay.withHd
    cases ha : a' with
    | none => exact t0
    | some a =>
      subst ha
      exact t0.relabel a.block (.fld k) (hro a.block rfl) (hrow.lt rfl)
  have rsb : (L.withHd k ⟨a', c'⟩).ro L.sb = some .slv := t1.rslv
  have hkb : hasRole (L.withHd k ⟨a', c'⟩).ro a' (.fld k) := by
    intro g hg'
    cases ha : a' with
    | none => rw [ha] at hg'; cases hg'
    | some a =>
      rw [ha] at hg'
      cases hg'
      exact addRole_new _ _ _
  have t2 := t1.touch (w' := w2.setCell ⟨L.sb, k.ix, none⟩ (.slice a' (lenOf M' k) c')) (X' := fun r => only (.fld k) r || only .slv r) (by simp; intro r h1 _; exact h1) (by simp) fun b r hb hr hx =>
    getElem?_setCell_other _ _ _ _ (role_ne hr t1.rslv (by simp at hx; exact only_false hx.2))
  have hx : ∀ r, r ≠ .fld k → r ≠ .slv → (only (.fld k) r || only .slv r) = false := by intro r h1 h2; simp [only, h1, h2]
  have hcells := slvCells_newHd (L := L) k hs ⟨a', c'⟩
  have hslv : Blk w2 L.sb (slvCells L M) := t0.slv (by simp [only])
  refine ⟨⟨fun _ => by rw [hcells]; exact hslv.set k.ix _, t2.rslv, fun k' _ => ?_, fun k' => ?_, fun _ => ?_, t2.rwat, by rw [hs.wat]; exact t2.keys, ?_, ?_, ?_, ?_, ?_, ?_, t2.fresh, ?_⟩, ?_, ?_, by rw [hs.cls]; exact Nat.le_refl _⟩
  · by_cases e : k' = k
    · subst e
      simp only [Lay.withHd, if_true]
      exact hrow.keep fun g hg' => getElem?_setCell_other _ _ _ _ (role_ne (hkb g hg') rsb (by simp))
    · have := t2.rows k' (hx _ (by simp [e]) (by simp))
      simp only [Lay.withHd, if_neg e]
      rw [(hs.others k' e).1, (hs.others k' e).2]
      exact this
  · by_cases e : k' = k
    · subst e
      simpa only [Lay.withHd, if_true] using hkb
    · have := t2.rrows k'
      simpa only [Lay.withHd, if_neg e] using this
  · have := t2.wat (hx _ (by simp) (by simp))
    rw [hs.wat]
    exact this
  · rw [hs.wat]; exact fun a b hm _ => t2.wl a b hm (hx _ (by simp) (by simp))
  · rw [hs.wat]; exact t2.rwl
  · rw [hs.cls]; exact fun a b hm _ => t2.cl a b hm (hx _ (by simp) (by simp))
  · rw [hs.cls]; exact t2.rcl
  · rw [hs.cls]; exact fun a b hm _ => t2.lits a b hm (hx _ (by simp) (by simp))
  · rw [hs.cls]; exact t2.rlits
  · rw [hs.wat, hs.cls]; exact ⟨hs.ids.1, t2.ids.2.1, hs.ids.2⟩
  · exact ((Fr.refl _ _).grown hg fun g hg' _ => by rw [hrk g hg']; simp).setCell (fun _ => by rw [h.rslv]; simp) _
  · refine ⟨rfl, fun b hb => ?_, fun _ _ => rfl, fun _ _ => rfl⟩
    unfold Lay.withHd
    cases ha : a' with
    | none => rfl
    | some a =>
      by_cases e : b = a.block
      · subst ha
        rcases hro a.block rfl with hn | hn
        · rcases hnew with hn' | ⟨g, hn', hge⟩
          · have := hrk a.block (by rw [← hn']; rfl); rw [hn] at this; cases this
          · cases hn'; simp at e; omega
        · simp [addRole, e, hn]
      · simp [addRole, e]

theorem Rep.newHd' (h : Rep w L M) (k : K) {M' : St} (hs : SameBut M M' k) {w2 : World} {a' : Option Addr} {c' n : Nat} (hn : lenOf M' k = n) (hg : w.grownBy w2 (blk (L.hd k).a))
    (hrow : Row w2 k.E k.sz a' n c' (cellsOf L.cb M' k)) (hnew : a' = (L.hd k).a ∨ ∃ g, a' = some ⟨g, 0, none⟩ ∧ w.heap.size ≤ g) :
    Next w L M (w2.setCell ⟨L.sb, k.ix, none⟩ (.slice a' n c')) (L.withHd k ⟨a', c'⟩) M' := by
  subst hn
  exact h.newHd k hs hg hrow hnew

/-- The solver's own cells while one of its rows grows. -/
theorem Rep.grown (h : Rep w L M) (k : K) {w2 : World} (hg : w.grownBy w2 (blk (L.hd k).a)) (i : Nat) :
    w2.cell? ⟨L.sb, i, none⟩ = w.cell? ⟨L.sb, i, none⟩ ∧ w2.frozen? ⟨L.sb, i, none⟩ = false := by
  have hb := hg.block L.sb (h.fresh _ (by rw [h.rslv]; simp)) fun e => by
    have := h.rrows k L.sb e.symm
    rw [h.rslv] at this
    cases this
  exact ⟨World.cell?_of_block (a := ⟨L.sb, i, none⟩) hb, (World.frozen?_of_block (a := ⟨L.sb, i, none⟩) hb).trans (h.atFree i)⟩

theorem grownBy_refl (w : World) (row : Option Nat) : w.grownBy w row := ⟨rfl, rfl, rfl, Nat.le_refl _, fun _ _ _ => rfl⟩
theorem grown_alloc {w w2 : World} {o : Obj} {row : Option Nat} (h : (w.alloc o).grownBy w2 row) : w.grownBy w2 row :=
  ⟨h.os, h.tape, h.output, by have := h.size; simp at this; omega, fun k hk hr => (h.block k (by simp; omega) hr).trans (Below.heap_alloc _ _ _ hk)⟩
theorem Row.alloc {w : World} {E sz : Nat} {a : Option Addr} {n c : Nat} {xs : List Value} (h : Row w E sz a n c xs) (o : Obj) : Row (w.alloc o) E sz a n c xs :=
  h.keep fun _ hg => Below.heap_alloc _ _ _ (h.lt hg)
end

end Go.Proofs.Ytminhlpbdpbolaa
