/- What becomes of a solver in memory when a clause is written. -/
import Derived.Test.YtminhlpbdpbolaaUpb
namespace Go.Proofs.Ytminhlpbdpbolaa
open Go.RowKit Mir

section
variable {w : World} {L : Lay} {M : St}

theorem cls_set_get {cls : List Cl} {id j : Nat} {c c' x : Cl} (hc : cls[id]? = some c) (h : (cls.set id c')[j]? = some x) : (j = id ∧ x = c') ∨ (j ≠ id ∧ cls[j]? = some x) := by
  have hlt := (List.getElem?_eq_some_iff.1 hc).1
  by_cases e : j = id
  · subst e
    rw [List.getElem?_set_self hlt] at h
    exact .inl ⟨rfl, (Option.some.inj h).symm⟩
  · rw [List.getElem?_set_ne (Ne.symm e)] at h
    exact .inr ⟨e, h⟩

/-- A clause's literal is written. -/
theorem Rep.setLit (h : Rep w L M) {id : Nat} {c : Cl} (hc : M.cls[id]? = some c) {g : Nat} (hg : (L.lv id).a = some ⟨g, 0, none⟩) (j : Nat) (hj : j < c.lits.length) (x : Int) :
    Rep (w.setCell ⟨g, j, none⟩ (vi x)) L { M with cls := M.cls.set id { c with lits := c.lits.set j x } } := by
  have hlt := (List.getElem?_eq_some_iff.1 hc).1
  have hr : L.ro g = some (.lits id) := h.rlits id hlt g (by rw [hg]; rfl)
  have t := h.store hr j (vi x)
  have row := h.lits id c hc rfl
  rw [hg] at row
  have row2 := row.set j (by simpa using hj) (vi x)
  refine ⟨fun _ => t.slv (by simp [only]), t.rslv, fun k' _ => t.rows k' (by simp [only]), t.rrows, fun _ => t.wat (by simp [only]), t.rwat, t.keys, fun a b hm _ => t.wl a b hm (by simp [only]), t.rwl, ?_, ?_, ?_, ?_, t.fresh, ?_⟩
  · intro j' x' hx' _
    rcases cls_set_get hc hx' with ⟨rfl, rfl⟩ | ⟨_, hx'⟩
    · have := t.cl j' c hc (by simp [only])
      simpa [clCells] using this
    · exact t.cl j' x' hx' (by simp [only])
  · intro j' hj'
    exact t.rcl j' (by simpa using hj')
  · intro j' x' hx' _
    rcases cls_set_get hc hx' with ⟨rfl, rfl⟩ | ⟨hne, hx'⟩
    · rw [hg]
      simpa [List.map_set] using row2
    · exact t.lits j' x' hx' (by simp [only, hne])
  · intro j' hj'
    exact t.rlits j' (by simpa using hj')
  · simpa using t.ids

/-- A clause's score is written. -/
theorem Rep.setScore (h : Rep w L M) {id : Nat} {c : Cl} (hc : M.cls[id]? = some c) (x : Int) :
    Rep (w.setCell ⟨L.cb id, 2, none⟩ (vi x)) L { M with cls := M.cls.set id { c with score := x } } := by
  have hlt := (List.getElem?_eq_some_iff.1 hc).1
  have hr : L.ro (L.cb id) = some (.cl id) := h.rcl id hlt
  have t := h.store hr 2 (vi x)
  have row2 := (h.cl id c hc rfl).set 2 (vi x)
  refine ⟨fun _ => t.slv (by simp [only]), t.rslv, fun k' _ => t.rows k' (by simp [only]), t.rrows, fun _ => t.wat (by simp [only]), t.rwat, t.keys, fun a b hm _ => t.wl a b hm (by simp [only]), t.rwl, ?_, ?_, ?_, ?_, t.fresh, ?_⟩
  · intro j' x' hx' _
    rcases cls_set_get hc hx' with ⟨rfl, rfl⟩ | ⟨hne, hx'⟩
    · simpa [clCells] using row2
    · exact t.cl j' x' hx' (by simp [only, hne])
  · intro j' hj'
    exact t.rcl j' (by simpa using hj')
  · intro j' x' hx' _
    rcases cls_set_get hc hx' with ⟨rfl, rfl⟩ | ⟨hne, hx'⟩
    · exact t.lits j' c hc (by simp [only])
    · exact t.lits j' x' hx' (by simp [only])
  · intro j' hj'
    exact t.rlits j' (by simpa using hj')
  · simpa using t.ids
end

end Go.Proofs.Ytminhlpbdpbolaa
