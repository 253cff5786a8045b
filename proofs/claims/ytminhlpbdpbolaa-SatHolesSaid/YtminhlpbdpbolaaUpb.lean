/- More of what becomes of a solver in memory: lists cut down. -/
import Derived.Test.YtminhlpbdpbolaaWc
namespace Go.Proofs.Ytminhlpbdpbolaa
open Go.RowKit Mir
section
variable {w : World} {L : Lay} {M : St}

theorem SameBut.mk' {M M' : St} {k : K} (h : Rep w L M) (others : ∀ k', k' ≠ k → lenOf M' k' = lenOf M k' ∧ ∀ cb, cellsOf cb M' k' = cellsOf cb M k') (wat : M'.wat = M.wat) (cls : M'.cls = M.cls)
    (own : M'.head = M.head ∧ M'.conflicts = M.conflicts ∧ M'.added = M.added ∧ M'.bump = M.bump ∧ M'.broken = M.broken) (hv : M'.vars = M.vars) (hl : M'.learnt = M.learnt) : SameBut M M' k :=
  ⟨others, wat, cls, own, by rw [hv]; exact h.ids.1, by rw [hl]; exact h.ids.2.2⟩
theorem same_heap (h : Rep w L M) (xs : List Int) : SameBut M { M with heap := xs } .heap :=
  .mk' h (fun k' e => by cases k' <;> first | exact (e rfl).elim | exact ⟨rfl, fun _ => rfl⟩) rfl rfl ⟨rfl, rfl, rfl, rfl, rfl⟩ rfl rfl
theorem same_place (h : Rep w L M) (xs : List Int) : SameBut M { M with place := xs } .place :=
  .mk' h (fun k' e => by cases k' <;> first | exact (e rfl).elim | exact ⟨rfl, fun _ => rfl⟩) rfl rfl ⟨rfl, rfl, rfl, rfl, rfl⟩ rfl rfl
theorem same_trail (h : Rep w L M) (xs : List Int) : SameBut M { M with trail := xs } .trail :=
  .mk' h (fun k' e => by cases k' <;> first | exact (e rfl).elim | exact ⟨rfl, fun _ => rfl⟩) rfl rfl ⟨rfl, rfl, rfl, rfl, rfl⟩ rfl rfl
theorem same_limits (h : Rep w L M) (xs : List Int) : SameBut M { M with limits := xs } .limits :=
  .mk' h (fun k' e => by cases k' <;> first | exact (e rfl).elim | exact ⟨rfl, fun _ => rfl⟩) rfl rfl ⟨rfl, rfl, rfl, rfl, rfl⟩ rfl rfl

/-- One of the solver's lists of numbers cut down. -/
theorem Rep.cut (h : Rep w L M) (k : K) {M' : St} (hs : SameBut M M' k) {n : Nat} {xs : List Int} (h1 : k.sz = 1) (hc : cellsOf L.cb M k = xs.map vi) (hc' : cellsOf L.cb M' k = (xs.take n).map vi)
    (hl : lenOf M k = xs.length) (hl' : lenOf M' k = (xs.take n).length) (hn : n ≤ xs.length) :
    Next w L M (w.setCell ⟨L.sb, k.ix, none⟩ (.slice (L.hd k).a n (L.hd k).c)) (L.withHd k ⟨(L.hd k).a, (L.hd k).c⟩) M' := by
  have hr := (h.rows k rfl).cut n (by omega)
  refine h.newHd' k hs (by rw [hl', List.length_take]; omega) (grownBy_refl _ _) ?_ (.inl rfl)
  rw [hc', List.map_take, ← hc]
  rw [h1, Nat.mul_one] at hr
  rw [h1]
  exact hr
end

end Go.Proofs.Ytminhlpbdpbolaa
