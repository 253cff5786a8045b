/- What the steps of the plain solver leave alone. -/
import Derived.Test.YtminhlpbdpbolaaMir
namespace Go.Proofs.Ytminhlpbdpbolaa.Mir

/-- Alike but for the heap of variables and their places in it. -/
def HeapOnly (M M' : St) : Prop := M' = { M with heap := M'.heap, place := M'.place }
theorem HeapOnly.refl (M : St) : HeapOnly M M := rfl
theorem HeapOnly.trans {a b c : St} (h : HeapOnly a b) (k : HeapOnly b c) : HeapOnly a c := by
  unfold HeapOnly at *
  rw [k, h]

theorem lay_heap {M M1 : St} {v i : Int} (h : lay M v i = some M1) : HeapOnly M M1 := by
  unfold lay at h
  split at h
  · cases h; rfl
  · cases h

theorem upL_heap {k : Nat} {M M1 : St} {v i : Int} (h : upL k M v i = some M1) : HeapOnly M M1 := by
  induction k generalizing M i with
  | zero => cases h
  | succ k ih =>
    unfold upL at h
    split at h
    · simp only [Option.bind_eq_bind, Option.bind_eq_some_iff] at h
      obtain ⟨p, _, b, _, h⟩ := h
      split at h
      · simp only [Option.bind_eq_some_iff] at h
        obtain ⟨M2, h2, h⟩ := h
        exact (lay_heap h2).trans (ih h)
      · exact lay_heap h
    · exact lay_heap h

theorem up_heap {M M1 : St} {i : Int} (h : up M i = some M1) : HeapOnly M M1 := by
  simp only [up, Option.bind_eq_bind, Option.bind_eq_some_iff] at h
  obtain ⟨v, _, h⟩ := h
  exact upL_heap h

theorem downL_heap {k : Nat} {M M1 : St} {v i : Int} (h : downL k M v i = some M1) : HeapOnly M M1 := by
  induction k generalizing M i with
  | zero => cases h
  | succ k ih =>
    unfold downL at h
    split at h
    · simp only [Option.bind_eq_bind, Option.bind_eq_some_iff] at h
      obtain ⟨c, _, x, _, b, _, h⟩ := h
      split at h
      · simp only [Option.bind_eq_some_iff] at h
        obtain ⟨M2, h2, h⟩ := h
        exact (lay_heap h2).trans (ih h)
      · exact lay_heap h
    · exact lay_heap h

theorem down_heap {M M1 : St} {i : Int} (h : down M i = some M1) : HeapOnly M M1 := by
  unfold down at h
  split at h
  · simp only [Option.bind_eq_bind, Option.bind_eq_some_iff] at h
    obtain ⟨v, _, h⟩ := h
    exact downL_heap h
  · cases h

theorem push_heap {M M1 : St} {v : Int} (h : push M v = some M1) : HeapOnly M M1 := by
  simp only [push, Option.bind_eq_bind, Option.bind_eq_some_iff] at h
  obtain ⟨p, _, h⟩ := h
  split at h
  · split at h
    · simp only [Option.bind_eq_some_iff] at h
      obtain ⟨M2, h2, h⟩ := h
      exact (HeapOnly.trans (b := { M with heap := M.heap ++ [v] }) rfl (lay_heap h2)).trans (up_heap h)
    · cases h
  · cases h; rfl

theorem pop_heap {M M1 : St} {v : Int} (h : pop M = some (M1, v)) : HeapOnly M M1 := by
  simp only [pop, Option.bind_eq_bind, Option.bind_eq_some_iff, Option.pure_def] at h
  obtain ⟨x, _, l, _, h⟩ := h
  split at h
  · split at h
    · simp only [Option.bind_eq_some_iff, Option.some.injEq, Prod.mk.injEq] at h
      obtain ⟨M2, h2, M3, h3, rfl, rfl⟩ := h
      exact (HeapOnly.trans (b := { M with heap := M.heap.take (M.heap.length - 1), place := M.place.set x.toNat (-1) }) rfl (lay_heap h2)).trans (down_heap h3)
    · simp only [Option.some.injEq, Prod.mk.injEq] at h
      obtain ⟨rfl, rfl⟩ := h
      rfl
  · cases h

theorem HeapOnly.trail {M M' : St} (h : HeapOnly M M') : M'.trail = M.trail := by rw [h]
theorem HeapOnly.limits {M M' : St} (h : HeapOnly M M') : M'.limits = M.limits := by rw [h]
theorem HeapOnly.vars {M M' : St} (h : HeapOnly M M') : M'.vars = M.vars := by rw [h]
theorem HeapOnly.cls {M M' : St} (h : HeapOnly M M') : M'.cls = M.cls := by rw [h]

theorem unset_keeps {M M1 : St} {n : Int} (h : unset M n = some M1) : M1.trail = M.trail ∧ M1.limits = M.limits ∧ M1.cls = M.cls := by
  unfold unset at h
  split at h
  · simp only [Option.bind_eq_bind, Option.bind_eq_some_iff] at h
    obtain ⟨f, _, h⟩ := h
    have := push_heap h
    exact ⟨this.trail, this.limits, this.cls⟩
  · cases h

theorem unsets_keeps {ns : List Int} {M M1 : St} (h : unsets ns M = some M1) : M1.trail = M.trail ∧ M1.limits = M.limits ∧ M1.cls = M.cls := by
  induction ns generalizing M with
  | nil => cases h; exact ⟨rfl, rfl, rfl⟩
  | cons n ns ih =>
    simp only [unsets, Option.bind_eq_bind, Option.bind_eq_some_iff] at h
    obtain ⟨M2, h2, h⟩ := h
    obtain ⟨a1, a2, a3⟩ := unset_keeps h2
    obtain ⟨b1, b2, b3⟩ := ih h
    exact ⟨b1.trans a1, b2.trans a2, b3.trans a3⟩

end Go.Proofs.Ytminhlpbdpbolaa.Mir
