/- A solver without clauses: New. -/
import Derived.Test.YtminhlpbdpbolaaWw
namespace Go.Proofs.Ytminhlpbdpbolaa
open Go.RowKit Mir

def newLay (s : Nat) : Lay where
  sb := s + 3
  ro := fun b => if b = s then some (.fld .vars) else if b = s + 1 then some (.fld .place) else if b = s + 2 then some .wmap else if b = s + 3 then some .slv else none
  cb := fun _ => 0
  hd := fun k => match k with | .vars => ⟨some ⟨s, 0, none⟩, 1⟩ | .place => ⟨some ⟨s + 1, 0, none⟩, 1⟩ | _ => ⟨none, 0⟩
  mb := s + 2
  wv := fun _ => ⟨none, 0⟩
  lv := fun _ => ⟨none, 0⟩

def newWorld (w : World) : World :=
  (((w.alloc (.cells #[.int .i64 0, .int .i64 0, .pointer none, .int .i64 0, .int .i64 0] 78)).alloc (.cells #[.int .i64 (-1)] 3)).alloc (.map #[] 0)).alloc
    (.cells #[.slice (some ⟨w.heap.size, 0, none⟩) 1 1, .slice none 0 0, .slice (some ⟨w.heap.size + 1, 0, none⟩) 1 1, .map (some (w.heap.size + 2)), .slice none 0 0, .slice none 0 0, .slice none 0 0, .int .i64 0, .int .i64 0, .int .i64 0, .int .i64 1, .bool false] 53)

theorem newWorld_blocks (w : World) : (newWorld w).heap[w.heap.size]? = some (.cells #[.int .i64 0, .int .i64 0, .pointer none, .int .i64 0, .int .i64 0] 78 (0, 0)) ∧ (newWorld w).heap[w.heap.size + 1]? = some (.cells #[.int .i64 (-1)] 3 (0, 0)) ∧
    (newWorld w).heap[w.heap.size + 2]? = some (.map #[] 0) ∧ (newWorld w).heap[w.heap.size + 3]? = some (.cells #[.slice (some ⟨w.heap.size, 0, none⟩) 1 1, .slice none 0 0, .slice (some ⟨w.heap.size + 1, 0, none⟩) 1 1, .map (some (w.heap.size + 2)), .slice none 0 0, .slice none 0 0, .slice none 0 0, .int .i64 0, .int .i64 0, .int .i64 0, .int .i64 1, .bool false] 53 (0, 0)) ∧ (newWorld w).heap.size = w.heap.size + 4 := by
  unfold newWorld
  refine ⟨?_, ?_, ?_, ?_, by simp⟩
  · rw [Below.heap_alloc _ _ _ (by simp only [World.size_alloc]; omega), Below.heap_alloc _ _ _ (by simp only [World.size_alloc]; omega), Below.heap_alloc _ _ _ (by simp only [World.size_alloc]; omega)]
    exact heap_alloc_new w _
  · rw [Below.heap_alloc _ _ _ (by simp only [World.size_alloc]; omega), Below.heap_alloc _ _ _ (by simp only [World.size_alloc]; omega)]
    simpa using heap_alloc_new (w.alloc (.cells #[.int .i64 0, .int .i64 0, .pointer none, .int .i64 0, .int .i64 0] 78)) (.cells #[.int .i64 (-1)] 3)
  · rw [Below.heap_alloc _ _ _ (by simp)]
    simpa using heap_alloc_new ((w.alloc (.cells #[.int .i64 0, .int .i64 0, .pointer none, .int .i64 0, .int .i64 0] 78)).alloc (.cells #[.int .i64 (-1)] 3)) (.map #[] 0)
  · simpa using heap_alloc_new (((w.alloc (.cells #[.int .i64 0, .int .i64 0, .pointer none, .int .i64 0, .int .i64 0] 78)).alloc (.cells #[.int .i64 (-1)] 3)).alloc (.map #[] 0)) (.cells #[.slice (some ⟨w.heap.size, 0, none⟩) 1 1, .slice none 0 0, .slice (some ⟨w.heap.size + 1, 0, none⟩) 1 1, .map (some (w.heap.size + 2)), .slice none 0 0, .slice none 0 0, .slice none 0 0, .int .i64 0, .int .i64 0, .int .i64 0, .int .i64 1, .bool false] 53)

theorem newRep (w : World) : Rep (newWorld w) (newLay w.heap.size) news := by
  obtain ⟨b0, b1, b2, b3, bs⟩ := newWorld_blocks w
  have n1 : w.heap.size + 1 ≠ w.heap.size := by omega
  have n2 : w.heap.size + 2 ≠ w.heap.size := by omega
  have n3 : w.heap.size + 3 ≠ w.heap.size := by omega
  refine ⟨fun _ => ⟨53, b3⟩, by simp [newLay], fun k _ => ?_, fun k g hg => ?_, fun _ => ⟨#[], 0, b2, rfl⟩, by simp [newLay], by simp [news], fun k ids hm => by simp [news] at hm, fun k ids hm => by simp [news] at hm,
    fun id c hc => by simp [news] at hc, fun id hi => by simp [news] at hi, fun id c hc => by simp [news] at hc, fun id hi => by simp [news] at hi, fun b hb => ?_, ?_⟩
  · cases k <;> first
      | exact ⟨rfl, .inl ⟨rfl, rfl, rfl⟩⟩
      | exact ⟨rfl, .inr ⟨w.heap.size, #[.int .i64 0, .int .i64 0, .pointer none, .int .i64 0, .int .i64 0], rfl, b0, Nat.le_refl 1, by simp [maxLen, newLay], rfl, rfl⟩⟩
      | exact ⟨rfl, .inr ⟨w.heap.size + 1, #[.int .i64 (-1)], rfl, b1, Nat.le_refl 1, by simp [maxLen, newLay], rfl, rfl⟩⟩
  · cases k <;> simp [newLay, blk] at hg ⊢
    · simp [hg]
    · simp [← hg]
  · simp only [newLay] at hb
    rw [bs]
    by_cases h0 : b = w.heap.size
    · omega
    · by_cases h1 : b = w.heap.size + 1
      · omega
      · by_cases h2 : b = w.heap.size + 2
        · omega
        · by_cases h3 : b = w.heap.size + 3
          · omega
          · simp [h0, h1, h2, h3] at hb
  · simp [news]

theorem newOff (w : World) (b : Nat) (h : b < w.heap.size) : (newLay w.heap.size).ro b = none := by
  simp only [newLay]
  rw [if_neg (by omega), if_neg (by omega), if_neg (by omega), if_neg (by omega)]

theorem newKept (w : World) : Kept w (newWorld w) := ((((Fr.refl _ _).alloc _).alloc _).alloc _).alloc _

set_option maxHeartbeats 400000 in
set_option maxRecDepth 100000 in
theorem new_c (w : World) : Calls Try.prog 18 #[] w fun e w' => e = .returned (.pointer (some ⟨w.heap.size + 3, 0, none⟩)) ∧ newWorld w = w' := by
  have hms : ∀ w, (Instr.makeSlice 49 (.int .i64 1) (.int .i64 1)).run Try.prog w = .ok (.slice (some ⟨w.heap.size, 0, none⟩) 1 1) (w.alloc (.cells #[.int .i64 0, .int .i64 0, .pointer none, .int .i64 0, .int .i64 0] 78)) := fun w => by kernel_rfl
  have hmk : ∀ w, (Instr.makeMap 50 none).run Try.prog w = .ok (.map (some w.heap.size)) (w.alloc (.map #[] 0)) := fun w => mk_map 50 w
  go_enter Try.func18, Try.ntmps18
  go_wp2
  go_ret
  exact ⟨rfl, rfl⟩

end Go.Proofs.Ytminhlpbdpbolaa
