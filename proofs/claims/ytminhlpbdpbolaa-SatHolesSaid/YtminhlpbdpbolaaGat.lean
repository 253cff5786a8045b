/- What a call of learn holds of its own: a row of literals and a map of variables seen. -/
import Derived.Test.YtminhlpbdpbolaaLef
import Derived.Test.YtminhlpbdpbolaaWk
namespace Go.Proofs.Ytminhlpbdpbolaa
open Go.RowKit Mir

/-- The entries of a set of numbers: last seen, first in the list. -/
def seenV (s : List Int) : List (Int × Value) := s.reverse.map fun v => (v, .bool true)

theorem lookV_seen (s : List Int) (k : Int) : (lookV (seenV s) k).getD (.bool false) = .bool (decide (k ∈ s)) := by
  have h : ∀ l : List Int, (lookV (l.map fun v => (v, Value.bool true)) k).getD (.bool false) = .bool (decide (k ∈ l)) := by
    intro l
    induction l with
    | nil => rfl
    | cons x l ih =>
      by_cases e : x = k
      · subst e; simp [lookV]
      · have e2 : (x == k) = false := by simpa using e
        have e3 : ¬ k = x := fun q => e q.symm
        simp only [lookV, List.map_cons, List.find?_cons, e2] at ih ⊢
        rw [ih]
        simp [e3]
  rw [seenV, h]
  simp

theorem putV_seen {s : List Int} {k : Int} (h : k ∉ s) : putV (seenV s) k (.bool true) = seenV (k :: s) := by
  have q : ∀ l : List Int, k ∉ l → putV (l.map fun v => (v, Value.bool true)) k (.bool true) = (l ++ [k]).map fun v => (v, Value.bool true) := by
    intro l
    induction l with
    | nil => intro _; rfl
    | cons x l ih =>
      intro hx
      have e : ¬ x = k := fun q => hx (by simp [q])
      simp only [List.map_cons, putV, if_neg e, List.cons_append]
      rw [ih (fun q => hx (by simp [q]))]
  rw [seenV, q _ (by simpa using h)]
  simp [seenV]

theorem used_keeps {M M1 : St} {v : Int} (h : Mir.used M v = some M1) : M1.cls = M.cls ∧ M1.trail = M.trail ∧ M1.limits = M.limits ∧ M1.conflicts = M.conflicts := by
  have key : ∀ (Ma Mb : St), (Mir.gi Mb.vars v).bind (fun g => if 1099511627776 < g.score then some (rescale Mb) else some Mb) = some M1 → HeapOnly Ma Mb → M1.cls = Ma.cls ∧ M1.trail = Ma.trail ∧ M1.limits = Ma.limits ∧ M1.conflicts = Ma.conflicts := by
    intro Ma Mb q hh
    simp only [Option.bind_eq_some_iff] at q
    obtain ⟨g, _, q⟩ := q
    have c : Mb.conflicts = Ma.conflicts := by rw [hh]
    split at q
    · cases q; exact ⟨hh.cls, hh.trail, hh.limits, c⟩
    · cases q; exact ⟨hh.cls, hh.trail, hh.limits, c⟩
  simp only [Mir.used, Option.bind_eq_bind, Option.bind_eq_some_iff] at h
  obtain ⟨f, hf, h⟩ := h
  by_cases hsm : small f.score = true ∧ small M.bump = true
  case neg => rw [if_neg hsm] at h; cases h
  rw [if_pos hsm] at h
  simp only [Option.bind_eq_some_iff] at h
  obtain ⟨p, hp, h⟩ := h
  by_cases h0 : 0 ≤ p
  · rw [if_pos h0] at h
    simp only [Option.bind_eq_some_iff] at h
    obtain ⟨M2, q1, q2⟩ := h
    exact key { M with vars := M.vars.set v.toNat { f with score := f.score + M.bump } } M2 (by simpa [Option.bind_eq_some_iff] using q2) (up_heap q1)
  · rw [if_neg h0] at h
    simp only [Option.pure_def, Option.bind_some] at h
    exact key { M with vars := M.vars.set v.toNat { f with score := f.score + M.bump } } _ h (HeapOnly.refl _)

/-- What learn holds of its own, beside the solver. -/
structure Held (w0 w : World) (L : Lay) (a : Option Addr) (c mb : Nat) (out seen : List Int) : Prop where
  row : Row w 3 1 a out.length c (out.map vi)
  own : Own w0 L a
  map : Mp w mb (kv (seenV seen))
  new : L.ro mb = none ∧ w0.heap.size ≤ mb

theorem Held.next {w0 w w' : World} {L L' : Lay} {M M' : St} {a : Option Addr} {c mb : Nat} {out seen : List Int} (h : Held w0 w L a c mb out seen) (q : Next w L M w' L' M') : Held w0 w' L' a c mb out seen := by
  obtain ⟨r1, r2⟩ := q.keepRow h.row h.own
  obtain ⟨es, ck, h1, h2⟩ := h.map
  have hlt : mb < w.heap.size := (Array.getElem?_eq_some_iff.1 h1).1
  exact ⟨r1, r2, ⟨es, ck, (q.fr.block mb hlt h.new.1).trans h1, h2⟩, (q.ext.ro mb hlt).trans h.new.1, h.new.2⟩

theorem Held.drewN {w0 w : World} {L : Lay} {a : Option Addr} {c mb : Nat} {out seen : List Int} (h : Held w0 w L a c mb out seen) (d : Nat) : Held w0 (w.drewN d) L a c mb out seen :=
  ⟨h.row, h.own, h.map, h.new⟩

/-- A row and a map do not share a block. -/
theorem Held.ne {w0 w : World} {L : Lay} {a : Option Addr} {c mb : Nat} {out seen : List Int} (h : Held w0 w L a c mb out seen) : ∀ g, blk a = some g → g ≠ mb := by
  intro g hg e
  subst e
  obtain ⟨es, ck, h1, _⟩ := h.map
  rcases h.row.2 with ⟨rfl, _⟩ | ⟨g', cur, rfl, hh, _⟩
  · cases hg
  · cases hg
    rw [h1] at hh
    cases hh

theorem Held.look {w0 w : World} {L : Lay} {a : Option Addr} {c mb : Nat} {out seen : List Int} (h : Held w0 w L a c mb out seen) (ht : Try.prog.underlying 80 = some (.map 3 4)) (hz : ∀ w, (zeroValue 4).run Try.prog w = .ok (.bool false) w) (k : Int) :
    (Instr.lookup 80 (.map (some mb)) (.int .i64 k) false).run Try.prog w = .ok (.bool (decide (k ∈ seen))) w := by
  have q := h.map.lookup ht Try.underlying3 (hz w) k
  rw [lookV_seen] at q
  exact q

/-- A map of the call's own is written. -/
theorem Next.sideMap {w0 w w3 : World} {L0 L : Lay} {M0 M : St} (hn : Next w0 L0 M0 w L M) {mb : Nat} (hs : MpSet w mb w3) (hr : L.ro mb = none ∧ w0.heap.size ≤ mb) : Next w0 L0 M0 w3 L M := by
  have hb : ∀ b r, L.ro b = some r → w3.heap[b]? = w.heap[b]? := fun b r hr' => hs.block b fun e => by
    rw [e, hr.1] at hr'
    cases hr'
  refine ⟨hn.rep.touch (fun _ h => h) (by rw [hs.size]; exact Nat.le_refl _) fun b r _ h2 _ => hb b r h2, ⟨hs.os.trans hn.fr.os, hs.output.trans hn.fr.output, by rw [hs.size]; exact hn.fr.size, fun b h1 h2 => ?_⟩, hn.ext, hn.cls⟩
  rw [hs.block b (by have := hr.2; omega)]
  exact hn.fr.block b h1 h2

/-- One more that is seen. -/
theorem Held.see {w0 w : World} {L0 L : Lay} {M0 M : St} (hn : Next w0 L0 M0 w L M) {a : Option Addr} {c mb : Nat} {out seen : List Int} (h : Held w0 w L a c mb out seen) (ht : Try.prog.underlying 80 = some (.map 3 4)) {k : Int} (hk : k ∉ seen) :
    ∃ w3, (Instr.mapUpdate 80 (.map (some mb)) (.int .i64 k) (.bool true)).run Try.prog w = .ok () w3 ∧ Next w0 L0 M0 w3 L M ∧ Held w0 w3 L a c mb out (k :: seen) := by
  obtain ⟨w3, hup, hmp, hset⟩ := h.map.update ht Try.underlying3 k (.bool true)
  rw [putV_seen hk] at hmp
  exact ⟨w3, hup, hn.sideMap hset h.new, ⟨h.row.keep fun g hg => hset.block g (h.ne g hg), h.own, hmp, h.new⟩⟩

section
variable {w0 w : World} {L0 L : Lay} {M0 M : St} {ops : Array Oper} {rest : List Oper} {o : Oper} {a : Act} {Q : Exit → Act → World → Prop}

/-- One more literal. -/
theorem app_out (hn : Next w0 L0 M0 w L M) {a0 : Option Addr} {c mb k : Nat} {out seen : List Int} (h : Held w0 w L a0 c mb out seen) (hk : k = out.length)
    (hgd : o.guard = none) (s x : Operand) (ho : o.op = .call { callee := .builtin .append, args := #[s, x], argTypes := #[23, 23] }) (hs : a.eval s = .slice a0 k c) (m : Int)
    {g : Nat} (hx : a.eval x = .slice (some ⟨g, 0, none⟩) 1 1) (hgs : g = w.heap.size) (hl : k < LIM)
    (hq : ∀ a' c' w', Next w0 L0 M0 w' L M → Held w0 w' L a' c' mb (out ++ [m]) seen → wpList Try.prog ops Q rest (a.put o.dst (.slice a' (k + 1) c')) w') :
    wpList Try.prog ops Q (o :: rest) a (w.alloc (.cells #[.int .i64 m] 3)) := by
  subst hk
  refine app_int hgd s x ho a0 out.length c out hs h.row m hx hgs hl ?_
  intro a' c' w' hr hg hnew
  obtain ⟨hn2, _⟩ := hn.side hg fun g hg' => h.own g hg'
  obtain ⟨es, ck, h1, h2⟩ := h.map
  have hlt : mb < w.heap.size := (Array.getElem?_eq_some_iff.1 h1).1
  refine hq a' c' w' hn2 ⟨by simpa using hr, ?_, ⟨es, ck, (hg.block mb hlt fun e => h.ne mb e.symm rfl).trans h1, h2⟩, h.new⟩
  rcases hnew with rfl | ⟨g, rfl, hge⟩
  · exact h.own
  · exact hn.newOwn hge
end

/-- A literal is written. -/
theorem Held.set {w0 w : World} {L0 L : Lay} {M0 M : St} (hn : Next w0 L0 M0 w L M) {g c mb : Nat} {out seen : List Int} (h : Held w0 w L (some ⟨g, 0, none⟩) c mb out seen) (j : Nat) (hj : j < out.length) (x : Int) :
    Next w0 L0 M0 (w.setCell ⟨g, j, none⟩ (.int .i64 x)) L M ∧ Held w0 (w.setCell ⟨g, j, none⟩ (.int .i64 x)) L (some ⟨g, 0, none⟩) c mb (out.set j x) seen := by
  have hg := h.own g rfl
  have hm := h.ne g rfl
  have r := h.row.set j (by simpa using hj) (vi x)
  have hr : Rep (w.setCell ⟨g, j, none⟩ (.int .i64 x)) L M := hn.rep.touch (fun _ h => h) (by simp) fun b r _ h2 _ => getElem?_setCell_other _ _ _ _ (by rintro rfl; rw [hg.1] at h2; cases h2)
  have hf : Fr L0.ro w0 (w.setCell ⟨g, j, none⟩ (.int .i64 x)) := hn.fr.setCell (p := ⟨g, j, none⟩) (fun q => absurd hg.2 (Nat.not_le_of_lt q)) _
  refine ⟨⟨hr, hf, hn.ext, hn.cls⟩, ?_⟩
  obtain ⟨es, ck, h1, h2⟩ := h.map
  exact ⟨by simpa [List.map_set] using r, h.own, ⟨es, ck, (getElem?_setCell_other _ _ _ _ (Ne.symm hm)).trans h1, h2⟩, h.new⟩

end Go.Proofs.Ytminhlpbdpbolaa
