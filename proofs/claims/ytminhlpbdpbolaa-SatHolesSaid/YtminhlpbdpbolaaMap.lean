/- Maps with whole numbers as keys: asked and written. -/
import Derived.Test.YtminhlpbdpbolaaUpb
import Derived.Maps.Keyed
import Derived.MapKept
namespace Go.Proofs.Ytminhlpbdpbolaa
open Go.RowKit Mir

/-- The entries, keys as numbers. -/
def kv (l : List (Int × Value)) : List (Value × Value) := l.map fun e => (vi e.1, e.2)

def lookV (l : List (Int × Value)) (k : Int) : Option Value := (l.find? fun e => e.1 == k).map (·.2)
def putV : List (Int × Value) → Int → Value → List (Int × Value)
  | [], k, x => [(k, x)]
  | e :: r, k, x => if e.1 = k then (k, x) :: r else e :: putV r k x

def posV : List (Int × Value) → Int → Nat → Option (Nat × Value)
  | [], _, _ => none
  | e :: r, k, i => if k = e.1 then some (i, e.2) else posV r k (i + 1)

theorem findNow_posV (es : List MapEntry) (l : List (Int × Value)) (h : es.map (fun e => (e.key, e.val)) = kv l) (k : Int) (i : Nat) : Instr.findNow (.int .i64) (vi k) es i = some (posV l k i) := by
  induction l generalizing es i with
  | nil =>
    simp only [kv, List.map_nil, List.map_eq_nil_iff] at h
    subst h
    rfl
  | cons e l ih =>
    cases es with
    | nil => simp [kv] at h
    | cons x es =>
      simp only [kv, List.map_cons, List.cons.injEq, Prod.mk.injEq] at h
      obtain ⟨⟨h1, h2⟩, h3⟩ := h
      by_cases hk : k = e.1
      · simp [Instr.findNow, h1, h2, Instr.sameNow, posV, hk]
      · have hb : (k == e.1) = false := by simpa using hk
        simp [Instr.findNow, h1, Instr.sameNow, posV, hk, hb, ih es h3]

theorem posV_look (l : List (Int × Value)) (k : Int) (i : Nat) : (posV l k i).map (·.2) = lookV l k := by
  induction l generalizing i with
  | nil => rfl
  | cons e l ih =>
    by_cases hk : k = e.1
    · simp [posV, lookV, hk]
    · have hb : (e.1 == k) = false := by simpa using fun h => hk h.symm
      have := ih (i + 1)
      simp only [posV, if_neg hk, lookV, List.find?_cons, hb] at this ⊢
      exact this

theorem posV_some (l : List (Int × Value)) (k : Int) (i j : Nat) (v : Value) (h : posV l k i = some (j, v)) (x : Value) :
    i ≤ j ∧ j - i < l.length ∧ l[j - i]? = some (k, v) ∧ putV l k x = l.set (j - i) (k, x) := by
  induction l generalizing i with
  | nil => cases h
  | cons e l ih =>
    unfold posV at h
    split at h
    · rename_i hk
      subst hk
      cases h
      simp [putV]
    · rename_i hk
      obtain ⟨h1, h2, h3, h4⟩ := ih (i + 1) h
      have e1 : j - i = (j - (i + 1)) + 1 := by omega
      have hk' : ¬ e.1 = k := fun h => hk h.symm
      refine ⟨by omega, by simp; omega, by rw [e1]; simpa using h3, by rw [e1]; simp [putV, hk', h4]⟩

theorem posV_none (l : List (Int × Value)) (k : Int) (i : Nat) (h : posV l k i = none) (x : Value) : putV l k x = l ++ [(k, x)] := by
  induction l generalizing i with
  | nil => rfl
  | cons e l ih =>
    unfold posV at h
    split at h
    · cases h
    · rename_i hk
      have hk' : ¬ e.1 = k := fun h => hk h.symm
      simp [putV, hk', ih _ h]

section
variable {P : Program} {w : World} {b : Nat} {l : List (Int × Value)} {t kt et : TypeId}

theorem Mp.lookup (h : Mp w b (kv l)) (ht : P.underlying t = some (.map kt et)) (hk : P.underlying kt = some (.int .i64)) {z : Value} (hz : (zeroValue et).run P w = .ok z w) (k : Int) :
    (Instr.lookup t (.map (some b)) (vi k) false).run P w = .ok ((lookV l k).getD z) w := by
  obtain ⟨es, ck, hb, hes⟩ := h
  have h1 := MapKept.run_findKey (P := P) (w := w) (kt := kt) (k := vi k) hk (findNow_posV es.toList l hes k 0)
  have h2 := MapKept.run_checkKey (P := P) (w := w) (kt := kt) (d := .int .i64) (k := vi k) hk (by simp [MapKept.IsKey]) es.isEmpty 9999
  have h3 := posV_look l k 0
  simp only [Instr.lookup, Sem.run_bind, run_underlying ht, Result.andThen, MapKept.run_getObj_map hb, Sem.run_pure, h2, h1]
  cases hp : posV l k 0 with
  | none => rw [hp] at h3; simp [← h3, hz, Result.andThen]
  | some p => rw [hp] at h3; simp [← h3]

/-- What a store into a map changes: that block alone. -/
structure MpSet (w : World) (b : Nat) (w' : World) : Prop where
  os : w'.os = w.os
  output : w'.output = w.output
  size : w'.heap.size = w.heap.size
  block : ∀ k, k ≠ b → w'.heap[k]? = w.heap[k]?

theorem Mp.update (h : Mp w b (kv l)) (ht : P.underlying t = some (.map kt et)) (hk : P.underlying kt = some (.int .i64)) (k : Int) (x : Value) :
    ∃ w', (Instr.mapUpdate t (.map (some b)) (vi k) x).run P w = .ok () w' ∧ Mp w' b (kv (putV l k x)) ∧ MpSet w b w' := by
  obtain ⟨es, ck, hb, hes⟩ := h
  have hlt : b < w.heap.size := (Array.getElem?_eq_some_iff.1 hb).1
  have h1 := MapKept.run_findKey (P := P) (w := w) (kt := kt) (k := vi k) hk (findNow_posV es.toList l hes k 0)
  have h2 := MapKept.run_checkKey (P := P) (w := w) (kt := kt) (d := .int .i64) (k := vi k) hk (by simp [MapKept.IsKey]) false 9999
  have set : ∀ o : Obj, MpSet w b { w with heap := w.heap.setIfInBounds b o } := fun o => ⟨rfl, rfl, by simp, fun k' hk' => by simp [Ne.symm hk']⟩
  cases hp : posV l k 0 with
  | none =>
    rw [hp] at h1
    refine ⟨{ w with heap := w.heap.setIfInBounds b (.map (es.push ⟨vi k, x, ck⟩) (ck + 1)) }, by simp [Instr.mapUpdate, run_underlying ht, MapKept.run_getObj_map hb, h2, h1, MapKept.run_setObj_map _ hb, Result.andThen], ⟨es.push ⟨vi k, x, ck⟩, ck + 1, by simp [hlt], ?_⟩, set _⟩
    rw [posV_none l k 0 hp]
    simp [kv, ← hes]
    simpa [kv] using hes
  | some p =>
    obtain ⟨j, v⟩ := p
    rw [hp] at h1
    obtain ⟨_, j1, j2, j3⟩ := posV_some l k 0 j v hp x
    simp only [Nat.sub_zero] at j1 j2 j3
    have hlen : es.size = l.length := by have := congrArg List.length hes; simpa [kv] using this
    have hj : j < es.size := by omega
    have hkey : es[j].key = vi k := by
      have := congrArg (fun q => q[j]?) hes
      simp only [kv, List.getElem?_map, j2] at this
      simp [hj] at this
      exact this.1
    have hst : (Instr.keyThatStays es[j].key (vi k)).run P w = .ok (vi k) w := by rw [hkey]; exact MapKept.run_keyThatStays (d := .int .i64) (by simp [MapKept.IsKey])
    refine ⟨{ w with heap := w.heap.setIfInBounds b (.map (es.modify j fun e => { e with key := vi k, val := x }) ck) }, by simp [Instr.mapUpdate, run_underlying ht, MapKept.run_getObj_map hb, h2, h1, hj, hst, MapKept.run_setObj_map _ hb, Result.andThen], ⟨es.modify j fun e => { e with key := vi k, val := x }, ck, by simp [hlt], ?_⟩, set _⟩
    rw [j3]
    apply List.ext_getElem?
    intro i
    have he := congrArg (fun q => q[i]?) hes
    simp only [kv, List.getElem?_map] at he ⊢
    simp only [Array.toList_modify, List.getElem?_modify, List.getElem?_set]
    by_cases e : j = i
    · subst e
      simp [j1, hj]
    · simp only [e, if_false]
      simpa using he
end


/-! ### The watches -/

def watV (L : Lay) (l : List (Int × List Nat)) : List (Int × Value) := l.map fun e => (e.1, hdv (L.wv e.1) e.2.length)
theorem watCells_kv (L : Lay) (l : List (Int × List Nat)) : watCells L l = kv (watV L l) := by simp [watCells, kv, watV]

theorem lookV_watV (L : Lay) (l : List (Int × List Nat)) (k : Int) : lookV (watV L l) k = (l.find? fun e => e.1 == k).map fun e => hdv (L.wv e.1) e.2.length := by
  induction l with
  | nil => rfl
  | cons e l ih =>
    by_cases h : e.1 == k
    · simp [lookV, watV, h]
    · simp only [lookV, watV, List.map_cons, List.find?_cons, h] at ih ⊢
      exact ih

/-- The list of a key, as the map gives it: nil where there is none. -/
def watHd (L : Lay) (l : List (Int × List Nat)) (k : Int) : Hd := match l.find? fun e => e.1 == k with | some _ => L.wv k | none => ⟨none, 0⟩

theorem look_val (L : Lay) (l : List (Int × List Nat)) (k : Int) : (lookV (watV L l) k).getD (.slice none 0 0) = hdv (watHd L l k) (Mir.look l k).length := by
  rw [lookV_watV]
  unfold watHd Mir.look
  cases h : l.find? fun e => e.1 == k with
  | none => rfl
  | some e =>
    have hk : e.1 = k := by simpa using List.find?_some h
    simp [hk]

theorem Try.zero51 (w : World) : (zeroValue 51).run Try.prog w = .ok (.slice none 0 0) w := by kernel_rfl

section
variable {w : World} {L : Lay} {M : St}

theorem Rep.look (h : Rep w L M) (k : Int) : (Instr.lookup 50 (.map (some L.mb)) (vi k) false).run Try.prog w = .ok (hdv (watHd L M.wat k) (Mir.look M.wat k).length) w := by
  have hm := h.wat rfl
  rw [watCells_kv] at hm
  rw [hm.lookup Try.underlying50 Try.underlying3 (Try.zero51 w) k, look_val]

theorem Rep.lookRow (h : Rep w L M) (k : Int) : WRow w (watHd L M.wat k).a (Mir.look M.wat k).length (watHd L M.wat k).c ((Mir.look M.wat k).map (ptr L.cb)) ∧ hasRole L.ro (watHd L M.wat k).a (.wl k) := by
  unfold watHd Mir.look
  cases hf : M.wat.find? fun e => e.1 == k with
  | none => exact ⟨.inl (Row.nil _ _ _), fun g hg => by cases hg⟩
  | some e =>
    have hk : e.1 = k := by simpa using List.find?_some hf
    have hm : (k, e.2) ∈ M.wat := by rw [← hk]; exact List.mem_of_find?_eq_some hf
    exact ⟨h.wl k e.2 hm rfl, h.rwl k e.2 hm⟩
end

end Go.Proofs.Ytminhlpbdpbolaa
