/- How a solver of the plain text lies in memory: its blocks, their roles, and what each step may change. -/
import Derived.Test.YtminhlpbdpbolaaBase
import Derived.Test.YtminhlpbdpbolaaMir
namespace Go.Proofs.Ytminhlpbdpbolaa
open Go.RowKit Mir

/-- A solver's slices. -/
inductive K where
  | vars | heap | place | learnt | trail | limits
  deriving DecidableEq

inductive Role where
  | slv | fld (k : K) | wmap
  | wl (k : Int) | cl (id : Nat) | lits (id : Nat)
  deriving DecidableEq

/-- A slice's address and capacity. -/
structure Hd where
  a : Option Addr
  c : Nat

structure Lay where
  sb : Nat
  ro : Nat → Option Role
  cb : Nat → Nat
  hd : K → Hd
  mb : Nat
  wv : Int → Hd
  lv : Nat → Hd

abbrev vi (n : Int) : Value := .int .i64 n
def ptr (cb : Nat → Nat) (id : Nat) : Value := .pointer (some ⟨cb id, 0, none⟩)
def paddr (cb : Nat → Nat) : Option Nat → Option Addr
  | none => none
  | some id => some ⟨cb id, 0, none⟩
def ptrO (cb : Nat → Nat) (o : Option Nat) : Value := .pointer (paddr cb o)
def factCells (cb : Nat → Nat) (f : Fact) : List Value := [vi f.lit, vi f.level, ptrO cb f.reason, vi f.score, vi f.phase]

/-- An element's type, and its cells. -/
def K.E : K → Nat | .vars => 78 | .learnt => 54 | _ => 3
def K.sz : K → Nat | .vars => 5 | _ => 1
def K.T : K → Nat | .vars => 49 | .learnt => 51 | _ => 23
/-- Which of the solver's cells holds the slice. -/
def K.ix : K → Nat | .vars => 0 | .heap => 1 | .place => 2 | .learnt => 4 | .trail => 5 | .limits => 6
def lenOf (M : St) : K → Nat
  | .vars => M.vars.length | .heap => M.heap.length | .place => M.place.length
  | .learnt => M.learnt.length | .trail => M.trail.length | .limits => M.limits.length
def cellsOf (cb : Nat → Nat) (M : St) : K → List Value
  | .vars => M.vars.flatMap (factCells cb) | .heap => M.heap.map vi | .place => M.place.map vi
  | .learnt => M.learnt.map (ptr cb) | .trail => M.trail.map vi | .limits => M.limits.map vi

def hdv (h : Hd) (n : Nat) : Value := .slice h.a n h.c
def slvCells (L : Lay) (M : St) : List Value :=
  [hdv (L.hd .vars) M.vars.length, hdv (L.hd .heap) M.heap.length, hdv (L.hd .place) M.place.length, .map (some L.mb),
    hdv (L.hd .learnt) M.learnt.length, hdv (L.hd .trail) M.trail.length, hdv (L.hd .limits) M.limits.length,
    vi M.head, vi M.conflicts, vi M.added, vi M.bump, .bool M.broken]
def clCells (h : Hd) (c : Cl) : List Value := [hdv h c.lits.length, .bool c.learnt, vi c.score]
def watCells (L : Lay) (l : List (Int × List Nat)) : List (Value × Value) := l.map fun e => (vi e.1, hdv (L.wv e.1) e.2.length)

/-- A block that holds just these cells. -/
def Blk (w : World) (b : Nat) (xs : List Value) : Prop := ∃ E, w.heap[b]? = some (.cells xs.toArray E (0, 0))
/-- A block that is a map with just these entries, in their order. -/
def Mp (w : World) (b : Nat) (xs : List (Value × Value)) : Prop := ∃ es ck, w.heap[b]? = some (.map es ck) ∧ es.toList.map (fun e => (e.key, e.val)) = xs

/-- A list of the watches: a row, or an empty slice without capacity, wherever it points. -/
def WRow (w : World) (a : Option Addr) (n c : Nat) (xs : List Value) : Prop := Row w 54 1 a n c xs ∨ (n = 0 ∧ c = 0 ∧ xs = [])
theorem WRow.keep {w w' : World} {a : Option Addr} {n c : Nat} {xs : List Value} (h : WRow w a n c xs) (hb : ∀ g, blk a = some g → w'.heap[g]? = w.heap[g]?) : WRow w' a n c xs :=
  h.imp (fun h => h.keep hb) id

def hasRole (ro : Nat → Option Role) (a : Option Addr) (r : Role) : Prop := ∀ g, blk a = some g → ro g = some r

/-- All but the parts of the roles X. -/
structure RepX (X : Role → Bool) (w : World) (L : Lay) (M : St) : Prop where
  slv : X .slv = false → Blk w L.sb (slvCells L M)
  rslv : L.ro L.sb = some .slv
  rows : ∀ k, X (.fld k) = false → Row w k.E k.sz (L.hd k).a (lenOf M k) (L.hd k).c (cellsOf L.cb M k)
  rrows : ∀ k, hasRole L.ro (L.hd k).a (.fld k)
  wat : X .wmap = false → Mp w L.mb (watCells L M.wat)
  rwat : L.ro L.mb = some .wmap
  keys : (M.wat.map (·.1)).Nodup
  wl : ∀ k ids, (k, ids) ∈ M.wat → X (.wl k) = false → WRow w (L.wv k).a ids.length (L.wv k).c (ids.map (ptr L.cb))
  rwl : ∀ k ids, (k, ids) ∈ M.wat → hasRole L.ro (L.wv k).a (.wl k)
  cl : ∀ id c, M.cls[id]? = some c → X (.cl id) = false → Blk w (L.cb id) (clCells (L.lv id) c)
  rcl : ∀ id, id < M.cls.length → L.ro (L.cb id) = some (.cl id)
  lits : ∀ id c, M.cls[id]? = some c → X (.lits id) = false → Row w 3 1 (L.lv id).a c.lits.length (L.lv id).c (c.lits.map vi)
  rlits : ∀ id, id < M.cls.length → hasRole L.ro (L.lv id).a (.lits id)
  fresh : ∀ b, L.ro b ≠ none → b < w.heap.size
  ids : (∀ f ∈ M.vars, ∀ r, f.reason = some r → r < M.cls.length) ∧ (∀ e ∈ M.wat, ∀ id ∈ e.2, id < M.cls.length) ∧ ∀ id ∈ M.learnt, id < M.cls.length

def nox : Role → Bool := fun _ => false
abbrev Rep := RepX nox

theorem RepX.of_heap {X : Role → Bool} {w w' : World} {L : Lay} {M : St} (h : RepX X w L M) (e : w'.heap = w.heap) : RepX X w' L M := by
  have hr : ∀ {E sz a n c xs}, Row w E sz a n c xs → Row w' E sz a n c xs := fun h => h.keep fun g _ => by rw [e]
  have hbk : ∀ {b xs}, Blk w b xs → Blk w' b xs := fun ⟨E, h⟩ => ⟨E, by rw [e]; exact h⟩
  exact ⟨fun x => hbk (h.slv x), h.rslv, fun k x => hr (h.rows k x), h.rrows, fun x => let ⟨es, ck, h1, h2⟩ := h.wat x; ⟨es, ck, by rw [e]; exact h1, h2⟩, h.rwat, h.keys,
    fun k ids hm x => (h.wl k ids hm x).keep fun g _ => by rw [e], h.rwl, fun id c hc x => hbk (h.cl id c hc x), h.rcl, fun id c hc x => hr (h.lits id c hc x), h.rlits, fun b hb => by rw [e]; exact h.fresh b hb, h.ids⟩

theorem RepX.drewN {X : Role → Bool} {w : World} {L : Lay} {M : St} (h : RepX X w L M) (n : Nat) : RepX X (w.drewN n) L M := h.of_heap rfl

/-- Another world, in which all blocks but those of the roles X are as they were. -/
theorem RepX.touch {X X' : Role → Bool} {w w' : World} {L : Lay} {M : St} (h : RepX X w L M) (hX : ∀ r, X' r = false → X r = false) (hs : w.heap.size ≤ w'.heap.size)
    (hb : ∀ b r, b < w.heap.size → L.ro b = some r → X' r = false → w'.heap[b]? = w.heap[b]?) : RepX X' w' L M := by
  have lt : ∀ {b r}, L.ro b = some r → b < w.heap.size := fun {b r} hr => h.fresh b (by rw [hr]; simp)
  have hbk : ∀ {b xs r}, L.ro b = some r → X' r = false → Blk w b xs → Blk w' b xs := fun {b xs r} hr hx ⟨E, h⟩ => ⟨E, (hb b r (lt hr) hr hx).trans h⟩
  have hrw : ∀ {E sz a n c xs r}, hasRole L.ro a r → X' r = false → Row w E sz a n c xs → Row w' E sz a n c xs := fun {_ _ _ _ _ _ r} hr hx h => h.keep fun g hg => hb g r (lt (hr g hg)) (hr g hg) hx
  refine ⟨fun x => hbk h.rslv x (h.slv (hX _ x)), h.rslv, fun k x => hrw (h.rrows k) x (h.rows k (hX _ x)), h.rrows, fun x => ?_, h.rwat, h.keys,
    fun k ids hm x => (h.wl k ids hm (hX _ x)).keep fun g hg => hb g _ (lt (h.rwl k ids hm g hg)) (h.rwl k ids hm g hg) x, h.rwl, fun id c hc x => hbk (h.rcl id (List.getElem?_eq_some_iff.1 hc).1) x (h.cl id c hc (hX _ x)), h.rcl,
    fun id c hc x => hrw (h.rlits id (List.getElem?_eq_some_iff.1 hc).1) x (h.lits id c hc (hX _ x)), h.rlits, fun b hb' => Nat.lt_of_lt_of_le (h.fresh b hb') hs, h.ids⟩
  obtain ⟨es, ck, h1, h2⟩ := h.wat (hX _ x)
  exact ⟨es, ck, (hb _ _ (lt h.rwat) h.rwat x).trans h1, h2⟩

/-- A new role for a block that had none. -/
def addRole (ro : Nat → Option Role) (g : Nat) (r : Role) : Nat → Option Role := fun b => if b = g then some r else ro b
theorem addRole_old {ro : Nat → Option Role} {g : Nat} {r r' : Role} {b : Nat} (hg : ro g = none ∨ ro g = some r) (h : ro b = some r') : addRole ro g r b = some r' := by
  unfold addRole
  split
  · rename_i e
    subst e
    rcases hg with hg | hg <;> simp_all
  · exact h
theorem addRole_new (ro : Nat → Option Role) (g : Nat) (r : Role) : addRole ro g r g = some r := by simp [addRole]
theorem addRole_ne {ro : Nat → Option Role} {g : Nat} {r : Role} {b : Nat} (h : b ≠ g) : addRole ro g r b = ro b := by simp [addRole, h]

theorem RepX.relabel {X : Role → Bool} {w : World} {L : Lay} {M : St} (h : RepX X w L M) (g : Nat) (r : Role) (hg : L.ro g = none ∨ L.ro g = some r) (hl : g < w.heap.size) :
    RepX X w { L with ro := addRole L.ro g r } M := by
  have hr : ∀ {a r'}, hasRole L.ro a r' → hasRole (addRole L.ro g r) a r' := fun h g' hg' => addRole_old hg (h g' hg')
  exact ⟨h.slv, addRole_old hg h.rslv, h.rows, fun k => hr (h.rrows k), h.wat, addRole_old hg h.rwat, h.keys, h.wl, fun k ids hm => hr (h.rwl k ids hm), h.cl,
    fun id hi => addRole_old hg (h.rcl id hi), h.lits, fun id hi => hr (h.rlits id hi), fun b hb => by
      by_cases e : b = g
      · exact e ▸ hl
      · exact h.fresh b (by simpa [addRole, e] using hb), h.ids⟩

/-- What a call may do to the rest: nothing. -/
structure Fr (ro : Nat → Option Role) (w w' : World) : Prop where
  os : w'.os = w.os
  output : w'.output = w.output
  size : w.heap.size ≤ w'.heap.size
  block : ∀ b, b < w.heap.size → ro b = none → w'.heap[b]? = w.heap[b]?

/-- The layout behind: new roles for new blocks alone; old clauses stay where they are. -/
structure Ext (w : World) (M : St) (L L' : Lay) : Prop where
  sb : L'.sb = L.sb
  ro : ∀ b, b < w.heap.size → L'.ro b = L.ro b
  cb : ∀ id, id < M.cls.length → L'.cb id = L.cb id
  lv : ∀ id, id < M.cls.length → L'.lv id = L.lv id

theorem Fr.refl (ro : Nat → Option Role) (w : World) : Fr ro w w := ⟨rfl, rfl, Nat.le_refl _, fun _ _ _ => rfl⟩
theorem Fr.trans {ro ro' : Nat → Option Role} {a b c : World} (h : Fr ro a b) (k : Fr ro' b c) (he : ∀ x, x < a.heap.size → ro' x = ro x) : Fr ro a c :=
  ⟨k.os.trans h.os, k.output.trans h.output, Nat.le_trans h.size k.size,
    fun x hx hr => (k.block x (Nat.lt_of_lt_of_le hx h.size) ((he x hx).trans hr)).trans (h.block x hx hr)⟩
theorem Fr.trans' {ro : Nat → Option Role} {a b c : World} (h : Fr ro a b) (k : Fr ro b c) : Fr ro a c := h.trans k fun _ _ => rfl
theorem Fr.drewN {ro : Nat → Option Role} {a b : World} (h : Fr ro a b) (n : Nat) : Fr ro a (b.drewN n) := ⟨h.os, h.output, h.size, h.block⟩
theorem Fr.drew {ro : Nat → Option Role} {a b : World} (h : Fr ro a b) : Fr ro a b.drew := ⟨h.os, h.output, h.size, h.block⟩
theorem Fr.setCell {ro : Nat → Option Role} {a b : World} (h : Fr ro a b) {p : Addr} (hp : p.block < a.heap.size → ro p.block ≠ none) (u : Value) : Fr ro a (b.setCell p u) :=
  ⟨h.os, h.output, by simpa using h.size, fun x hx hr => by
    rw [getElem?_setCell_other _ _ _ _ (by rintro rfl; exact hp hx hr)]
    exact h.block x hx hr⟩
theorem Fr.alloc {ro : Nat → Option Role} {a b : World} (h : Fr ro a b) (o : Obj) : Fr ro a (b.alloc o) :=
  ⟨h.os, h.output, by have := h.size; simp; omega, fun x hx hr => by
    rw [Below.heap_alloc _ _ _ (Nat.lt_of_lt_of_le hx h.size)]
    exact h.block x hx hr⟩
theorem Fr.grown {ro : Nat → Option Role} {a b c : World} {row : Option Nat} (h : Fr ro a b) (k : b.grownBy c row) (hr : ∀ g, row = some g → g < a.heap.size → ro g ≠ none) : Fr ro a c :=
  ⟨k.os.trans h.os, k.output.trans h.output, Nat.le_trans h.size k.size, fun x hx hn => by
    rw [k.block x (Nat.lt_of_lt_of_le hx h.size) (fun e => hr x e.symm hx hn)]
    exact h.block x hx hn⟩
theorem Fr.alike {ro : Nat → Option Role} {a b c : World} (h : Fr ro a b) (k : c.Alike b) : Fr ro a c :=
  ⟨k.2.1.trans h.os, k.2.2.trans h.output, by rw [k.1]; exact h.size, fun x hx hn => by rw [k.1]; exact h.block x hx hn⟩

theorem Ext.refl (w : World) (M : St) (L : Lay) : Ext w M L L := ⟨rfl, fun _ _ => rfl, fun _ _ => rfl, fun _ _ => rfl⟩
theorem Ext.trans {w w' : World} {M M' : St} {L L' L'' : Lay} (h : Ext w M L L') (k : Ext w' M' L' L'') (hw : w.heap.size ≤ w'.heap.size) (hm : M.cls.length ≤ M'.cls.length) : Ext w M L L'' :=
  ⟨k.sb.trans h.sb, fun b hb => (k.ro b (Nat.lt_of_lt_of_le hb hw)).trans (h.ro b hb), fun i hi => (k.cb i (Nat.lt_of_lt_of_le hi hm)).trans (h.cb i hi), fun i hi => (k.lv i (Nat.lt_of_lt_of_le hi hm)).trans (h.lv i hi)⟩

/-- What a call that works on the solver comes to. -/
structure Next (w : World) (L : Lay) (M : St) (w' : World) (L' : Lay) (M' : St) : Prop where
  rep : Rep w' L' M'
  fr : Fr L.ro w w'
  ext : Ext w M L L'
  cls : M.cls.length ≤ M'.cls.length

theorem Next.refl {w : World} {L : Lay} {M : St} (h : Rep w L M) : Next w L M w L M := ⟨h, Fr.refl _ _, Ext.refl _ _ _, Nat.le_refl _⟩
theorem Next.trans {w w' w'' : World} {L L' L'' : Lay} {M M' M'' : St} (h : Next w L M w' L' M') (k : Next w' L' M' w'' L'' M'') : Next w L M w'' L'' M'' :=
  ⟨k.rep, h.fr.trans k.fr h.ext.ro, h.ext.trans k.ext h.fr.size h.cls, Nat.le_trans h.cls k.cls⟩
theorem Next.drewN {w w' : World} {L L' : Lay} {M M' : St} (h : Next w L M w' L' M') (n : Nat) : Next w L M (w'.drewN n) L' M' := ⟨h.rep.drewN n, h.fr.drewN n, h.ext, h.cls⟩
theorem Next.from_drewN {w w' : World} {L L' : Lay} {M M' : St} {n : Nat} (h : Next (w.drewN n) L M w' L' M') : Next w L M w' L' M' := ⟨h.rep, ⟨h.fr.os, h.fr.output, h.fr.size, h.fr.block⟩, ⟨h.ext.sb, h.ext.ro, h.ext.cb, h.ext.lv⟩, h.cls⟩

section
variable {w : World} {L : Lay} {M : St}

theorem Blk.cell {b : Nat} {xs : List Value} (h : Blk w b xs) {i : Nat} {v : Value} (hv : xs[i]? = some v) : w.cell? ⟨b, i, none⟩ = some v := by
  obtain ⟨E, h⟩ := h
  rw [cell_of_row w b i _ E (0, 0) h]
  simpa using hv
theorem Blk.free {b : Nat} {xs : List Value} (h : Blk w b xs) (i : Nat) : w.frozen? ⟨b, i, none⟩ = false := by
  obtain ⟨E, h⟩ := h
  simp [World.frozen?, h]
theorem Blk.keep {w' : World} {b : Nat} {xs : List Value} (h : Blk w b xs) (hb : w'.heap[b]? = w.heap[b]?) : Blk w' b xs := by
  obtain ⟨E, h⟩ := h
  exact ⟨E, hb.trans h⟩
theorem Blk.set {b : Nat} {xs : List Value} (h : Blk w b xs) (i : Nat) (u : Value) : Blk (w.setCell ⟨b, i, none⟩ u) b (xs.set i u) := by
  obtain ⟨E, h⟩ := h
  exact ⟨E, by rw [getElem?_setCell_same w b i u _ E (0, 0) h]; simp⟩

theorem RepX.at {X : Role → Bool} (h : RepX X w L M) (i : Nat) {v : Value} (hv : (slvCells L M)[i]? = some v) (hx : X .slv = false := by rfl) : w.cell? ⟨L.sb, i, none⟩ = some v := (h.slv hx).cell hv
theorem RepX.atFree {X : Role → Bool} (h : RepX X w L M) (i : Nat) (hx : X .slv = false := by rfl) : w.frozen? ⟨L.sb, i, none⟩ = false := (h.slv hx).free i

theorem Next.at {w' : World} {L' : Lay} {M' : St} (h : Next w L M w' L' M') (i : Nat) {v : Value} (hv : (slvCells L' M')[i]? = some v) : w'.cell? ⟨L.sb, i, none⟩ = some v := h.ext.sb ▸ h.rep.at i hv
theorem Next.free {w' : World} {L' : Lay} {M' : St} (h : Next w L M w' L' M') (i : Nat) : w'.frozen? ⟨L.sb, i, none⟩ = false := h.ext.sb ▸ h.rep.atFree i

theorem gi_spec {α : Type} {xs : List α} {i : Int} {x : α} (h : gi xs i = some x) : 0 ≤ i ∧ i < xs.length ∧ xs[i.toNat]? = some x := by
  unfold gi at h
  split at h
  · obtain ⟨h1, _⟩ := List.getElem?_eq_some_iff.1 h
    exact ⟨by assumption, by omega, h⟩
  · cases h

theorem gi_of {α : Type} {xs : List α} {i : Int} {x : α} (h0 : 0 ≤ i) (h : xs[i.toNat]? = some x) : gi xs i = some x := by
  simp [gi, h0, h]

theorem gi_lt {α : Type} {xs : List α} {i : Int} (h0 : 0 ≤ i) (h1 : i < xs.length) : ∃ x, gi xs i = some x :=
  ⟨xs[i.toNat]'(by omega), gi_of h0 (by rw [List.getElem?_eq_getElem])⟩

theorem flat5 (cb : Nat → Nat) (fs : List Fact) (i j : Nat) (hj : j < 5) : (fs.flatMap (factCells cb))[5 * i + j]? = (fs[i]?).bind fun f => (factCells cb f)[j]? := by
  induction fs generalizing i with
  | nil => simp
  | cons f fs ih =>
    rw [List.flatMap_cons]
    have hl : (factCells cb f).length = 5 := rfl
    cases i with
    | zero => simp [List.getElem?_append_left, hl, hj]
    | succ i =>
      rw [List.getElem?_append_right (by rw [hl]; omega), hl]
      have : 5 * (i + 1) + j - 5 = 5 * i + j := by omega
      rw [this, ih]
      simp

theorem flat5_length (cb : Nat → Nat) (fs : List Fact) : (fs.flatMap (factCells cb)).length = 5 * fs.length := by
  induction fs with
  | nil => rfl
  | cons f fs ih => rw [List.flatMap_cons, List.length_append, ih]; simp [factCells]; omega

theorem flat5_set (cb : Nat → Nat) (fs : List Fact) (i j : Nat) (u : Value) (f : Fact) (g : Fact) (hf : fs[i]? = some f) (hj : j < 5) (hg : factCells cb g = (factCells cb f).set j u) :
    (fs.set i g).flatMap (factCells cb) = (fs.flatMap (factCells cb)).set (5 * i + j) u := by
  induction fs generalizing i with
  | nil => simp at hf
  | cons x fs ih =>
    cases i with
    | zero =>
      simp only [List.getElem?_cons_zero, Option.some.injEq] at hf
      subst hf
      simp only [List.set_cons_zero, List.flatMap_cons, hg, Nat.mul_zero, Nat.zero_add]
      rw [List.set_append_left _ _ (by simpa [factCells] using hj)]
    | succ i =>
      simp only [List.getElem?_cons_succ] at hf
      simp only [List.set_cons_succ, List.flatMap_cons, ih i hf]
      have hl : (factCells cb x).length = 5 := rfl
      rw [List.set_append_right _ _ (by rw [hl]; omega), hl]
      have : 5 * (i + 1) + j - 5 = 5 * i + j := by omega
      rw [this]

/-- A variable's fact, in memory. -/
theorem RepX.var {X : Role → Bool} (h : RepX X w L M) {v : Int} {f : Fact} (hf : gi M.vars v = some f) (hx : X (.fld .vars) = false := by rfl) :
    ∃ g, (L.hd .vars).a = some ⟨g, 0, none⟩ ∧ L.ro g = some (.fld .vars) ∧ (∀ j u, (factCells L.cb f)[j]? = some u → w.cell? ⟨g, v.toNat * 5 + j, none⟩ = some u) ∧ ∀ j, w.frozen? ⟨g, j, none⟩ = false := by
  obtain ⟨h0, h1, h2⟩ := gi_spec hf
  have hr := h.rows .vars hx
  have hn : 0 < lenOf M .vars := show 0 < M.vars.length by omega
  obtain ⟨g, hg⟩ := hr.pos hn
  rw [hg] at hr
  refine ⟨g, hg, h.rrows .vars g (by rw [hg]; rfl), fun j u hu => hr.cell ?_, hr.free⟩
  have hj : j < 5 := by
    rcases Nat.lt_or_ge j 5 with h | h
    · exact h
    · rw [List.getElem?_eq_none (by simpa [factCells] using h)] at hu; cases hu
  show (M.vars.flatMap (factCells L.cb))[v.toNat * 5 + j]? = some u
  rw [Nat.mul_comm, flat5 _ _ _ _ hj, h2]
  exact hu

/-- An element of one of the solver's lists of numbers, in memory. -/
theorem RepX.num {X : Role → Bool} (h : RepX X w L M) (k : K) {xs : List Int} (hk : cellsOf L.cb M k = xs.map vi) (hl : lenOf M k = xs.length) (h1 : k.sz = 1) {i x : Int} (hi : gi xs i = some x)
    (hx : X (.fld k) = false := by rfl) :
    ∃ g, (L.hd k).a = some ⟨g, 0, none⟩ ∧ L.ro g = some (.fld k) ∧ w.cell? ⟨g, i.toNat, none⟩ = some (vi x) ∧ ∀ j, w.frozen? ⟨g, j, none⟩ = false := by
  obtain ⟨h0, h1', h2⟩ := gi_spec hi
  have hr := h.rows k hx
  obtain ⟨g, hg⟩ := hr.pos (by omega)
  rw [hg] at hr
  exact ⟨g, hg, h.rrows k g (by rw [hg]; rfl), hr.cell (by rw [hk]; simp [h2]), hr.free⟩

theorem RepX.len {X : Role → Bool} (h : RepX X w L M) (k : K) (hx : X (.fld k) = false := by rfl) : lenOf M k ≤ (L.hd k).c ∧ (L.hd k).c ≤ maxLen := (h.rows k hx).len
end

end Go.Proofs.Ytminhlpbdpbolaa
