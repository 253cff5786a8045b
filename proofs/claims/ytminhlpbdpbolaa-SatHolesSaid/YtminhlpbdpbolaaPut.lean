/- A list of the watches written back into the map. -/
import Derived.Test.YtminhlpbdpbolaaMap
namespace Go.Proofs.Ytminhlpbdpbolaa
open Go.RowKit Mir

theorem mem_put {l : List (Int × List Nat)} {k : Int} {x : List Nat} {e : Int × List Nat} (h : e ∈ put l k x) : e = (k, x) ∨ e ∈ l := by
  induction l with
  | nil => simpa [put] using h
  | cons y l ih =>
    unfold put at h
    split at h
    · rcases List.mem_cons.1 h with h | h
      · exact .inl h
      · exact .inr (List.mem_cons_of_mem _ h)
    · rcases List.mem_cons.1 h with h | h
      · exact .inr (h ▸ List.mem_cons_self ..)
      · exact (ih h).imp id (List.mem_cons_of_mem _)

theorem keys_put_mem {l : List (Int × List Nat)} {k : Int} {x : List Nat} {j : Int} (h : j ∈ (put l k x).map (·.1)) : j = k ∨ j ∈ l.map (·.1) := by
  obtain ⟨e, he, rfl⟩ := List.mem_map.1 h
  rcases mem_put he with rfl | he
  · exact .inl rfl
  · exact .inr (List.mem_map.2 ⟨e, he, rfl⟩)

theorem keys_put {l : List (Int × List Nat)} {k : Int} {x : List Nat} (h : (l.map (·.1)).Nodup) : ((put l k x).map (·.1)).Nodup := by
  induction l with
  | nil => simp [put]
  | cons y l ih =>
    simp only [List.map_cons, List.nodup_cons] at h
    unfold put
    split
    · rename_i e
      subst e
      simpa using h
    · rename_i e
      simp only [List.map_cons, List.nodup_cons]
      refine ⟨fun hm => ?_, ih h.2⟩
      rcases keys_put_mem hm with he | he
      · exact e he
      · exact h.1 he

/-- Under a key that is there once, what is put is all that is there. -/
theorem mem_put_key {l : List (Int × List Nat)} {k : Int} {x : List Nat} (h : (l.map (·.1)).Nodup) {ids : List Nat} (hm : (k, ids) ∈ put l k x) : ids = x := by
  induction l with
  | nil => simpa [put] using hm
  | cons y l ih =>
    simp only [List.map_cons, List.nodup_cons] at h
    unfold put at hm
    split at hm
    · rename_i e
      rcases List.mem_cons.1 hm with hm | hm
      · exact (Prod.mk.inj hm).2
      · exact (h.1 (e ▸ List.mem_map.2 ⟨_, hm, rfl⟩)).elim
    · rename_i e
      rcases List.mem_cons.1 hm with hm | hm
      · exact (e (by rw [← hm])).elim
      · exact ih h.2 hm

theorem watV_put {L L' : Lay} {l : List (Int × List Nat)} {k : Int} {ids : List Nat} {h' : Hd} (hk : (l.map (·.1)).Nodup) (e1 : L'.wv k = h') (e2 : ∀ j, j ≠ k → L'.wv j = L.wv j) :
    watV L' (put l k ids) = putV (watV L l) k (hdv h' ids.length) := by
  induction l with
  | nil => simp [put, watV, putV, e1]
  | cons y l ih =>
    simp only [List.map_cons, List.nodup_cons] at hk
    by_cases e : y.1 = k
    · have : ∀ z ∈ l, L'.wv z.1 = L.wv z.1 := fun z hz => e2 _ fun he => hk.1 (by rw [e, ← he]; exact List.mem_map.2 ⟨z, hz, rfl⟩)
      simp only [put, if_pos e, watV, List.map_cons, putV, e1]
      congr 1
      exact List.map_congr_left fun z hz => by rw [this z hz]
    · have := ih hk.2
      simp only [put, if_neg e, watV, List.map_cons, putV, e2 _ e] at this ⊢
      rw [this]

section
variable {w0 w w2 w3 : World} {L0 L : Lay} {M0 M : St}

def Lay.withWv (L : Lay) (k : Int) (h : Hd) : Lay :=
  { L with wv := fun k' => if k' = k then h else L.wv k', ro := match h.a with | some a => addRole L.ro a.block (.wl k) | none => L.ro }

theorem Next.putW (hn : Next w0 L0 M0 w L M) (k : Int) (ids : List Nat) (h' : Hd) {row : Option Nat} (hg : w.grownBy w2 row)
    (hrow : ∀ g, row = some g → L.ro g = some (.wl k) ∨ (L.ro g = none ∧ w0.heap.size ≤ g))
    (hr : WRow w2 h'.a ids.length h'.c (ids.map (ptr L.cb))) (hlt : ∀ g, blk h'.a = some g → g < w2.heap.size) (hnew : ∀ g, blk h'.a = some g → L.ro g = some (.wl k) ∨ (L.ro g = none ∧ w0.heap.size ≤ g))
    (hm : Mp w3 L.mb (kv (putV (watV L M.wat) k (hdv h' ids.length)))) (hs : MpSet w2 L.mb w3) (hids : ∀ id ∈ ids, id < M.cls.length) :
    Next w0 L0 M0 w3 (L.withWv k h') { M with wat := put M.wat k ids } := by
  have h := hn.rep
  have hmb : L.mb < w.heap.size := h.fresh _ (by rw [h.rwat]; simp)
  have t0 : RepX (only (.wl k)) w2 L M := h.touch (fun _ _ => rfl) hg.size fun b r hb hr hx => hg.block b hb fun e => by
    rcases hrow b e.symm with he | ⟨he, _⟩
    · rw [hr] at he; exact only_false hx (Option.some.inj he)
    · rw [hr] at he; cases he
  have t1 : RepX (only (.wl k)) w2 { L with ro := (L.withWv k h').ro } M := by
    unfold Lay.withWv
    cases ha : h'.a with
    | none => exact t0
    | some a => exact t0.relabel a.block (.wl k) ((hnew a.block (by rw [ha]; rfl)).symm.imp And.left id) (hlt _ (by rw [ha]; rfl))
  have hkb : hasRole (L.withWv k h').ro h'.a (.wl k) := by
    intro g hg'
    unfold Lay.withWv
    cases ha : h'.a with
    | none => rw [ha] at hg'; cases hg'
    | some a => rw [ha] at hg'; cases hg'; exact addRole_new _ _ _
  have t2 := t1.touch (w' := w3) (X' := fun r => only (.wl k) r || only .wmap r) (by simp; intro r h1 _; exact h1) (by rw [hs.size]; exact Nat.le_refl _) fun b r hb hr hx =>
    hs.block b (role_ne hr t1.rwat (by simp at hx; exact only_false hx.2))
  have hx : ∀ r, r ≠ .wl k → r ≠ .wmap → (only (.wl k) r || only .wmap r) = false := by intro r h1 h2; simp [only, h1, h2]
  have hold : ∀ j ids', (j, ids') ∈ put M.wat k ids → j ≠ k → (j, ids') ∈ M.wat := fun j ids' hm hj => by
    rcases mem_put hm with he | he
    · exact (hj (Prod.mk.inj he).1).elim
    · exact he
  have hwv : ∀ j, j ≠ k → (L.withWv k h').wv j = L.wv j := fun j hj => by simp [Lay.withWv, hj]
  have hwk : (L.withWv k h').wv k = h' := by simp [Lay.withWv]
  refine ⟨⟨fun _ => t2.slv (hx _ (by simp) (by simp)), t2.rslv, fun k' _ => t2.rows k' (hx _ (by simp) (by simp)), t2.rrows, fun _ => ?_, t2.rwat, keys_put t2.keys, ?_, ?_,
    fun a b hm _ => t2.cl a b hm (hx _ (by simp) (by simp)), t2.rcl, fun a b hm _ => t2.lits a b hm (hx _ (by simp) (by simp)), t2.rlits, t2.fresh, ⟨t2.ids.1, ?_, t2.ids.2.2⟩⟩, ?_, ?_, hn.cls⟩
  · rw [watCells_kv, watV_put h.keys hwk hwv]; exact hm
  · intro j ids' hm' _
    by_cases e : j = k
    · subst e
      rw [mem_put_key h.keys hm', hwk]
      exact hr.keep fun g hg' => hs.block g (role_ne (hkb g hg') t1.rwat (by simp))
    · rw [hwv j e]
      exact t2.wl j ids' (hold j ids' hm' e) (hx _ (by simp [e]) (by simp))
  · intro j ids' hm'
    by_cases e : j = k
    · subst e; rw [hwk]; exact hkb
    · rw [hwv j e]; exact t2.rwl j ids' (hold j ids' hm' e)
  · intro e he id hid
    rcases mem_put he with rfl | he
    · exact hids id hid
    · exact t2.ids.2.1 e he id hid
  · refine ⟨hs.os.trans (hg.os.trans hn.fr.os), hs.output.trans (hg.output.trans hn.fr.output), Nat.le_trans hn.fr.size (Nat.le_trans hg.size (by rw [hs.size]; exact Nat.le_refl _)), fun b hb hb0 => ?_⟩
    have hro : L.ro b = none := (hn.ext.ro b hb).trans hb0
    have hbw : b < w.heap.size := Nat.lt_of_lt_of_le hb hn.fr.size
    rw [hs.block b (fun e => by rw [e, h.rwat] at hro; cases hro), hg.block b hbw (fun e => by
      rcases hrow b e.symm with he | ⟨_, he⟩
      · rw [hro] at he; cases he
      · omega), hn.fr.block b hb hb0]
  · refine ⟨hn.ext.sb, fun b hb => ?_, hn.ext.cb, hn.ext.lv⟩
    rw [← hn.ext.ro b hb]
    unfold Lay.withWv
    cases ha : h'.a with
    | none => rfl
    | some a =>
      by_cases e : b = a.block
      · rcases hnew a.block (by rw [ha]; rfl) with he | ⟨_, he⟩
        · simp [addRole, e, he]
        · omega
      · simp [addRole, e]

end

end Go.Proofs.Ytminhlpbdpbolaa
