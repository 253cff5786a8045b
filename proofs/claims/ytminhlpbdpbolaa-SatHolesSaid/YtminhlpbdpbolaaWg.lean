/- A clause watched by its first two literals. -/
import Derived.Test.YtminhlpbdpbolaaWf
import Derived.Test.YtminhlpbdpbolaaPut
import Derived.Deep.CutRange
import Derived.Deep.CutBlock
namespace Go.Proofs.Ytminhlpbdpbolaa
open Go.RowKit Mir

/-- append of one element to an empty slice without capacity, wherever it points: a new array. -/
theorem append_bare {P : Program} {w : World} (t ty e : TypeId) (i : TypeInfo) (z : Value) (bytes : Nat) (ht : P.underlying t = some (.slice e)) (hi : P.info? e = some i) (hz : i.zero = some z)
    (hsize : i.size = 1) (hby : i.bytes = bytes) (hzs : z.cells.size = 1) (a0 : Option Addr) (a : Addr) (v : Value) (hnews : ∀ j u, [v][j]? = some u → w.cell? (a.add j) = some u) (hb : bytes ≤ 100) :
    ∃ c' w', (Builtin.append_ #[t, t] ty #[.slice a0 0 0, .slice (some a) 1 1]).run P w = .ok (.slice (some ⟨w.heap.size, 0, none⟩) 1 c') w' ∧ Row w' e 1 (some ⟨w.heap.size, 0, none⟩) 1 c' [v] ∧ w.grownBy w' (blk a0) := by
  have hl : [v].length = 1 * i.size := by rw [hsize]; rfl
  have hge := grownCap_ge w 1 0 e
  have hcm : grownCap w 1 0 e ≤ maxLen := grownCap_le_maxLen w 1 0 e (by simp only [maxLen]; omega)
  have row : ∀ r, Row (w.drew.alloc (.cells (#[v] ++ Builtin.zeroCells z.cells (grownCap w 1 0 e - 1)) e)) e 1 (some ⟨w.heap.size, 0, none⟩) 1 (grownCap w 1 0 e) [v] ∧ w.grownBy (w.drew.alloc (.cells (#[v] ++ Builtin.zeroCells z.cells (grownCap w 1 0 e - 1)) e)) r := by
    intro r
    refine ⟨⟨rfl, .inr ⟨w.heap.size, _, rfl, heap_alloc_new w.drew _, hge, hcm, ?_, by simp⟩⟩, ⟨rfl, rfl, rfl, by simp, fun k hk _ => Below.heap_alloc w.drew _ k hk⟩⟩
    simp only [Array.size_append, size_zeroCells, hzs]
    simp
    omega
  cases a0 with
  | none =>
    have hr := run_append_nil (P := P) w t ty e i z ht hi hz a 1 1 [v] hl hnews (by decide) (by decide) (by omega)
    exact ⟨_, _, hr, row _⟩
  | some b =>
    have hr := run_append_grow (P := P) w t ty e i z ht hi hz b 0 0 [] (by simp) (by simp) a 1 1 [v] hl hnews (by decide) (by decide) (growslice_fits (by omega) (by omega))
    simp only [Nat.zero_add, List.toArray, Array.empty_append] at hr
    exact ⟨_, _, by simpa using hr, row _⟩

theorem wp_append_bare {P : Program} {w : World} {o : Oper} {a : Act} {K : Act → World → Prop} {Q : Exit → Act → World → Prop} (s x : Operand) (t : TypeId)
    (ho : o.op = .call { callee := .builtin .append, args := #[s, x], argTypes := #[t, t] })
    (e : TypeId) (i : TypeInfo) (z : Value) (bytes : Nat) (ht : P.underlying t = some (.slice e)) (hi : P.info? e = some i) (hz : i.zero = some z)
    (hsize : i.size = 1) (hby : i.bytes = bytes) (hzs : z.cells.size = 1) (a0 : Option Addr) (hs : a.eval s = .slice a0 0 0) (ad : Addr) (v : Value) (hx : a.eval x = .slice (some ad) 1 1)
    (hnews : ∀ j u, [v][j]? = some u → w.cell? (ad.add j) = some u) (hb : bytes ≤ 100)
    (h : ∀ c' w', Row w' e 1 (some ⟨w.heap.size, 0, none⟩) 1 c' [v] → w.grownBy w' (blk a0) → K (a.put o.dst (.slice (some ⟨w.heap.size, 0, none⟩) 1 c')) w') : o.wp P a w K Q := by
  obtain ⟨c', w', hr, h2, h3⟩ := append_bare (P := P) (w := w) t o.type e i z bytes ht hi hz hsize hby hzs a0 ad v hnews hb
  unfold Oper.wp execOp
  simp only [ho, resolve, invoke, builtin, Sem.run_bind, Sem.run_pure, Result.andThen_ok, List.map_toArray, List.map_cons, List.map_nil, hs, hx, hr]
  exact h c' w' h2 h3

section
variable {w : World} {ops : Array Oper} {o : Oper} {a : Act} {K : Act → World → Prop} {Q : Exit → Act → World → Prop} {E : Prop}

/-- append of one clause, as one step of a region that draws. -/
theorem step_ptr (hgd : o.guard = none) (s x : Operand) (ho : o.op = .call { callee := .builtin .append, args := #[s, x], argTypes := #[51, 51] })
    (a0 : Option Addr) (n c0 : Nat) (cb : Nat → Nat) (xs : List Nat) (hs : a.eval s = .slice a0 n c0) (hown : WRow w a0 n c0 (xs.map (ptr cb))) (id : Nat) {p : Nat} (hp : cb id = p)
    {g : Nat} (hx : a.eval x = .slice (some ⟨g, 0, none⟩) 1 1) (hgs : g = w.heap.size) (hn : n < LIM)
    (h : ∀ a' c' w', Row w' 54 1 a' (n + 1) c' ((xs ++ [id]).map (ptr cb)) → w.grownBy w' (blk a0) → (a' = a0 ∨ ∃ g, a' = some ⟨g, 0, none⟩ ∧ w.heap.size ≤ g) → K (a.put o.dst (.slice a' (n + 1) c')) w') :
    if Region.wanted o (yielded ops a.tmps) = true then Oper.wp Try.prog o a (w.alloc (.cells #[.pointer (some ⟨p, 0, none⟩)] 54)) K Q else E := by
  have hw : Region.wanted o (yielded ops a.tmps) = true := by simp [Region.wanted, hgd]
  rw [if_pos hw]
  subst hgs hp
  obtain ⟨i0, hi, hz0, hz1, hz2⟩ := info_parts Try.info54
  simp only [LIM] at hn
  rcases hown with hown | ⟨rfl, rfl, hxs⟩
  · refine wp_append_row _ s x 51 ho 54 i0 (.pointer none) 1 8 Try.underlying51 hi hz0 hz1 hz2 rfl (by decide) a0 n c0 _ hs (hown.alloc _) ⟨w.heap.size, 0, none⟩ 1 1 [ptr cb id] hx (by simp) (by decide) (fun j u hu => cell_new w [ptr cb id] 54 j u hu) (by simp [ptr, Value.oneCell']) (by simp only [maxLen]; omega) (by omega) ?_
    intro a' c' w' hr hg hnew
    exact h a' c' w' (by simpa using hr) (grown_alloc hg) (hnew.imp (fun e => e) fun e => ⟨_, e, by simp⟩)
  · have hxs' : xs = [] := by simpa using hxs
    subst hxs'
    refine wp_append_bare (w := w.alloc (.cells #[ptr cb id] 54)) s x 51 ho 54 i0 (.pointer none) 8 Try.underlying51 hi hz0 hz1 hz2 rfl a0 hs ⟨w.heap.size, 0, none⟩ (ptr cb id) hx (cell_new w [ptr cb id] 54) (by decide) ?_
    intro c' w' hr hg
    exact h _ c' w' (by simpa using hr) (grown_alloc hg) (.inr ⟨_, rfl, by simp⟩)
end

/-- What is known of a clause in memory. -/
theorem RepX.clause {X : Role → Bool} {w : World} {L : Lay} {M : St} (h : RepX X w L M) {id : Nat} {c : Cl} (hc : M.cls[id]? = some c) (hx : X (.cl id) = false := by rfl) :
    w.cell? ⟨L.cb id, 0, none⟩ = some (hdv (L.lv id) c.lits.length) ∧ w.cell? ⟨L.cb id, 1, none⟩ = some (.bool c.learnt) ∧ w.cell? ⟨L.cb id, 2, none⟩ = some (vi c.score) ∧ ∀ j, w.frozen? ⟨L.cb id, j, none⟩ = false :=
  have hb := h.cl id c hc hx
  ⟨hb.cell rfl, hb.cell rfl, hb.cell rfl, hb.free⟩

theorem addW_cls {M M1 : St} {k : Int} {id : Nat} (h : addW M k id = some M1) : M1.cls = M.cls := by
  unfold addW at h
  split at h
  · cases h; rfl
  · cases h

theorem RepX.alloc {X : Role → Bool} {w : World} {L : Lay} {M : St} (h : RepX X w L M) (o : Obj) : RepX X (w.alloc o) L M :=
  h.touch (fun _ h => h) (by simp) fun b _ hb _ _ => Below.heap_alloc _ _ _ hb

/-- What follows an append to a list of the watches: the store into the map. -/
theorem addW_step {w wr : World} {L L2 : Lay} {M M2 : St} (hn : Next w L M wr L2 M2) {k : Int} {id : Nat} {a' : Option Addr} {c' : Nat} {w2 : World}
    (lrow : WRow wr (watHd L2 M2.wat k).a (Mir.look M2.wat k).length (watHd L2 M2.wat k).c ((Mir.look M2.wat k).map (ptr L2.cb))) (lrole : hasRole L2.ro (watHd L2 M2.wat k).a (.wl k))
    (hgrow : wr.drew.grownBy w2 (blk (watHd L2 M2.wat k).a)) (hrow : Row w2 54 1 a' ((Mir.look M2.wat k).length + 1) c' ((Mir.look M2.wat k ++ [id]).map (ptr L2.cb)))
    (hnew : a' = (watHd L2 M2.wat k).a ∨ ∃ g, a' = some ⟨g, 0, none⟩ ∧ wr.drew.heap.size ≤ g) (hid : id < M2.cls.length) :
    w2.cell? ⟨L.sb, 3, none⟩ = some (.map (some L2.mb)) ∧ ∃ w3, (Instr.mapUpdate 50 (.map (some L2.mb)) (.int .i64 k) (.slice a' ((Mir.look M2.wat k).length + 1) c')).run Try.prog w2 = .ok () w3 ∧
      Next w L M w3 (L2.withWv k ⟨a', c'⟩) { M2 with wat := put M2.wat k (Mir.look M2.wat k ++ [id]) } ∧
      (∀ b r, L2.ro b = some r → r ≠ .wl k → w2.heap[b]? = wr.heap[b]?) ∧ (∀ b r, L2.ro b = some r → r ≠ .wl k → r ≠ .wmap → w3.heap[b]? = wr.heap[b]?) := by
  have h := hn.rep
  have hne : ∀ b r, b < wr.heap.size → L2.ro b = some r → r ≠ .wl k → w2.heap[b]? = wr.heap[b]? := fun b r hb hr hx => hgrow.block b hb fun e => by
    have := lrole b e.symm
    rw [hr] at this
    exact hx (Option.some.inj this)
  have lt : ∀ {b r}, L2.ro b = some r → b < wr.heap.size := fun {b r} hr => h.fresh b (by rw [hr]; simp)
  have e3 : w2.cell? ⟨L2.sb, 3, none⟩ = wr.cell? ⟨L2.sb, 3, none⟩ := World.cell?_of_block (a := ⟨L2.sb, 3, none⟩) (hne _ _ (lt h.rslv) h.rslv (by simp))
  refine ⟨by rw [← hn.ext.sb, e3]; exact h.at 3 rfl, ?_⟩
  have hm : Mp w2 L2.mb (kv (watV L2 M2.wat)) := by
    obtain ⟨es, ck, h1, h2⟩ := h.wat rfl
    exact ⟨es, ck, (hne _ _ (lt h.rwat) h.rwat (by simp)).trans h1, by rw [h2, watCells_kv]⟩
  obtain ⟨w3, hup, hmp, hset⟩ := hm.update Try.underlying50 Try.underlying3 k (.slice a' ((Mir.look M2.wat k).length + 1) c')
  refine ⟨w3, hup, ?_, fun b r hr hx => hne b r (lt hr) hr hx, fun b r hr hx hy => (hset.block b (role_ne hr h.rwat hy)).trans (hne b r (lt hr) hr hx)⟩
  have hg : wr.grownBy w2 (blk (watHd L2 M2.wat k).a) := ⟨hgrow.os, hgrow.tape, hgrow.output, hgrow.size, hgrow.block⟩
  have hl : (Mir.look M2.wat k ++ [id]).length = (Mir.look M2.wat k).length + 1 := by simp
  refine Next.putW hn k (Mir.look M2.wat k ++ [id]) ⟨a', c'⟩ hg (fun g hg' => .inl (lrole g hg')) (.inl (by rw [hl]; exact hrow)) (fun g hg' => hrow.lt hg') ?_ (by rw [hl]; exact hmp) hset ?_
  · intro g hg'
    rcases hnew with rfl | ⟨g', rfl, hge⟩
    · exact .inl (lrole g hg')
    · cases hg'
      right
      refine ⟨?_, Nat.le_trans hn.fr.size hge⟩
      cases hro : L2.ro g' with
      | none => rfl
      | some r => have := lt hro; have : wr.heap.size ≤ g' := hge; omega
  · intro j hj
    rcases List.mem_append.1 hj with hj | hj
    · unfold Mir.look at hj
      cases hf : M2.wat.find? fun e => e.1 == k with
      | none => rw [hf] at hj; simp at hj
      | some e => rw [hf] at hj; exact h.ids.2.1 e (List.mem_of_find?_eq_some hf) j hj
    · simp only [List.mem_singleton] at hj; subst hj; exact hid

def WatchI (w : World) (L : Lay) (M : St) (id : Nat) (a b : Int) (Mf : St) (k : Nat) (iv : Value) (wr : World) : Prop :=
  ∃ M1 L1 i, iv = .int .i64 (i : Nat) ∧ k = 2 - i ∧ Next w L M wr L1 M1 ∧ M1.cls = M.cls ∧ ((i = 0 ∧ ∃ M2, addW M1 (-a) id = some M2 ∧ addW M2 (-b) id = some Mf) ∨ (i = 1 ∧ addW M1 (-b) id = some Mf) ∨ (i = 2 ∧ M1 = Mf))

set_option maxHeartbeats 2000000 in
set_option maxRecDepth 100000 in
theorem watch_c {w : World} {L : Lay} {M Mf : St} (h : Rep w L M) {sb : Nat} (hs : L.sb = sb) {id cb : Nat} (hcb : L.cb id = cb) (hx : Mir.watch M id = some Mf) :
    Calls Try.prog 49 #[.pointer (some ⟨sb, 0, none⟩), .pointer (some ⟨cb, 0, none⟩)] w fun e w' => e = .returned (.tuple #[]) ∧ ∃ L', Next w L M w' L' Mf := by
  subst hs hcb
  simp only [Mir.watch, Option.bind_eq_bind, Option.bind_eq_some_iff] at hx
  obtain ⟨c, hc, a, ha, b, hb, hx⟩ := hx
  split at hx
  case isFalse => cases hx
  rename_i hok
  obtain ⟨oka, okb⟩ := hok
  obtain ⟨a0, a1⟩ := ok_spec oka
  obtain ⟨b0, b1⟩ := ok_spec okb
  simp only [Option.bind_eq_some_iff] at hx
  obtain ⟨M1, h1, h2⟩ := hx
  have hid : id < M.cls.length := (List.getElem?_eq_some_iff.1 hc).1
  have hlen : 2 ≤ c.lits.length := by have := (List.getElem?_eq_some_iff.1 hb).1; omega
  obtain ⟨k0, _, _, kf⟩ := h.clause hc
  have row := h.lits id c hc rfl
  obtain ⟨gl, hgl⟩ := row.pos (by omega)
  have hcap := row.len
  simp only [maxLen] at hcap
  have hcap2 : 2 ≤ (L.lv id).c := by omega
  simp only [hdv, hgl] at k0
  have HC := Lib.hid hc
  have HA := Lib.hid ha
  have HB := Lib.hid hb
  have HG := Lib.hid hgl
  clear hc ha hb hgl row hcap
  go_enter Try.func49, Try.ntmps49
  go_wp2
  go_loopg [12] 2 (WatchI w L M id a b Mf)
  case atStart => exact ⟨M, L, 0, rfl, rfl, Next.refl h, rfl, .inl ⟨rfl, M1, h1, h2⟩⟩
  case round =>
    obtain ⟨M2, L2, i, rfl, rfl, hn, hcl, hcase⟩ := hrel
    have hr := hn.rep
    have hc2 : M2.cls[id]? = some c := by rw [hcl]; exact HC.out
    have row := hr.lits id c hc2 rfl
    rw [hn.ext.lv id hid, HG.out] at row
    by_cases hi2 : i < 2
    · obtain ⟨x, hx, x0, x1, M3, h3, hnext⟩ : ∃ x, c.lits[i]? = some x ∧ -1048576 ≤ x ∧ x ≤ 1048576 ∧ ∃ M3, addW M2 (-x) id = some M3 ∧ ((i = 0 ∧ addW M3 (-b) id = some Mf) ∨ (i = 1 ∧ M3 = Mf)) := by
        rcases hcase with ⟨rfl, M3, q1, q2⟩ | ⟨rfl, q⟩ | ⟨rfl, _⟩
        · exact ⟨a, HA.out, a0, a1, M3, q1, .inl ⟨rfl, q2⟩⟩
        · exact ⟨b, HB.out, b0, b1, Mf, q, .inr ⟨rfl, rfl⟩⟩
        · omega
      clear hcase
      have cel : wr.cell? ⟨gl, i, none⟩ = some (.int .i64 x) := row.cell (by simp [hx])
      unfold addW at h3
      split at h3
      case isFalse => cases h3
      rename_i hlim
      cases h3
      have hi' : (i : Int) < 2 := by omega
      have s3 := hn.at 3 rfl
      have hmb := hr.look (-x)
      obtain ⟨lrow, lrole⟩ := hr.lookRow (-x)
      have HN := Lib.hid hnext
      have HI := Lib.hid hi2
      clear hnext hi2 row hx
      have hidr : id < M2.cls.length := by rw [hcl]; exact hid
      go_upto_block 1 with (fail)
      go_cut [] from 14 to 31 (fun wc => ∃ L3, Next w L M wc L3 { M2 with wat := put M2.wat (-x) (Mir.look M2.wat (-x) ++ [id]) })
      case first =>
        go_wp2
        have hwn : IntKind.i64.wrap (-x) = -x := IntWalk.i64_in _ (by omega)
        have hl1 : (Instr.lookup 50 (.map (some L2.mb)) (.int .i64 (-x)) false).run Try.prog wr.drew = .ok (.slice (watHd L2 M2.wat (-x)).a (Mir.look M2.wat (-x)).length (watHd L2 M2.wat (-x)).c) wr.drew := Rep.look (hr.drewN 1) (-x)
        have hl2 : (Instr.lookup 50 (.map (some L2.mb)) (.int .i64 (-x)) false).run Try.prog (wr.alloc (.cells #[.pointer (some ⟨L.cb id, 0, none⟩)] 54)).drew = .ok (.slice (watHd L2 M2.wat (-x)).a (Mir.look M2.wat (-x)).length (watHd L2 M2.wat (-x)).c) (wr.alloc (.cells #[.pointer (some ⟨L.cb id, 0, none⟩)] 54)).drew := Rep.look ((hr.alloc _).drewN 1) (-x)
        have s3a : (wr.alloc (.cells #[.pointer (some ⟨L.cb id, 0, none⟩)] 54)).cell? ⟨L.sb, 3, none⟩ = some (.map (some L2.mb)) := hn.ext.sb ▸ (hr.alloc _).at 3 rfl
        go_region_law (refine step_ptr (w := wr.drew) rfl (.tmp 28) (.tmp 30) rfl _ _ _ L2.cb (Mir.look M2.wat (-x)) rfl lrow id (hn.ext.cb id hid) rfl rfl hlim ?_; intro a' c' w2 hrow hgrow hnew; obtain ⟨hb3, w3, hup, hnx, _, _⟩ := addW_step hn lrow lrole hgrow hrow hnew hidr)
        all_goals
          go_wp2
          go_meet
          case rel => exact ⟨_, hnx⟩
      case rest =>
        obtain ⟨L3, hn3⟩ := hcut
        have hi2 := HI.out
        go_wp2
        go_roundg (2 - (i + 1))
        case measure => omega
        case rel =>
          refine ⟨_, L3, i + 1, by go_num, rfl, hn3, hcl, ?_⟩
          rcases HN.out with ⟨rfl, q⟩ | ⟨rfl, rfl⟩
          · exact .inr (.inl ⟨rfl, q⟩)
          · exact .inr (.inr ⟨rfl, rfl⟩)
    · rcases hcase with ⟨rfl, _⟩ | ⟨rfl, _⟩ | ⟨rfl, rfl⟩
      · omega
      · omega
      · go_wp2
        go_end0
        exact ⟨rfl, L2, hn⟩

end Go.Proofs.Ytminhlpbdpbolaa
