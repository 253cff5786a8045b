/- The heap of variables: push, pop. -/
import Derived.Test.YtminhlpbdpbolaaWb
namespace Go.Proofs.Ytminhlpbdpbolaa
open Go.RowKit Mir

theorem push_c {w : World} {L : Lay} {M Mf : St} (h : Rep w L M) {sb : Nat} (hs : L.sb = sb) {v : Int} (hx : Mir.push M v = some Mf) :
    Calls Try.prog 54 #[.pointer (some ⟨sb, 0, none⟩), .int .i64 v] w fun e w' => e = .returned (.tuple #[]) ∧ ∃ L', Next w L M w' L' Mf ∧ ∀ k, k ≠ .heap → L'.hd k = L.hd k := by
  subst hs
  simp only [Mir.push, Option.bind_eq_bind, Option.bind_eq_some_iff] at hx
  obtain ⟨p, hp, hx⟩ := hx
  obtain ⟨i0, i1, _⟩ := gi_spec hp
  obtain ⟨g, hg, rg, c1, f1⟩ := h.num .place rfl rfl rfl hp
  have s1 := h.at 1 rfl
  have s2 := h.at 2 rfl
  have s1f := h.atFree 1
  simp only [hdv, hg] at s1 s2
  by_cases hneg : p < 0
  · rw [if_pos hneg] at hx
    split at hx
    case isFalse => cases hx
    rename_i hlim
    simp only [Option.bind_eq_some_iff] at hx
    obtain ⟨M1, hl, hu⟩ := hx
    have hsb : L.sb < w.heap.size := h.fresh _ (by rw [h.rslv]; simp)
    have hs : SameBut M { M with heap := M.heap ++ [v] } .heap := ⟨fun k' e => by cases k' <;> first | exact (e rfl).elim | exact ⟨rfl, fun _ => rfl⟩, rfl, rfl, ⟨rfl, rfl, rfl, rfl, rfl⟩, h.ids.1, h.ids.2.2⟩
    have hr0 : Row w 3 1 (L.hd .heap).a M.heap.length (L.hd .heap).c (M.heap.map vi) := h.rows .heap rfl
    have hlim' : M.heap.length < 1099511627776 := hlim
    have HS := Lib.hid hs
    clear hg hp hs
    go_enter Try.func54, Try.ntmps54
    go_wp2_with (first
      | (at_builtin; refine app_int rfl (.tmp 16) (.tmp 18) rfl _ _ _ M.heap rfl hr0 v rfl rfl hlim ?_; intro a' c' w2 hrow hgrow hnew; have hb1 := (h.grown .heap hgrow 1).1.trans s1; have hb2 := (h.grown .heap hgrow 1).2; have hn : Next w L M (w2.setCell ⟨L.sb, 1, none⟩ (.slice a' (M.heap.length + 1) c')) (L.withHd .heap ⟨a', c'⟩) { M with heap := M.heap ++ [v] } := h.newHd' .heap HS.out (by simp [lenOf]) hgrow hrow hnew; clear hgrow hrow hnew)
      | (go_at_call 67; refine (lay_c hn.rep hn.ext.sb hl).mono ?_; rintro e w' ⟨rfl, hn2⟩; clear hb1 hb2; have k1 : w'.cell? ⟨L.sb, 1, none⟩ = some (.slice a' (M.heap.length + 1) c') := (by have q := lay_len hl; simp only [List.length_append, List.length_cons, List.length_nil] at q; rw [← Nat.zero_add (M.heap.length + 1), Nat.zero_add, ← q]; exact hn2.at 1 rfl))
      | (go_at_call 68; refine (up_c hn2.rep hn.ext.sb hu (by omega)).mono ?_; rintro e w' ⟨rfl, hn3⟩))
    go_end0
    exact ⟨rfl, _, hn.trans (hn2.trans hn3), fun k hk => by simp [Lay.withHd, hk]⟩
  · rw [if_neg hneg] at hx
    simp only [Option.some.injEq] at hx
    subst hx
    clear hg hp
    go_enter Try.func54, Try.ntmps54
    go_wp2
    go_end0
    exact ⟨rfl, _, Next.refl h, fun _ _ => rfl⟩

end Go.Proofs.Ytminhlpbdpbolaa
