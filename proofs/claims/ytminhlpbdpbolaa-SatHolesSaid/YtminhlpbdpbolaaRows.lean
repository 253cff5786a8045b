/-
  No cell of these rows narrows 'for every input' (looked for: loops, veiled, ifaces, maps, wideKeys, modest, calm, conditions, laid).
  DERIVED. THE GIVEN ROWS OF THIS SEAT. 8 by the template 'for every input the law returns true; each argument reads behind the call as it read before'; 0 by the template 'total and deterministic' (their statements: YtminhlpbdpbolaaTotals.lean).
  GIVEN WITH THE SEED: the statements are not yours to turn. If you find one false, say at which input.
  Laid BY PROGRAM, IN A SANDBOX (cutbox-rows.mjs): the forced cells as the released guide's own fill.sh prints them over the translation 7ce83dbe60aa9a7e… (all of the seat's roots in one cut). By AI agents, Wed Nov 11 2026. No macro, syntax, notation, axiom, sorry.
-/
import Derived.Test.YtminhlpbdpbolaaChecked
import GoSem.Claim
import GoSem.ClaimJoined
import GoSem.ClaimMapViews
import Derived.JoinedTies
import Derived.KernelRfl
namespace Go.Proofs.Ytminhlpbdpbolaa
/- THE CELL 'sum', in the pinned program and in every row, IS THE sha256 OF THE DUMP (.gsa) THAT YtminhlpbdpbolaaProg.lean LOADS. Nothing in Lean hashes anything: it is a label: what it is worth is what the hold of that sum in a sandbox is worth. -/
noncomputable def Try.pinned : Pinned := { name := "ytminhlpbdpbolaa", sum := "7ce83dbe60aa9a7eb40766b2fb45f64db00fe65ac28203139ff1f359d63593a9", checked := Try.checked }
namespace Rows
def none {H : Type} : Left H := { results := [], args := [] }

/-- 'skualaw07.SatSolves': WHATEVER THE INPUT: true; the input reads as it did. -/
def satSolvesSpec : ChangeSpec := { name := "satSolves", fn := fun _ => fun
  | [d1, d2] => { results := [.lit (.bool true)], args := [d1, d2] }
  | _ => none }
def satSolvesRow : OpenClaim := { program := "ytminhlpbdpbolaa", sum := "7ce83dbe60aa9a7eb40766b2fb45f64db00fe65ac28203139ff1f359d63593a9", func := "skua/skualaw07.SatSolves", spec := "satSolves", unfollowed := true, recurses := true, apart := false }
def SatSolvesSaid : Prop := satSolvesRow.holds Try.pinned (OpenSpec.ofChange satSolvesSpec)

/-- ITS FALSE NEIGHBOUR: 'it returns false'. Refute it at one input. -/
def satSolvesWrong : ChangeSpec := { name := "satSolves", fn := fun _ => fun
  | [d1, d2] => { results := [.lit (.bool false)], args := [d1, d2] }
  | _ => none }
def SatSolvesWrongFalsely : Prop := satSolvesRow.holds Try.pinned (OpenSpec.ofChange satSolvesWrong)

/-- 'skualaw07.SatAgain': WHATEVER THE INPUT: true; the input reads as it did. -/
def satAgainSpec : ChangeSpec := { name := "satAgain", fn := fun _ => fun
  | [d1, d2] => { results := [.lit (.bool true)], args := [d1, d2] }
  | _ => none }
def satAgainRow : OpenClaim := { program := "ytminhlpbdpbolaa", sum := "7ce83dbe60aa9a7eb40766b2fb45f64db00fe65ac28203139ff1f359d63593a9", func := "skua/skualaw07.SatAgain", spec := "satAgain", unfollowed := true, recurses := true, apart := false }
def SatAgainSaid : Prop := satAgainRow.holds Try.pinned (OpenSpec.ofChange satAgainSpec)

/-- ITS FALSE NEIGHBOUR: 'it returns false'. Refute it at one input. -/
def satAgainWrong : ChangeSpec := { name := "satAgain", fn := fun _ => fun
  | [d1, d2] => { results := [.lit (.bool false)], args := [d1, d2] }
  | _ => none }
def SatAgainWrongFalsely : Prop := satAgainRow.holds Try.pinned (OpenSpec.ofChange satAgainWrong)

/-- 'skualaw07.SatGrows': WHATEVER THE INPUT: true; the input reads as it did. -/
def satGrowsSpec : ChangeSpec := { name := "satGrows", fn := fun _ => fun
  | [d1, d2] => { results := [.lit (.bool true)], args := [d1, d2] }
  | _ => none }
def satGrowsRow : OpenClaim := { program := "ytminhlpbdpbolaa", sum := "7ce83dbe60aa9a7eb40766b2fb45f64db00fe65ac28203139ff1f359d63593a9", func := "skua/skualaw07.SatGrows", spec := "satGrows", unfollowed := true, recurses := true, apart := false }
def SatGrowsSaid : Prop := satGrowsRow.holds Try.pinned (OpenSpec.ofChange satGrowsSpec)

/-- ITS FALSE NEIGHBOUR: 'it returns false'. Refute it at one input. -/
def satGrowsWrong : ChangeSpec := { name := "satGrows", fn := fun _ => fun
  | [d1, d2] => { results := [.lit (.bool false)], args := [d1, d2] }
  | _ => none }
def SatGrowsWrongFalsely : Prop := satGrowsRow.holds Try.pinned (OpenSpec.ofChange satGrowsWrong)

/-- 'skualaw07.SatChains': WHATEVER THE INPUT: true; the input reads as it did. -/
def satChainsSpec : ChangeSpec := { name := "satChains", fn := fun _ => fun
  | [d1, d2] => { results := [.lit (.bool true)], args := [d1, d2] }
  | _ => none }
def satChainsRow : OpenClaim := { program := "ytminhlpbdpbolaa", sum := "7ce83dbe60aa9a7eb40766b2fb45f64db00fe65ac28203139ff1f359d63593a9", func := "skua/skualaw07.SatChains", spec := "satChains", unfollowed := true, recurses := true, apart := false }
def SatChainsSaid : Prop := satChainsRow.holds Try.pinned (OpenSpec.ofChange satChainsSpec)

/-- ITS FALSE NEIGHBOUR: 'it returns false'. Refute it at one input. -/
def satChainsWrong : ChangeSpec := { name := "satChains", fn := fun _ => fun
  | [d1, d2] => { results := [.lit (.bool false)], args := [d1, d2] }
  | _ => none }
def SatChainsWrongFalsely : Prop := satChainsRow.holds Try.pinned (OpenSpec.ofChange satChainsWrong)

/-- 'skualaw07.SatRefuses': WHATEVER THE INPUT: true; the input reads as it did. -/
def satRefusesSpec : ChangeSpec := { name := "satRefuses", fn := fun _ => fun
  | [d1, d2] => { results := [.lit (.bool true)], args := [d1, d2] }
  | _ => none }
def satRefusesRow : OpenClaim := { program := "ytminhlpbdpbolaa", sum := "7ce83dbe60aa9a7eb40766b2fb45f64db00fe65ac28203139ff1f359d63593a9", func := "skua/skualaw07.SatRefuses", spec := "satRefuses", unfollowed := true, recurses := true, apart := false }
def SatRefusesSaid : Prop := satRefusesRow.holds Try.pinned (OpenSpec.ofChange satRefusesSpec)

/-- ITS FALSE NEIGHBOUR: 'it returns false'. Refute it at one input. -/
def satRefusesWrong : ChangeSpec := { name := "satRefuses", fn := fun _ => fun
  | [d1, d2] => { results := [.lit (.bool false)], args := [d1, d2] }
  | _ => none }
def SatRefusesWrongFalsely : Prop := satRefusesRow.holds Try.pinned (OpenSpec.ofChange satRefusesWrong)

/-- 'skualaw07.SatCounts': WHATEVER THE INPUT: true; the input reads as it did. -/
def satCountsSpec : ChangeSpec := { name := "satCounts", fn := fun _ => fun
  | [d] => { results := [.lit (.bool true)], args := [d] }
  | _ => none }
def satCountsRow : OpenClaim := { program := "ytminhlpbdpbolaa", sum := "7ce83dbe60aa9a7eb40766b2fb45f64db00fe65ac28203139ff1f359d63593a9", func := "skua/skualaw07.SatCounts", spec := "satCounts", unfollowed := true, recurses := true, apart := false }
def SatCountsSaid : Prop := satCountsRow.holds Try.pinned (OpenSpec.ofChange satCountsSpec)

/-- ITS FALSE NEIGHBOUR: 'it returns false'. Refute it at one input. -/
def satCountsWrong : ChangeSpec := { name := "satCounts", fn := fun _ => fun
  | [d] => { results := [.lit (.bool false)], args := [d] }
  | _ => none }
def SatCountsWrongFalsely : Prop := satCountsRow.holds Try.pinned (OpenSpec.ofChange satCountsWrong)

/-- 'skualaw07.SatLimits': WHATEVER THE INPUT: true; the input reads as it did. -/
def satLimitsSpec : ChangeSpec := { name := "satLimits", fn := fun _ => fun
  | [d1, d2, d3] => { results := [.lit (.bool true)], args := [d1, d2, d3] }
  | _ => none }
def satLimitsRow : OpenClaim := { program := "ytminhlpbdpbolaa", sum := "7ce83dbe60aa9a7eb40766b2fb45f64db00fe65ac28203139ff1f359d63593a9", func := "skua/skualaw07.SatLimits", spec := "satLimits", unfollowed := true, recurses := true, apart := false }
def SatLimitsSaid : Prop := satLimitsRow.holds Try.pinned (OpenSpec.ofChange satLimitsSpec)

/-- ITS FALSE NEIGHBOUR: 'it returns false'. Refute it at one input. -/
def satLimitsWrong : ChangeSpec := { name := "satLimits", fn := fun _ => fun
  | [d1, d2, d3] => { results := [.lit (.bool false)], args := [d1, d2, d3] }
  | _ => none }
def SatLimitsWrongFalsely : Prop := satLimitsRow.holds Try.pinned (OpenSpec.ofChange satLimitsWrong)

/-- 'skualaw07.SatHoles': WHATEVER THE INPUT: true; the input reads as it did. -/
def satHolesSpec : ChangeSpec := { name := "satHoles", fn := fun _ => fun
  | [d] => { results := [.lit (.bool true)], args := [d] }
  | _ => none }
def satHolesRow : OpenClaim := { program := "ytminhlpbdpbolaa", sum := "7ce83dbe60aa9a7eb40766b2fb45f64db00fe65ac28203139ff1f359d63593a9", func := "skua/skualaw07.SatHoles", spec := "satHoles", unfollowed := true, recurses := true, apart := false }
def SatHolesSaid : Prop := satHolesRow.holds Try.pinned (OpenSpec.ofChange satHolesSpec)

/-- ITS FALSE NEIGHBOUR: 'it returns false'. Refute it at one input. -/
def satHolesWrong : ChangeSpec := { name := "satHoles", fn := fun _ => fun
  | [d] => { results := [.lit (.bool false)], args := [d] }
  | _ => none }
def SatHolesWrongFalsely : Prop := satHolesRow.holds Try.pinned (OpenSpec.ofChange satHolesWrong)

/- THE SECOND FORM. 'bulk': how many values and letters a reading holds, each counted each time it is reached (what is shared counts as often as it is met; a slice's spare places count too). A statement '..UptoSaid' is the law's where the arguments, and the package variables that the reading takes, are together of bulk at most 1048576: NARROWER than '..Said'. Prove '..Said' where nothing that the law and all that it calls make is longer than what came in: it says more and counts as full. Else prove '..UptoSaid'. A law counts once. -/
mutual
def uptoBulk {H : Type} : DataW H → Nat
  | .lit (.string bytes) => bytes.length + 1
  | .lit _ => 1
  | .nil => 1
  | .ptr d => uptoBulk d + 1
  | .slice elems spare => uptoBulkAll elems + uptoBulkAll spare + 1
  | .agg parts => uptoBulkAll parts + 1
  | .iface _ d => uptoBulk d + 1
  | .map entries => uptoBulkEntries entries + 1
  | .held _ => 1
def uptoBulkAll {H : Type} : List (DataW H) → Nat
  | [] => 0
  | d :: r => uptoBulk d + uptoBulkAll r
def uptoBulkEntries {H : Type} : List (Lit × DataW H) → Nat
  | [] => 0
  | x :: r => uptoBulkEntry x + uptoBulkEntries r
def uptoBulkEntry {H : Type} : Lit × DataW H → Nat
  | (.string bytes, d) => bytes.length + uptoBulk d + 1
  | (_, d) => uptoBulk d + 1
 end
def uptoSmall : (H : Type) → List (DataW H) → Bool := fun _ ds => decide (uptoBulkAll ds ≤ 1048576)
def OpenSpec.upto (s : _root_.Go.ChangeSpec) : _root_.Go.OpenSpec := { _root_.Go.OpenSpec.ofChange s with cond := some uptoSmall }

/-- 'skualaw07.SatSolves', WHERE WHAT IT READS IS OF BULK AT MOST 1048576: true; the input reads as it did. -/
def satSolvesUptoRow : OpenClaim := { program := "ytminhlpbdpbolaa", sum := "7ce83dbe60aa9a7eb40766b2fb45f64db00fe65ac28203139ff1f359d63593a9", func := "skua/skualaw07.SatSolves", spec := "satSolves", unfollowed := true, recurses := true, apart := false, narrowed := true }
def SatSolvesUptoSaid : Prop := satSolvesUptoRow.holds Try.pinned (OpenSpec.upto satSolvesSpec)

/-- 'skualaw07.SatAgain', WHERE WHAT IT READS IS OF BULK AT MOST 1048576: true; the input reads as it did. -/
def satAgainUptoRow : OpenClaim := { program := "ytminhlpbdpbolaa", sum := "7ce83dbe60aa9a7eb40766b2fb45f64db00fe65ac28203139ff1f359d63593a9", func := "skua/skualaw07.SatAgain", spec := "satAgain", unfollowed := true, recurses := true, apart := false, narrowed := true }
def SatAgainUptoSaid : Prop := satAgainUptoRow.holds Try.pinned (OpenSpec.upto satAgainSpec)

/-- 'skualaw07.SatGrows', WHERE WHAT IT READS IS OF BULK AT MOST 1048576: true; the input reads as it did. -/
def satGrowsUptoRow : OpenClaim := { program := "ytminhlpbdpbolaa", sum := "7ce83dbe60aa9a7eb40766b2fb45f64db00fe65ac28203139ff1f359d63593a9", func := "skua/skualaw07.SatGrows", spec := "satGrows", unfollowed := true, recurses := true, apart := false, narrowed := true }
def SatGrowsUptoSaid : Prop := satGrowsUptoRow.holds Try.pinned (OpenSpec.upto satGrowsSpec)

/-- 'skualaw07.SatChains', WHERE WHAT IT READS IS OF BULK AT MOST 1048576: true; the input reads as it did. -/
def satChainsUptoRow : OpenClaim := { program := "ytminhlpbdpbolaa", sum := "7ce83dbe60aa9a7eb40766b2fb45f64db00fe65ac28203139ff1f359d63593a9", func := "skua/skualaw07.SatChains", spec := "satChains", unfollowed := true, recurses := true, apart := false, narrowed := true }
def SatChainsUptoSaid : Prop := satChainsUptoRow.holds Try.pinned (OpenSpec.upto satChainsSpec)

/-- 'skualaw07.SatRefuses', WHERE WHAT IT READS IS OF BULK AT MOST 1048576: true; the input reads as it did. -/
def satRefusesUptoRow : OpenClaim := { program := "ytminhlpbdpbolaa", sum := "7ce83dbe60aa9a7eb40766b2fb45f64db00fe65ac28203139ff1f359d63593a9", func := "skua/skualaw07.SatRefuses", spec := "satRefuses", unfollowed := true, recurses := true, apart := false, narrowed := true }
def SatRefusesUptoSaid : Prop := satRefusesUptoRow.holds Try.pinned (OpenSpec.upto satRefusesSpec)

/-- 'skualaw07.SatCounts', WHERE WHAT IT READS IS OF BULK AT MOST 1048576: true; the input reads as it did. -/
def satCountsUptoRow : OpenClaim := { program := "ytminhlpbdpbolaa", sum := "7ce83dbe60aa9a7eb40766b2fb45f64db00fe65ac28203139ff1f359d63593a9", func := "skua/skualaw07.SatCounts", spec := "satCounts", unfollowed := true, recurses := true, apart := false, narrowed := true }
def SatCountsUptoSaid : Prop := satCountsUptoRow.holds Try.pinned (OpenSpec.upto satCountsSpec)

/-- 'skualaw07.SatLimits', WHERE WHAT IT READS IS OF BULK AT MOST 1048576: true; the input reads as it did. -/
def satLimitsUptoRow : OpenClaim := { program := "ytminhlpbdpbolaa", sum := "7ce83dbe60aa9a7eb40766b2fb45f64db00fe65ac28203139ff1f359d63593a9", func := "skua/skualaw07.SatLimits", spec := "satLimits", unfollowed := true, recurses := true, apart := false, narrowed := true }
def SatLimitsUptoSaid : Prop := satLimitsUptoRow.holds Try.pinned (OpenSpec.upto satLimitsSpec)

/-- 'skualaw07.SatHoles', WHERE WHAT IT READS IS OF BULK AT MOST 1048576: true; the input reads as it did. -/
def satHolesUptoRow : OpenClaim := { program := "ytminhlpbdpbolaa", sum := "7ce83dbe60aa9a7eb40766b2fb45f64db00fe65ac28203139ff1f359d63593a9", func := "skua/skualaw07.SatHoles", spec := "satHoles", unfollowed := true, recurses := true, apart := false, narrowed := true }
def SatHolesUptoSaid : Prop := satHolesUptoRow.holds Try.pinned (OpenSpec.upto satHolesSpec)

end Rows
end Go.Proofs.Ytminhlpbdpbolaa
