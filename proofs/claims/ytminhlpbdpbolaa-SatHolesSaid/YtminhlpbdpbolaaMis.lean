/- The search in plain Lean, as the code's two loops go. -/
import Derived.Test.YtminhlpbdpbolaaMir
namespace Go.Proofs.Ytminhlpbdpbolaa.Mir

def hit (M : St) : St := { M with conflicts := M.conflicts + 1 }
def brk (M : St) : St := { M with broken := true }
def bumped (M : St) : St := { M with bump := M.bump + (1 + M.bump / 16) }

/-- Behind a spread: a conflict, or the next decision. 'go': the search from there on (true: from the outer loop's head). -/
def solveB (go : Bool → St → Int → Option (St × Ans)) (M1 : St) (c : Option Nat) (limit : Int) (assume : List Int) (count : Int) : Option (St × Ans) :=
  match c with
  | some id =>
    if 0 ≤ M1.conflicts ∧ M1.conflicts < LIM ∧ 0 ≤ count ∧ count < LIM ∧ 0 ≤ M1.bump ∧ small M1.bump then
      if M1.limits.length = 0 then some (brk (hit M1), .unsat [])
      else do
        let (M3, lits, b) ← learn (hit M1) id
        let M4 ← take M3 lits b
        if 0 ≤ M4.bump ∧ small M4.bump then
          if 0 < limit ∧ limit ≤ count + 1 then do
            let M6 ← back (bumped M4) 0
            pure (M6, .limit)
          else do
            let M6 ← if (count + 1) % 64 = 0 then back (bumped M4) 0 else some (bumped M4)
            go false M6 (count + 1)
        else none
    else none
  | none =>
    if (M1.learnt.length : Int) ≤ 2000 + M1.added / 2 ∧ 0 ≤ M1.added ∧ M1.added ≤ LIM then do
      let (M2, n, fine) ← decide' M1 assume
      if fine then
        if n = 0 then (if M2.vars.length ≤ LIM then pure (M2, .sat (model M2)) else none)
        else if M2.limits.length < LIM then do
          let M3 ← set { M2 with limits := M2.limits ++ [(M2.trail.length : Int)] } n none
          go true M3 count
        else none
      else do
        let c ← core M2 n assume
        pure (M2, .unsat c)
    else none

def solveT : Nat → Int → List Int → Bool → St → Int → Option (St × Ans)
  | 0, _, _, _, _, _ => none
  | k + 1, limit, assume, top, M, count =>
    if top = true ∧ M.broken = true then some (M, .unsat [])
    else (spread M).bind fun p => solveB (solveT k limit assume) p.1 p.2 limit assume count

def solveF (k : Nat) (M : St) (limit : Int) (assume : List Int) : Option (St × Ans) := do
  let M1 ← back M 0
  let M2 ← grows assume M1
  solveT k limit assume true M2 0

end Go.Proofs.Ytminhlpbdpbolaa.Mir
