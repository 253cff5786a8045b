/- The solver in plain Lean: what each Go function of package sat does to a solver, as functions on lists; 'none' where nothing is claimed. -/
namespace Go.Proofs.Ytminhlpbdpbolaa.Mir

structure Fact where
  lit : Int
  level : Int
  reason : Option Nat
  score : Int
  phase : Int

structure Cl where
  lits : List Int
  learnt : Bool
  score : Int

structure St where
  vars : List Fact
  heap : List Int
  place : List Int
  wat : List (Int × List Nat)
  learnt : List Nat
  trail : List Int
  limits : List Int
  head : Int
  conflicts : Int
  added : Int
  bump : Int
  broken : Bool
  cls : List Cl

/-- No list grows past this. -/
def LIM : Nat := 1099511627776

def gi {α : Type} (xs : List α) (i : Int) : Option α := if 0 ≤ i then xs[i.toNat]? else none

def ok (n : Int) : Bool := decide (-1048576 ≤ n) && decide (n ≤ 1048576)

def of (n : Int) : Int := max n (-n)

def St.level (M : St) : Int := M.limits.length

def value (M : St) (n : Int) : Option Int :=
  if ok n then (gi M.vars (of n)).map fun f => if f.lit = 0 then 0 else if f.lit = n then 1 else -1 else none

def ahead (M : St) (v w : Int) : Option Bool := do
  let a ← gi M.vars v
  let b ← gi M.vars w
  pure (if a.score = b.score then decide (v < w) else decide (b.score < a.score))

def lay (M : St) (v i : Int) : Option St :=
  if 0 ≤ i ∧ i < M.heap.length ∧ 0 ≤ v ∧ v < M.place.length then
    some { M with heap := M.heap.set i.toNat v, place := M.place.set v.toNat i }
  else none

def upL : Nat → St → Int → Int → Option St
  | 0, _, _, _ => none
  | k + 1, M, v, i =>
    if 0 < i then do
      let p ← gi M.heap ((i - 1) / 2)
      if ← ahead M v p then do
        let M1 ← lay M p i
        upL k M1 v ((i - 1) / 2)
      else lay M v i
    else lay M v i

def up (M : St) (i : Int) : Option St := do
  let v ← gi M.heap i
  upL (i.toNat + 1) M v i

/-- Which of the two below a place comes first. -/
def lesser (M : St) (c : Int) : Option Int :=
  if c + 1 < M.heap.length then do
    let a ← gi M.heap (c + 1)
    let b ← gi M.heap c
    pure (if ← ahead M a b then c + 1 else c)
  else some c

def downL : Nat → St → Int → Int → Option St
  | 0, _, _, _ => none
  | k + 1, M, v, i =>
    if 2 * i + 1 < M.heap.length then do
      let c ← lesser M (2 * i + 1)
      let x ← gi M.heap c
      if ← ahead M x v then do
        let M1 ← lay M x i
        downL k M1 v c
      else lay M v i
    else lay M v i

def down (M : St) (i : Int) : Option St :=
  if M.heap.length ≤ LIM then do
    let v ← gi M.heap i
    downL (M.heap.length + 1) M v i
  else none

def push (M : St) (v : Int) : Option St := do
  let p ← gi M.place v
  if p < 0 then
    if M.heap.length < LIM then do
      let M1 ← lay { M with heap := M.heap ++ [v] } v M.heap.length
      up M1 M.heap.length
    else none
  else some M

def pop (M : St) : Option (St × Int) := do
  let v ← gi M.heap 0
  let last ← gi M.heap (M.heap.length - 1)
  if 0 ≤ v ∧ v < M.place.length then
    let M1 := { M with heap := M.heap.take (M.heap.length - 1), place := M.place.set v.toNat (-1) }
    if 0 < M1.heap.length then do
      let M2 ← lay M1 last 0
      let M3 ← down M2 0
      pure (M3, v)
    else pure (M1, v)
  else none

def growL : Nat → St → Int → Option St
  | 0, _, _ => none
  | k + 1, M, v =>
    if (M.vars.length : Int) ≤ v then
      if M.vars.length < LIM ∧ M.place.length < LIM then do
        let M1 ← push { M with vars := M.vars ++ [⟨0, 0, none, 0, 0⟩], place := M.place ++ [-1] } M.vars.length
        growL k M1 v
      else none
    else some M

def grow (M : St) (n : Int) : Option St := if ok n then growL ((of n).toNat + 2) M (of n) else none

def set (M : St) (n : Int) (why : Option Nat) : Option St :=
  if ok n ∧ M.trail.length < LIM then do
    let f ← gi M.vars (of n)
    pure { M with vars := M.vars.set (of n).toNat { f with lit := n, level := M.level, reason := why, phase := n }, trail := M.trail ++ [n] }
  else none

def unset (M : St) (n : Int) : Option St :=
  if ok n then do
    let f ← gi M.vars (of n)
    push { M with vars := M.vars.set (of n).toNat { f with lit := 0 } } (of n)
  else none

def unsets : List Int → St → Option St
  | [], M => some M
  | n :: ns, M => do
    let M1 ← unset M n
    unsets ns M1

def back (M : St) (level : Int) : Option St :=
  if (M.limits.length : Int) ≤ level then some M
  else do
    let lim ← gi M.limits level
    if 0 ≤ lim ∧ lim ≤ M.trail.length then do
      let M1 ← unsets (M.trail.drop lim.toNat) M
      pure { M1 with trail := M1.trail.take lim.toNat, limits := M1.limits.take level.toNat, head := lim }
    else none

def look (l : List (Int × List Nat)) (k : Int) : List Nat := ((l.find? fun e => e.1 == k).map (·.2)).getD []

def put : List (Int × List Nat) → Int → List Nat → List (Int × List Nat)
  | [], k, x => [(k, x)]
  | e :: r, k, x => if e.1 = k then (k, x) :: r else e :: put r k x

/-- One more at the end of a list of the watches. -/
def addW (M : St) (k : Int) (id : Nat) : Option St :=
  if (look M.wat k).length < LIM then some { M with wat := put M.wat k (look M.wat k ++ [id]) } else none

def watch (M : St) (id : Nat) : Option St := do
  let c ← M.cls[id]?
  let a ← c.lits[0]?
  let b ← c.lits[1]?
  if ok a ∧ ok b then do
    let M1 ← addW M (-a) id
    addW M1 (-b) id
  else none

/-- A list with two of its elements exchanged. -/
def swap (l : List Int) (i j : Nat) : List Int := (l.set i (l.getD j 0)).set j (l.getD i 0)

def setLits (M : St) (id : Nat) (c : Cl) (l : List Int) : St := { M with cls := M.cls.set id { c with lits := l } }

def movedL : Nat → St → Nat → Int → Nat → Option (St × Bool)
  | 0, _, _, _, _ => none
  | f + 1, M, id, n, k => do
    let c ← M.cls[id]?
    match c.lits[k]? with
    | none => pure (M, false)
    | some m =>
      let x ← value M m
      if x = -1 then movedL f M id n (k + 1)
      else if 1 < c.lits.length ∧ ¬ -m = n then do
        let M1 ← addW (setLits M id c (swap c.lits 1 k)) (-m) id
        pure (M1, true)
      else none

def moved (M : St) (id : Nat) (n : Int) : Option (St × Bool) :=
  if ok n then do
    let c ← M.cls[id]?
    let l0 ← c.lits[0]?
    let l1 ← c.lits[1]?
    let M1 := if l0 = -n then setLits M id c (swap c.lits 0 1) else M
    let h := if l0 = -n then l1 else l0
    let x ← value M1 h
    if x = 1 then pure (M1, false)
    else if c.lits.length ≤ LIM then movedL (c.lits.length + 1) M1 id n 2
    else none
  else none

/-- One list of the watches is gone through: which are left, and the clause that can't hold. -/
def spreadL : List Nat → St → Int → List Nat → Option (St × Option Nat)
  | [], M, n, left => some ({ M with wat := put M.wat n left }, none)
  | id :: rest, M, n, left => do
    let (M1, gone) ← moved M id n
    if gone then spreadL rest M1 n left
    else do
      let c ← M1.cls[id]?
      let l0 ← c.lits[0]?
      let x ← value M1 l0
      if x = 1 then spreadL rest M1 n (left ++ [id])
      else if x = -1 then some ({ M1 with wat := put M1.wat n (left ++ [id] ++ rest) }, some id)
      else do
        let M2 ← set M1 l0 (some id)
        spreadL rest M2 n (left ++ [id])

def spreadK : Nat → St → Option (St × Option Nat)
  | 0, _ => none
  | k + 1, M =>
    if M.head < M.trail.length then do
      let n ← gi M.trail M.head
      if (look M.wat n).length ≤ LIM then do
        let (M1, c) ← spreadL (look M.wat n) { M with head := M.head + 1 } n []
        match c with
        | some id => pure (M1, some id)
        | none => spreadK k M1
      else none
    else some (M, none)

def spread (M : St) : Option (St × Option Nat) := spreadK (M.vars.length + 2) M

def rescale (M : St) : St := { M with vars := M.vars.map fun f => { f with score := f.score / 1048576 }, bump := max (M.bump / 1048576) 1 }

def small (n : Int) : Bool := decide (-1125899906842624 ≤ n) && decide (n ≤ 1125899906842624)

def used (M : St) (v : Int) : Option St := do
  let f ← gi M.vars v
  if small f.score ∧ small M.bump then do
    let M1 := { M with vars := M.vars.set v.toNat { f with score := f.score + M.bump } }
    let p ← gi M1.place v
    let M2 ← if 0 ≤ p then up M1 p else some M1
    let g ← gi M2.vars v
    if 1099511627776 < g.score then pure (rescale M2) else pure M2
  else none

/-- What is gathered while a clause is learnt: literals, variables seen, how many of the last level. -/
structure Got where
  out : List Int
  seen : List Int
  count : Int

def gather : List Int → St → Int → Got → Option (St × Got)
  | [], M, _, g => some (M, g)
  | m :: ms, M, n, g =>
    if ok m then do
      let f ← gi M.vars (of m)
      if m = n ∨ of m ∈ g.seen ∨ f.level = 0 then gather ms M n g
      else do
        let M1 ← used M (of m)
        let f1 ← gi M1.vars (of m)
        if g.out.length < LIM ∧ g.count < LIM then
          if f1.level = M1.level then gather ms M1 n { g with seen := of m :: g.seen, count := g.count + 1 }
          else gather ms M1 n { g with seen := of m :: g.seen, out := g.out ++ [m] }
        else none
    else none

def seek : Nat → St → List Int → Int → Option Int
  | 0, _, _, _ => none
  | k + 1, M, seen, at' => do
    let m ← gi M.trail at'
    if ok m then (if of m ∈ seen then some at' else seek k M seen (at' - 1)) else none

def learnL : Nat → St → Nat → Int → Int → Got → Option (St × Int × Got)
  | 0, _, _, _, _, _ => none
  | k + 1, M, id, n, at', g => do
    let c ← M.cls[id]?
    let M1 := { M with cls := M.cls.set id { c with score := M.conflicts } }
    let (M2, g2) ← gather c.lits M1 n g
    let a ← seek (M2.trail.length + 1) M2 g2.seen at'
    let m ← gi M2.trail a
    if g2.count = 1 then some (M2, m, g2)
    else do
      let f ← gi M2.vars (of m)
      let r ← f.reason
      learnL k M2 r m (a - 1) { g2 with count := g2.count - 1 }

/-- The literal of the highest level but the first one's comes second. -/
def order : Nat → St → List Int → Int → Nat → Option (List Int × Int)
  | 0, _, _, _, _ => none
  | f + 1, M, out, back, i =>
    match out[i]? with
    | none => some (out, back)
    | some m =>
      if ok m then do
        let x ← gi M.vars (of m)
        if back < x.level then order f M (swap out 1 i) x.level (i + 1) else order f M out back (i + 1)
      else none

def learn (M : St) (id : Nat) : Option (St × List Int × Int) :=
  if M.trail.length ≤ LIM then do
    let (M1, n, g) ← learnL (M.trail.length + 1) M id 0 (M.trail.length - 1) ⟨[0], [], 0⟩
    if ok n then do
      let (out, b) ← order (g.out.length + 1) M1 (g.out.set 0 (-n)) 0 1
      pure (M1, out, b)
    else none
  else none

def take (M : St) (lits : List Int) (b : Int) : Option St := do
  let M1 ← back M b
  match lits with
  | [] => none
  | [n] => set M1 n none
  | n :: _ =>
    if M1.learnt.length < LIM then do
      let id := M1.cls.length
      let M2 ← watch { M1 with cls := M1.cls ++ [⟨lits, true, M1.conflicts⟩], learnt := M1.learnt ++ [id] } id
      set M2 n (some id)
    else none

def chooseL : Nat → St → Option (St × Int)
  | 0, _ => none
  | k + 1, M =>
    if 0 < M.heap.length then do
      let (M1, v) ← pop M
      let f ← gi M1.vars v
      if f.lit = 0 then pure (M1, v) else chooseL k M1
    else some (M, 0)

def choose (M : St) : Option (St × Int) := chooseL (M.heap.length + 1) M

def decideL : Nat → St → List Int → Option (St × Int × Bool)
  | 0, _, _ => none
  | k + 1, M, assume =>
    if M.limits.length < assume.length then do
      let n ← assume[M.limits.length]?
      let x ← value M n
      if x = -1 then pure (M, n, false)
      else if x = 0 then pure (M, n, true)
      else decideL k { M with limits := M.limits ++ [(M.trail.length : Int)] } assume
    else do
      let (M1, v) ← choose M
      if 0 < v then do
        let f ← gi M1.vars v
        if f.phase = v then pure (M1, v, true)
        else if ok v then pure (M1, -v, true) else none
      else pure (M1, v, true)

def decide' (M : St) (assume : List Int) : Option (St × Int × Bool) :=
  if assume.length < LIM then decideL (assume.length + 1) M assume else none

/-- From the top of what is true down: the variables that a false literal hangs on, and the assumed ones among them. -/
def coreL : Nat → St → List Int → Int → List Int → List Int → Option (List Int)
  | 0, _, _, _, _, _ => none
  | k + 1, M, assume, i, why, out =>
    if 0 ≤ i ∧ 0 < M.limits.length ∧ M.limits.headD 0 ≤ i then do
      let m ← gi M.trail i
      if ok m then
        if of m ∈ why then do
          let f ← gi M.vars (of m)
          match f.reason with
          | some id => do
            let c ← M.cls[id]?
            if c.lits.all ok then coreL k M assume (i - 1) (c.lits.map of ++ why) out else none
          | none =>
            if m ∈ assume then (if out.length < LIM then coreL k M assume (i - 1) why (out ++ [m]) else none)
            else coreL k M assume (i - 1) why out
        else coreL k M assume (i - 1) why out
      else none
    else some out

def insertI (x : Int) : List Int → List Int
  | [] => [x]
  | y :: r => if x ≤ y then x :: y :: r else y :: insertI x r

def sorted : List Int → List Int
  | [] => []
  | x :: r => insertI x (sorted r)

/-- Without neighbours that are alike. -/
def compact : List Int → List Int
  | [] => []
  | x :: r => match compact r with
    | [] => [x]
    | y :: t => if x = y then y :: t else x :: y :: t

def core (M : St) (n : Int) (assume : List Int) : Option (List Int) :=
  if ok n ∧ M.trail.length ≤ LIM then do
    let out ← coreL (M.trail.length + 1) M assume (M.trail.length - 1) [of n] [n]
    pure (compact (sorted out))
  else none

def model (M : St) : List Int := (M.vars.drop 1).map (·.lit)

inductive Ans where
  | sat (m : List Int)
  | unsat (core : List Int)
  | limit

def solveL : Nat → St → Int → List Int → Int → Option (St × Ans)
  | 0, _, _, _, _ => none
  | k + 1, M, limit, assume, count =>
    if M.broken then some (M, .unsat [])
    else do
      let (M1, c) ← spread M
      match c with
      | some id =>
        if 0 ≤ M1.conflicts ∧ M1.conflicts < LIM ∧ 0 ≤ count ∧ count < LIM ∧ 0 ≤ M1.bump ∧ small M1.bump then
          let M2 := { M1 with conflicts := M1.conflicts + 1 }
          if M2.limits.length = 0 then some ({ M2 with broken := true }, .unsat [])
          else do
            let (M3, lits, b) ← learn M2 id
            let M4 ← take M3 lits b
            let M5 := { M4 with bump := M4.bump + (1 + M4.bump / 16) }
            if 0 < limit ∧ limit ≤ count + 1 then do
              let M6 ← back M5 0
              pure (M6, .limit)
            else do
              let M6 ← if (count + 1) % 64 = 0 then back M5 0 else some M5
              solveL k M6 limit assume (count + 1)
        else none
      | none =>
        if (M1.learnt.length : Int) ≤ 2000 + M1.added / 2 ∧ 0 ≤ M1.added then do
          let (M2, n, fine) ← decide' M1 assume
          if fine then
            if n = 0 then (if M2.vars.length ≤ LIM then pure (M2, .sat (model M2)) else none)
            else if M2.limits.length < LIM then do
              let M3 ← set { M2 with limits := M2.limits ++ [(M2.trail.length : Int)] } n none
              solveL k M3 limit assume count
            else none
          else do
            let c ← core M2 n assume
            pure (M2, .unsat c)
        else none

def grows : List Int → St → Option St
  | [], M => some M
  | n :: ns, M => do
    let M1 ← grow M n
    grows ns M1

def right (n : Int) : Bool := !(n == 0) && ok n

def solve (k : Nat) (M : St) (limit : Int) (assume : List Int) : Option (St × Ans) := do
  let M1 ← back M 0
  let M2 ← grows assume M1
  solveL k M2 limit assume 0

/-- A clause rising, each literal once; none: it always holds. -/
def clean (c : List Int) : Option (List Int) :=
  let d := compact (sorted c)
  if d.any fun n => !(n == 0) && d.contains (-n) then none else some d

def news : St := ⟨[⟨0, 0, none, 0, 0⟩], [], [-1], [], [], [], [], 0, 0, 0, 1, false, []⟩

/-- Without the literals that are false. -/
def strip (M : St) : List Int → Option (List Int)
  | [] => some []
  | n :: ns => do
    let x ← value M n
    let r ← strip M ns
    pure (if x = -1 then r else n :: r)

/-- Is one of the literals true? -/
def anyTrue (M : St) : List Int → Option Bool
  | [] => some false
  | n :: ns => do
    let x ← value M n
    if x = 1 then pure true else anyTrue M ns

def add (M : St) (lits : List Int) : Option St :=
  if 0 ≤ M.added ∧ M.added < LIM ∧ lits.length ≤ LIM then do
    let M1 ← back { M with added := M.added + 1 } 0
    let M2 ← grows lits M1
    match clean lits with
    | none => pure M2
    | some c =>
      if ← anyTrue M2 c then pure M2
      else do
        let d ← strip M2 c
        match d with
        | [] => pure { M2 with broken := true }
        | [n] => do
          let M3 ← set M2 n none
          if M3.broken then pure M3
          else do
            let (M4, x) ← spread M3
            pure { M4 with broken := x.isSome }
        | _ => watch { M2 with cls := M2.cls ++ [⟨d, false, 0⟩] } M2.cls.length
  else none

end Go.Proofs.Ytminhlpbdpbolaa.Mir
