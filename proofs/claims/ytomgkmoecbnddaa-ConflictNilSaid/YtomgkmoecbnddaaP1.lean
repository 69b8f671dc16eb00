/- Conflict: the graph in plain words: transactions by their numbers, no memory. -/
import Derived.Test.YtomgkmoecbnddaaFacts
set_option linter.unusedVariables false
set_option linter.unusedSimpArgs false
set_option linter.unnecessarySimpa false
namespace Go.Proofs.Ytomgkmoecbnddaa

/-- a transaction: ins, outs: the numbers of the unfinished ones it has edges from and to -/
structure Nd where
  id : Int
  begin_ : Int
  state : Int
  seq : Int
  ro : Bool
  dm : Bool
  ins : List Int
  outs : List Int
  reach : Int
  least : Int
  beside : List Int
  deriving DecidableEq
/-- the graph: lists in the order in which the maps were filled -/
structure Gr where
  most : Int
  commits : Int
  live : List Nd
  ended : List Nd
  deriving DecidableEq
def none_ : Int := 4611686018427387903
def findL (l : List Nd) (tx : Int) : Option Nd := l.find? fun n => decide (n.id = tx)
def Gr.find (g : Gr) (tx : Int) : Option Nd := (findL g.live tx).or (findL g.ended tx)
def Gr.new (most : Int) : Gr := ⟨most, 0, [], []⟩
/-- numbers in order -/
def insI (x : Int) : List Int → List Int
  | [] => [x]
  | y :: l => if x ≤ y then x :: y :: l else y :: insI x l
def sortI : List Int → List Int
  | [] => []
  | x :: l => insI x (sortI l)
/-- a change of the transactions with these numbers -/
def updL (l : List Nd) (p : Int → Bool) (f : Nd → Nd) : List Nd := l.map fun n => if p n.id then f n else n
def Gr.upd (g : Gr) (p : Int → Bool) (f : Nd → Nd) : Gr := { g with live := updL g.live p f, ended := updL g.ended p f }
/-- committed transactions that nobody unfinished is concurrent with go -/
def Gr.oldest (g : Gr) : Int := g.live.foldl (fun o n => if n.begin_ < o then n.begin_ else o) none_
def Gr.forget (g : Gr) : Gr := { g with ended := g.ended.filter fun n => !decide (n.seq ≤ g.oldest) }
def rmI (l : List Int) (x : Int) : List Int := l.filter fun y => !decide (y = x)
def Gr.abort (g : Gr) (tx : Int) : Gr :=
  match g.find tx with
  | none => g
  | some n =>
    if n.state = 2 then g else
    let g := g.upd (fun x => n.ins.contains x) fun r => { r with outs := rmI r.outs tx }
    let g := g.upd (fun x => n.outs.contains x) fun w => { w with ins := rmI w.ins tx }
    Gr.forget { g with live := g.live.filter fun x => !decide (x.id = tx) }
def Gr.begin (g : Gr) (tx : Int) (ro : Bool) : Gr :=
  let add (g : Gr) : Gr := { g with live := (g.live.filter fun x => !decide (x.id = tx)) ++ [⟨tx, g.commits, 0, 0, ro, false, [], [], 0, none_, sortI ((g.live.filter fun x => !x.ro).map (·.id))⟩] }
  match g.find tx with
  | none => add g
  | some n => if n.state ≠ 0 ∨ n.ro = false ∨ ro = false then g else add (g.abort tx)
def Nd.far (n : Nd) : Int := if n.ro then n.begin_ + 1 else if n.state = 2 then n.seq + 1 else none_
/-- a dangerous structure -/
structure Str where
  a : Option Nd
  p : Nd
  b : Option Nd
  deriving DecidableEq
def Str.victim (s : Str) : Option Int :=
  if s.p.state = 0 then some s.p.id
  else if s.a.isSome ∧ (s.a.map (·.state)) = some 0 ∧ (s.a.map (·.id)) ≠ (s.b.map (·.id)) then s.a.map (·.id)
  else if s.b.isSome ∧ (s.b.map (·.state)) = some 0 then s.b.map (·.id)
  else none
def Nd.gone (n : Nd) : Bool := decide (n.state = 0) && n.dm
def Gr.into (g : Gr) (a p : Nd) : List Str :=
  if a.gone || p.gone then [] else
  (if p.least < a.far ∧ (p.state ≠ 2 ∨ p.least < p.seq) then [⟨some a, p, none⟩] else []) ++
  (sortI p.outs).filterMap fun k => (g.find k).bind fun b => if b.state = 1 ∧ p.state ≠ 2 ∧ a.ro = false ∧ a.state ≠ 2 then some ⟨some a, p, some b⟩ else none
def Gr.from (g : Gr) (p b : Nd) (asked : Bool) : List Str :=
  if ¬ ((b.state = 2 ∧ (p.state ≠ 2 ∨ p.seq > b.seq)) ∨ ((asked = true ∨ b.state = 1) ∧ b.state ≠ 2 ∧ p.state ≠ 2)) ∨ p.gone ∨ b.gone then [] else
  (if b.state = 2 ∧ p.reach > b.seq then [⟨none, p, some b⟩] else []) ++
  (sortI p.ins).filterMap fun k => (g.find k).bind fun a => if a.gone ∨ (a.ro = true ∧ ¬ (b.state = 2 ∧ b.seq < a.far)) then none else some ⟨some a, p, some b⟩
def addI (l : List Int) (x : Int) : List Int := if l.contains x then l else l ++ [x]
def Gr.link (g : Gr) (r w : Nd) : Gr :=
  if w.state = 2 then g.upd (fun x => decide (x = r.id)) fun n => { n with least := min n.least w.seq }
  else if r.state = 2 then g.upd (fun x => decide (x = w.id)) fun n => { n with reach := max n.reach r.far }
  else (g.upd (fun x => decide (x = r.id)) fun n => { n with outs := addI n.outs w.id }).upd (fun x => decide (x = w.id)) fun n => { n with ins := addI n.ins r.id }
def Gr.doom (g : Gr) (l : List Str) : Gr := l.foldl (fun g s => match s.victim with | none => g | some v => g.upd (fun x => decide (x = v)) fun n => { n with dm := true }) g
def Gr.doomed (g : Gr) (tx : Int) : Bool := match g.find tx with | none => false | some n => n.gone
def Gr.edge (g : Gr) (reader writer acts : Int) : Int × Gr :=
  match g.find reader, g.find writer with
  | some r, some w =>
    if reader = writer ∨ (r.state = 2 ∧ w.state = 2) ∨ (r.state = 2 ∧ r.seq ≤ w.begin_) ∨ (w.state = 2 ∧ w.seq ≤ r.begin_) then (0, g) else
    let g := g.link r w
    match g.find reader, g.find writer with
    | some r, some w =>
      let g := g.doom (g.into r w ++ g.from r w false)
      (if g.doomed acts then 43 else 0, g)
    | _, _ => (0, g)
  | _, _ => (0, g)
def Gr.check (g : Gr) (tx : Int) : Int × Gr :=
  match g.find tx with
  | none => (41, g)
  | some n =>
    if n.state ≠ 0 then (41, g) else
    if n.dm then (43, g) else
    let l := (sortI n.ins).flatMap fun k => match g.find k with | none => [] | some p => (g.from p n true).filterMap Str.victim
    if l.contains tx then (43, g.upd (fun x => decide (x = tx)) fun n => { n with dm := true })
    else (0, (g.upd (fun x => l.contains x) fun n => { n with dm := true }).upd (fun x => decide (x = tx)) fun n => { n with state := 1 })
def Gr.commit (g : Gr) (tx : Int) : Gr :=
  match g.find tx with
  | none => g
  | some n =>
    if n.state = 2 then g else
    let c := g.commits + 1
    let n' : Nd := { n with state := 2, seq := c, ins := [], outs := [] }
    let g : Gr := { g with commits := c, live := g.live.filter fun x => !decide (x.id = tx), ended := (g.ended.filter fun x => !decide (x.id = tx)) ++ [n'] }
    let g := g.upd (fun x => n.ins.contains x) fun r => { r with outs := rmI r.outs tx, least := min r.least c }
    let g := g.upd (fun x => n.outs.contains x) fun w => { w with ins := rmI w.ins tx, reach := max w.reach n'.far }
    g.forget
def Gr.prepare (g : Gr) (tx : Int) : Gr :=
  match g.find tx with
  | none => g
  | some n => if n.state = 0 then g.upd (fun x => decide (x = tx)) fun n => { n with state := 1 } else g
/-- the examples of the chapter -/
def gA : Gr := ((Gr.new 4).begin 1 false).begin 2 false
def gB : Int × Gr := gA.edge 1 2 1
def gC : Int × Gr := gB.2.edge 2 1 2
def gD : Int × Gr := gC.2.check 1
def gE : Int × Gr := (gD.2.commit 1).check 2
theorem example1 : gB.1 = 0 ∧ gC.1 = 0 ∧ gD.1 = 0 ∧ gE.1 = 43 := by decide
def hA : Int × Gr := (((Gr.new 0).begin 1 false).begin 2 false).check 1
def hB : Int × Gr := ((hA.2.commit 1).begin 3 true).edge 2 1 2
def hC : Int × Gr := hB.2.edge 3 2 3
theorem example2 : hA.1 = 0 ∧ hB.1 = 0 ∧ hC.1 = 0 ∧ hC.2.doomed 2 = true ∧ hC.2.doomed 3 = false := by decide
end Go.Proofs.Ytomgkmoecbnddaa
