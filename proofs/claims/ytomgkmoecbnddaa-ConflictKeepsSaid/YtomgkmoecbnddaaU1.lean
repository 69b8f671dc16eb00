/- Conflict: the reference in plain words, and how the graph goes together with it. -/
import Derived.Test.YtomgkmoecbnddaaS1
set_option linter.unusedVariables false
set_option linter.unusedSimpArgs false
set_option linter.unnecessarySimpa false
namespace Go.Proofs.Ytomgkmoecbnddaa
/-- a transaction of the reference -/
structure RT where
  id : Int
  bg : Int
  st : Int
  sq : Int
  ro : Bool
  dm : Bool
  bs : List Int
structure RG where
  L : List RT
  E : List (Int × Int)
  n : Int
def findR (l : List RT) (k : Int) : Option RT := l.find? fun x => decide (x.id = k)
def RT.gone (x : RT) : Bool := decide (x.st = 1) && x.dm
def RT.far (x : RT) : Int := if x.ro then x.bg + 1 else if x.st = 3 then x.sq + 1 else none_
theorem findR_some {l : List RT} {k : Int} {n : RT} (h : findR l k = some n) : n ∈ l ∧ n.id = k := by
  unfold findR at h
  exact ⟨List.mem_of_find?_eq_some h, by have := List.find?_some h; simpa using this⟩
theorem findR_none {l : List RT} {k : Int} (h : findR l k = none) : ∀ n ∈ l, n.id ≠ k := by
  unfold findR at h
  intro n hn
  simpa using List.find?_eq_none.1 h n hn
theorem findR_no {l : List RT} {k : Int} (h : ∀ n ∈ l, n.id ≠ k) : findR l k = none := by
  cases hf : findR l k with
  | none => rfl
  | some n => obtain ⟨h1, h2⟩ := findR_some hf; exact absurd h2 (h n h1)
theorem nodup_id {l : List RT} (hn : (l.map (·.id)).Nodup) {x y : RT} (hx : x ∈ l) (hy : y ∈ l) (he : x.id = y.id) : x = y := by
  induction l with
  | nil => cases hx
  | cons a l ih =>
    rw [List.map_cons, List.nodup_cons] at hn
    rcases List.mem_cons.1 hx with e1 | h1
    · rcases List.mem_cons.1 hy with e2 | h2
      · rw [e1, e2]
      · exact absurd (List.mem_map.2 ⟨y, h2, by rw [← he, e1]⟩) hn.1
    · rcases List.mem_cons.1 hy with e2 | h2
      · exact absurd (List.mem_map.2 ⟨x, h1, by rw [he, e2]⟩) hn.1
      · exact ih hn.2 h1 h2
theorem nodup_nd {l : List Nd} (hn : (l.map (·.id)).Nodup) {x y : Nd} (hx : x ∈ l) (hy : y ∈ l) (he : x.id = y.id) : x = y := by
  induction l with
  | nil => cases hx
  | cons a l ih =>
    rw [List.map_cons, List.nodup_cons] at hn
    rcases List.mem_cons.1 hx with e1 | h1
    · rcases List.mem_cons.1 hy with e2 | h2
      · rw [e1, e2]
      · exact absurd (List.mem_map.2 ⟨y, h2, by rw [← he, e1]⟩) hn.1
    · rcases List.mem_cons.1 hy with e2 | h2
      · exact absurd (List.mem_map.2 ⟨x, h1, by rw [he, e2]⟩) hn.1
      · exact ih hn.2 h1 h2
theorem findR_mem {l : List RT} (hn : (l.map (·.id)).Nodup) {x : RT} (h : x ∈ l) : findR l x.id = some x := by
  cases hf : findR l x.id with
  | none => exact absurd rfl (findR_none hf x h)
  | some m => obtain ⟨h1, h2⟩ := findR_some hf; rw [nodup_id hn h1 h h2]
/-! ### the reference's functions -/
def firstR (a p b : RT) (asked : Bool) : Bool :=
  let rest : Bool := if a.ro then decide (b.st = 3 ∧ b.sq ≤ a.bg) else if a.id = b.id ∨ a.st ≠ 3 then true else decide (b.st = 3 ∧ b.sq < a.sq)
  if b.st = 3 then (if p.st = 3 ∧ p.sq < b.sq then false else rest)
  else if (asked = false ∧ b.st ≠ 2) ∨ p.st = 3 then false else rest
def victR (a p b : RT) : Option Int :=
  if p.st = 1 then some p.id else if a.st = 1 ∧ a.id ≠ b.id then some a.id else if b.st = 1 then some b.id else none
/-- the victim of a pair of edges -/
def vic1 (l : List RT) (e : Int × Int) (all : Bool) (x y : Int × Int) : Option Int :=
  if x.2 ≠ y.1 ∨ (all = false ∧ x ≠ e ∧ y ≠ e) ∨ (all = true ∧ y.2 ≠ e.2) then none else
  match findR l x.1, findR l x.2, findR l y.2 with
  | some a, some p, some b => if (a.gone || p.gone || b.gone) = false ∧ firstR a p b all = true then victR a p b else none
  | _, _, _ => none
def vics (l : List RT) (E : List (Int × Int)) (e : Int × Int) (all : Bool) : List Int := E.flatMap fun x => E.filterMap (vic1 l e all x)
def rDm (l : List Int) (x : RT) : RT := if l.contains x.id then { x with dm := true } else x
def RG.doom (g : RG) (l : List Int) : RG := { g with L := g.L.map (rDm l) }
def RG.isDoomed (g : RG) (tx : Int) : Bool := match findR g.L tx with | none => false | some x => x.dm && decide (x.st = 1)
def noEdgeR (x y : RT) : Prop := x.id = y.id ∨ (x.st = 3 ∧ y.st = 3) ∨ (x.st = 3 ∧ x.sq ≤ y.bg) ∨ (y.st = 3 ∧ y.sq ≤ x.bg)
instance (x y : RT) : Decidable (noEdgeR x y) := by unfold noEdgeR; infer_instance
def RG.link (g : RG) (e : Int × Int) : RG := { g with E := if e ∈ g.E then g.E else g.E ++ [e] }
def RG.edgeG (g : RG) (a b : Int) : RG :=
  match findR g.L a, findR g.L b with
  | some x, some y => if noEdgeR x y then g else (g.link (a, b)).doom (vics g.L (g.link (a, b)).E (a, b) false)
  | _, _ => g
def RG.edgeR (g : RG) (a b acts : Int) : Int :=
  match findR g.L a, findR g.L b with
  | some x, some y => if noEdgeR x y then 0 else if (g.edgeG a b).isDoomed acts then 43 else 0
  | _, _ => 0
def setSt (tx s : Int) (x : RT) : RT := if x.id = tx then { x with st := s } else x
def RG.checkQ (g : RG) (tx : Int) : Int × RG :=
  match findR g.L tx with
  | none => (41, g)
  | some x => if x.st ≠ 1 then (41, g) else if x.dm = true then (43, g) else
    let l := vics g.L g.E (0, tx) true
    if tx ∈ l then (43, g.doom [tx]) else (0, { g.doom l with L := (g.doom l).L.map (setSt tx 2) })
def setDone (tx c : Int) (x : RT) : RT := if x.id = tx then { x with st := 3, sq := c } else x
def RG.commit (g : RG) (tx : Int) : RG :=
  match findR g.L tx with
  | none => g
  | some x => if x.st = 3 then g else { g with L := g.L.map (setDone tx (g.n + 1)), n := g.n + 1 }
def RG.prepare (g : RG) (tx : Int) : RG :=
  match findR g.L tx with
  | none => g
  | some x => if x.st = 1 then { g with L := g.L.map (setSt tx 2) } else g
def withoutE (E : List (Int × Int)) (tx : Int) : List (Int × Int) := E.filter fun e => !decide (e.1 = tx) && !decide (e.2 = tx)
def RG.abort (g : RG) (tx : Int) : RG :=
  match findR g.L tx with
  | none => g
  | some x => if x.st = 3 then g else { g with L := g.L.filter fun y => !decide (y.id = tx), E := withoutE g.E tx }
def besR (l : List RT) (tx : Int) : List Int := (l.filter fun y => !decide (y.id = tx) && !y.ro && !decide (y.st = 3)).map (·.id)
def newR (g : RG) (tx : Int) (ro : Bool) : RT := ⟨tx, g.n, 1, 0, ro, false, besR g.L tx⟩
def RG.begin (g : RG) (tx : Int) (ro : Bool) : RG :=
  match findR g.L tx with
  | none => { g with L := g.L ++ [newR g tx ro] }
  | some x => if x.st ≠ 1 ∨ x.ro = false ∨ ro = false then g else { g with L := g.L.map fun y => if y.id = tx then newR g tx ro else y, E := withoutE g.E tx }
/-- Safe: known and safe -/
def badR (g : RG) (x y : RT) : Bool := x.bs.contains y.id && decide (y.st = 3) && g.E.any fun e => decide (e.1 = y.id) && (match findR g.L e.2 with | none => false | some b => decide (b.st = 3 ∧ b.sq ≤ x.bg))
def endR (g : RG) (x : RT) : Bool := g.L.all fun y => !x.bs.contains y.id || decide (y.st = 3)
def RG.safe (g : RG) (tx : Int) : Bool × Bool :=
  match findR g.L tx with
  | none => (false, false)
  | some x => if x.ro = false ∨ x.st = 3 then (false, false) else if g.L.any (badR g x) then (true, false) else (endR g x, endR g x)
def RG.isLive (g : RG) (tx : Int) : Bool :=
  match findR g.L tx with
  | none => false
  | some x => if x.st ≠ 3 then true else g.L.any fun y => !y.ro && !decide (y.st = 3) && decide (y.bg < x.sq)
def RG.active (g : RG) : Nat := (g.L.filter fun y => !decide (y.st = 3)).length
/-! ### the graph and the reference together -/
structure ROk (r : RG) : Prop where
  nd : (r.L.map (·.id)).Nodup
  st : ∀ x ∈ r.L, x.st = 1 ∨ x.st = 2 ∨ x.st = 3
  rg : ∀ x ∈ r.L, 0 ≤ x.bg ∧ x.bg ≤ r.n ∧ (x.st = 3 → x.bg < x.sq ∧ x.sq ≤ r.n)
  sd : ∀ x ∈ r.L, ∀ y ∈ r.L, x.st = 3 → y.st = 3 → x.sq = y.sq → x.id = y.id
  ed : ∀ e ∈ r.E, e.1 ≠ e.2 ∧ (∃ x ∈ r.L, x.id = e.1) ∧ (∃ x ∈ r.L, x.id = e.2)
  cn : 0 ≤ r.n
  bb : ∀ x ∈ r.L, ∀ y ∈ r.L, y.id ∈ x.bs → y.st = 3 → x.bg < y.sq
structure Mt (r : RG) (x : RT) (n : Nd) : Prop where
  id : n.id = x.id
  bg : n.begin_ = x.bg
  st : n.state = x.st - 1
  sq : x.st = 3 → n.seq = x.sq
  ro : n.ro = x.ro
  dm : n.dm = x.dm
  ins : x.st ≠ 3 → ∀ k, k ∈ n.ins ↔ (k, x.id) ∈ r.E ∧ ∃ a ∈ r.L, a.id = k ∧ a.st ≠ 3
  outs : x.st ≠ 3 → ∀ k, k ∈ n.outs ↔ (x.id, k) ∈ r.E ∧ ∃ b ∈ r.L, b.id = k ∧ b.st ≠ 3
  least : ∀ c, c ≤ none_ → (n.least < c ↔ ∃ b ∈ r.L, b.st = 3 ∧ (x.id, b.id) ∈ r.E ∧ b.sq < c ∧ (x.st = 3 → b.sq < x.sq))
  reach : x.st ≠ 3 → ∀ c, 0 ≤ c → (c < n.reach ↔ ∃ a ∈ r.L, a.st = 3 ∧ (a.id, x.id) ∈ r.E ∧ c < a.far)
  bs : ∀ k, k ∈ n.beside ↔ k ∈ x.bs
  bl : n.beside.length ≤ 1000000
structure Cp (g : Gr) (r : RG) : Prop where
  ok : ROk r
  nd : (g.nodes.map (·.id)).Nodup
  cm : g.commits = r.n
  lv : ∀ n ∈ g.live, ∃ x ∈ r.L, x.st ≠ 3 ∧ Mt r x n
  lv' : ∀ x ∈ r.L, x.st ≠ 3 → ∃ n ∈ g.live, n.id = x.id
  en : ∀ n ∈ g.ended, ∃ x ∈ r.L, x.st = 3 ∧ Mt r x n
  en' : ∀ x ∈ r.L, x.st = 3 → ((∃ n ∈ g.ended, n.id = x.id) ↔ ∃ y ∈ r.L, y.st ≠ 3 ∧ y.bg < x.sq)
theorem ex_map {α : Type} {L : List α} {F : α → α} {p : α → Prop} : (∃ b ∈ L.map F, p b) ↔ ∃ b ∈ L, p (F b) := by
  constructor
  · rintro ⟨b, hb, h⟩
    obtain ⟨a, ha, rfl⟩ := List.mem_map.1 hb
    exact ⟨a, ha, h⟩
  · rintro ⟨b, hb, h⟩
    exact ⟨F b, List.mem_map.2 ⟨b, hb, rfl⟩, h⟩
theorem ex_congr {α : Type} {L : List α} {p q : α → Prop} (h : ∀ b ∈ L, p b ↔ q b) : (∃ b ∈ L, p b) ↔ ∃ b ∈ L, q b :=
  ⟨fun ⟨b, hb, hp⟩ => ⟨b, hb, (h b hb).1 hp⟩, fun ⟨b, hb, hp⟩ => ⟨b, hb, (h b hb).2 hp⟩⟩
theorem ne3 {a b : Int} (h : a = 3 ↔ b = 3) : (a ≠ 3) = (b ≠ 3) := propext (not_congr h)
/-- Changes that leave ends and edges alone. -/
theorem Cp.map {g : Gr} {r : RG} (h : Cp g r) (F : RT → RT) (G : Nd → Nd)
    (hF : ∀ x, (F x).id = x.id ∧ (F x).bg = x.bg ∧ (F x).sq = x.sq ∧ (F x).ro = x.ro ∧ (F x).bs = x.bs) (hF3 : ∀ x ∈ r.L, ((F x).st = 3 ↔ x.st = 3) ∧ ((F x).st = 1 ∨ (F x).st = 2 ∨ (F x).st = 3))
    (hG : ∀ n, (G n).id = n.id ∧ (G n).begin_ = n.begin_ ∧ (G n).seq = n.seq ∧ (G n).ro = n.ro ∧ (G n).ins = n.ins ∧ (G n).outs = n.outs ∧ (G n).least = n.least ∧ (G n).reach = n.reach ∧ (G n).beside = n.beside)
    (hm : ∀ x ∈ r.L, ∀ n, Mt r x n → (G n).state = (F x).st - 1 ∧ (G n).dm = (F x).dm) :
    Cp { g with live := g.live.map G, ended := g.ended.map G } { r with L := r.L.map F } := by
  have hfar : ∀ x ∈ r.L, x.st = 3 → (F x).far = x.far := fun x hx h3 => by
    have := (hF3 x hx).1.2 h3
    unfold RT.far; rw [(hF x).2.2.2.1, (hF x).2.1, (hF x).2.2.1, this, h3]
  have hmt : ∀ x ∈ r.L, ∀ n, Mt r x n → Mt { r with L := r.L.map F } (F x) (G n) := fun x hx n hM => by
    obtain ⟨g1, g2, g3, g4, g5, g6, g7, g8, g9⟩ := hG n
    obtain ⟨f1, f2, f3, f4, f5⟩ := hF x
    have f6 := (hF3 x hx).1
    refine ⟨?_, ?_, (hm x hx n hM).1, ?_, ?_, (hm x hx n hM).2, ?_, ?_, ?_, ?_, ?_, by rw [g9]; exact hM.bl⟩
    · rw [g1, f1, hM.id]
    · rw [g2, f2, hM.bg]
    · intro h3; rw [g3, f3]; exact hM.sq (f6.1 h3)
    · rw [g4, f4, hM.ro]
    · intro h3 k
      rw [g5, hM.ins (fun e => h3 (f6.2 e)) k, f1, ex_map]
      exact and_congr Iff.rfl (ex_congr fun a ha => by rw [(hF a).1, ne3 (hF3 a ha).1])
    · intro h3 k
      rw [g6, hM.outs (fun e => h3 (f6.2 e)) k, f1, ex_map]
      exact and_congr Iff.rfl (ex_congr fun a ha => by rw [(hF a).1, ne3 (hF3 a ha).1])
    · intro c hc
      rw [g7, hM.least c hc, ex_map]
      exact ex_congr fun b hb => by rw [(hF b).1, (hF b).2.2.1, (hF3 b hb).1, f1, f3, f6]
    · intro h3 c hc
      rw [g8, hM.reach (fun e => h3 (f6.2 e)) c hc, ex_map]
      refine ex_congr fun a ha => ?_
      rw [(hF a).1, f1, (hF3 a ha).1]
      exact ⟨fun ⟨h1, h2, h3⟩ => ⟨h1, h2, by rw [hfar a ha h1]; exact h3⟩, fun ⟨h1, h2, h3⟩ => ⟨h1, h2, by rw [hfar a ha h1] at h3; exact h3⟩⟩
    · intro k; rw [g9, f5]; exact hM.bs k
  have hids : (r.L.map F).map (·.id) = r.L.map (·.id) := by rw [List.map_map]; exact List.map_congr_left fun x _ => (hF x).1
  refine ⟨⟨?_, ?_, ?_, ?_, ?_, h.ok.cn, ?_⟩, ?_, h.cm, ?_, ?_, ?_, ?_⟩
  · rw [hids]; exact h.ok.nd
  · intro y hy; obtain ⟨x, hx, rfl⟩ := List.mem_map.1 hy; exact (hF3 x hx).2
  · intro y hy; obtain ⟨x, hx, rfl⟩ := List.mem_map.1 hy
    rw [(hF x).2.1, (hF x).2.2.1, (hF3 x hx).1]; exact h.ok.rg x hx
  · intro y hy z hz; obtain ⟨x, hx, rfl⟩ := List.mem_map.1 hy; obtain ⟨x2, hx2, rfl⟩ := List.mem_map.1 hz
    rw [(hF x).2.2.1, (hF x2).2.2.1, (hF3 x hx).1, (hF3 x2 hx2).1, (hF x).1, (hF x2).1]; exact h.ok.sd x hx x2 hx2
  · intro e he
    obtain ⟨h1, h2, h3⟩ := h.ok.ed e he
    exact ⟨h1, ex_map.2 ((ex_congr fun x _ => by rw [(hF x).1]).1 h2), ex_map.2 ((ex_congr fun x _ => by rw [(hF x).1]).1 h3)⟩
  · intro y hy z hz; obtain ⟨x, hx, rfl⟩ := List.mem_map.1 hy; obtain ⟨x2, hx2, rfl⟩ := List.mem_map.1 hz
    rw [(hF x).2.2.2.2, (hF x).2.1, (hF x2).1, (hF x2).2.2.1, (hF3 x2 hx2).1]; exact h.ok.bb x hx x2 hx2
  · show ((g.live.map G ++ g.ended.map G).map (·.id)).Nodup
    rw [← List.map_append, List.map_map]
    have := h.nd
    unfold Gr.nodes at this
    rw [show ((fun x : Nd => x.id) ∘ G) = fun x => x.id from funext fun n => (hG n).1]; exact this
  · intro m hm'; obtain ⟨n, hn, rfl⟩ := List.mem_map.1 hm'
    obtain ⟨x, hx, h3, hM⟩ := h.lv n hn
    exact ⟨F x, List.mem_map.2 ⟨x, hx, rfl⟩, fun e => h3 ((hF3 x hx).1.1 e), hmt x hx n hM⟩
  · intro y hy h3; obtain ⟨x, hx, rfl⟩ := List.mem_map.1 hy
    obtain ⟨n, hn, e⟩ := h.lv' x hx (fun e => h3 ((hF3 x hx).1.2 e))
    exact ⟨G n, List.mem_map.2 ⟨n, hn, rfl⟩, by rw [(hG n).1, (hF x).1, e]⟩
  · intro m hm'; obtain ⟨n, hn, rfl⟩ := List.mem_map.1 hm'
    obtain ⟨x, hx, h3, hM⟩ := h.en n hn
    exact ⟨F x, List.mem_map.2 ⟨x, hx, rfl⟩, (hF3 x hx).1.2 h3, hmt x hx n hM⟩
  · intro y hy h3; obtain ⟨x, hx, rfl⟩ := List.mem_map.1 hy
    have := h.en' x hx ((hF3 x hx).1.1 h3)
    rw [show (∃ n ∈ g.ended.map G, n.id = (F x).id) ↔ ∃ n ∈ g.ended, n.id = x.id from ex_map.trans (ex_congr fun n _ => by rw [(hG n).1, (hF x).1]), this, ex_map]
    exact ex_congr fun y hy => by rw [(hF y).2.1, (hF x).2.2.1, ne3 (hF3 y hy).1]
theorem Cp.dooms {g : Gr} {r : RG} (h : Cp g r) {p : Int → Bool} {l : List Int} (hp : ∀ k, p k = true ↔ k ∈ l) : Cp (g.upd p setDm) (r.doom l) := by
  refine h.map (rDm l) (fun n => if p n.id then setDm n else n) (fun x => ?_) (fun x hx => ?_) (fun n => ?_) (fun x _ n hM => ?_)
  · unfold rDm; split <;> exact ⟨rfl, rfl, rfl, rfl, rfl⟩
  · unfold rDm; have := h.ok.st x hx; split <;> exact ⟨Iff.rfl, this⟩
  · split <;> exact ⟨rfl, rfl, rfl, rfl, rfl, rfl, rfl, rfl, rfl⟩
  · have hk := hp x.id
    rw [hM.id]
    unfold rDm
    by_cases hc : x.id ∈ l
    · rw [if_pos (hk.2 hc), if_pos (by simpa using hc)]; exact ⟨hM.st, rfl⟩
    · rw [if_neg (fun e => hc (hk.1 e)), if_neg (by simpa using hc)]; exact ⟨hM.st, hM.dm⟩
theorem Cp.asks {g : Gr} {r : RG} (h : Cp g r) (tx : Int) {f : Nd → Nd} (hf : ∀ n, f n = if n.state = 2 then n else { n with state := 1 }) (hs : ∀ x ∈ r.L, x.id = tx → x.st ≠ 3) : Cp (g.upd (at1 tx) f) { r with L := r.L.map (setSt tx 2) } := by
  refine h.map (setSt tx 2) (fun n => if at1 tx n.id then f n else n) (fun x => ?_) (fun x hx => ?_) (fun n => ?_) (fun x hx n hM => ?_)
  · unfold setSt; split <;> exact ⟨rfl, rfl, rfl, rfl, rfl⟩
  · unfold setSt
    have := h.ok.st x hx
    split
    · rename_i e
      have := hs x hx e
      exact ⟨⟨fun e => absurd (show (2 : Int) = 3 from e) (by decide), fun e => absurd e this⟩, .inr (.inl rfl)⟩
    · exact ⟨Iff.rfl, this⟩
  · split
    · rw [hf]; split <;> exact ⟨rfl, rfl, rfl, rfl, rfl, rfl, rfl, rfl, rfl⟩
    · exact ⟨rfl, rfl, rfl, rfl, rfl, rfl, rfl, rfl, rfl⟩
  · unfold setSt
    rw [hM.id, hf]
    by_cases e : x.id = tx
    · have h3 := hs x hx e
      rw [if_pos (by simp [at1, e]), if_pos e, if_neg (by rw [hM.st]; omega)]
      exact ⟨show (1 : Int) = 2 - 1 by decide, hM.dm⟩
    · rw [if_neg (by simp [at1, e]), if_neg e]; exact ⟨hM.st, hM.dm⟩
end Go.Proofs.Ytomgkmoecbnddaa
namespace Go.Proofs.Ytomgkmoecbnddaa
theorem Cp.mt {g : Gr} {r : RG} (h : Cp g r) {n : Nd} (hn : n ∈ g.nodes) : ∃ x ∈ r.L, Mt r x n := by
  rcases List.mem_append.1 hn with h1 | h1
  · obtain ⟨x, hx, _, hM⟩ := h.lv n h1; exact ⟨x, hx, hM⟩
  · obtain ⟨x, hx, _, hM⟩ := h.en n h1; exact ⟨x, hx, hM⟩
theorem Cp.st_n {g : Gr} {r : RG} (h : Cp g r) {n : Nd} (hn : n ∈ g.nodes) : stt g.nodes n.id = n.state := by
  unfold stt; rw [findL_mem h.nd hn]
/-- a live transaction has its node -/
theorem Cp.live {g : Gr} {r : RG} (h : Cp g r) {x : RT} (hx : x ∈ r.L) (h3 : x.st ≠ 3) : ∃ n ∈ g.live, Mt r x n := by
  obtain ⟨n, hn, e⟩ := h.lv' x hx h3
  obtain ⟨y, hy, _, hM⟩ := h.lv n hn
  have : y = x := nodup_id h.ok.nd hy hx (hM.id.symm.trans e)
  exact ⟨n, hn, this ▸ hM⟩
theorem Cp.sttx {g : Gr} {r : RG} (h : Cp g r) {x : RT} {n : Nd} (hn : n ∈ g.nodes) (hM : Mt r x n) : stt g.nodes x.id = x.st - 1 := by
  rw [← hM.id, h.st_n hn, hM.st]
theorem Mt.gone {r : RG} {x : RT} {n : Nd} (h : Mt r x n) : n.gone = x.gone := by
  unfold Nd.gone RT.gone; rw [h.st, h.dm]
  congr 1
  by_cases e : x.st = 1
  · rw [e]; rfl
  · rw [decide_eq_false e, decide_eq_false (by omega)]
theorem Mt.far {r : RG} {x : RT} {n : Nd} (h : Mt r x n) : n.far = x.far := by
  unfold Nd.far RT.far; rw [h.ro, h.bg, h.st]
  by_cases e : x.st = 3
  · rw [e, h.sq e]; rfl
  · simp only [if_neg e, if_neg (show ¬ x.st - 1 = 2 by omega)]
structure T3 (r : RG) (a p b : RT) (all : Bool) (v : Int) : Prop where
  ha : a ∈ r.L
  hp : p ∈ r.L
  hb : b ∈ r.L
  e1 : (a.id, p.id) ∈ r.E
  e2 : (p.id, b.id) ∈ r.E
  ga : a.gone = false
  gp : p.gone = false
  gb : b.gone = false
  fi : firstR a p b all = true
  vi : victR a p b = some v
theorem vic1_iff {r : RG} (hr : ROk r) {e x y : Int × Int} {all : Bool} {v : Int} (hx : x ∈ r.E) (hy : y ∈ r.E) :
    vic1 r.L e all x y = some v ↔ (∃ a p b, x = (a.id, p.id) ∧ y = (p.id, b.id) ∧ T3 r a p b all v) ∧ ((all = false → x = e ∨ y = e) ∧ (all = true → y.2 = e.2)) := by
  obtain ⟨_, ⟨a, ha, ea⟩, ⟨p, hp, ep⟩⟩ := hr.ed x hx
  obtain ⟨_, _, ⟨b, hb, eb⟩⟩ := hr.ed y hy
  have fa : findR r.L x.1 = some a := by rw [← ea]; exact findR_mem hr.nd ha
  have fp : findR r.L x.2 = some p := by rw [← ep]; exact findR_mem hr.nd hp
  have fb : findR r.L y.2 = some b := by rw [← eb]; exact findR_mem hr.nd hb
  unfold vic1
  rw [fa, fp, fb]
  dsimp only
  constructor
  · intro h
    split at h
    · cases h
    · rename_i hc
      split at h
      · rename_i hd
        have hxy : x.2 = y.1 := Classical.byContradiction fun e => hc (.inl e)
        have hg : a.gone = false ∧ p.gone = false ∧ b.gone = false := by
          have := hd.1; revert this; cases a.gone <;> cases p.gone <;> cases b.gone <;> decide
        refine ⟨⟨a, p, b, Prod.ext ea.symm ep.symm, Prod.ext (hxy.symm.trans ep.symm) eb.symm, ⟨ha, hp, hb, ?_, ?_, hg.1, hg.2.1, hg.2.2, hd.2, h⟩⟩, fun e1 => Classical.byContradiction fun e2 => hc (.inr (.inl ⟨e1, fun e3 => e2 (.inl e3), fun e3 => e2 (.inr e3)⟩)), fun e1 => Classical.byContradiction fun e2 => hc (.inr (.inr ⟨e1, e2⟩))⟩
        · rw [ea, ep]; exact hx
        · rw [ep, eb, hxy]; exact hy
      · cases h
  · rintro ⟨⟨a', p', b', e1, e2, hT⟩, h1, h2⟩
    have ea' : a' = a := nodup_id hr.nd hT.ha ha (by rw [ea, e1])
    have ep' : p' = p := nodup_id hr.nd hT.hp hp (by rw [ep, e1])
    have eb' : b' = b := nodup_id hr.nd hT.hb hb (by rw [eb, e2])
    subst ea' ep' eb'
    rw [if_neg, if_pos]
    · exact hT.vi
    · rw [hT.ga, hT.gp, hT.gb]; exact ⟨rfl, hT.fi⟩
    · rintro (h | h | h)
      · exact h (by rw [e1, e2])
      · rcases h1 h.1 with h3 | h3
        · exact h.2.1 h3
        · exact h.2.2 h3
      · exact h.2 (h2 h.1)
theorem vics_iff {r : RG} (hr : ROk r) {e : Int × Int} {all : Bool} {v : Int} :
    v ∈ vics r.L r.E e all ↔ ∃ a p b, T3 r a p b all v ∧ ((all = false → (a.id, p.id) = e ∨ (p.id, b.id) = e) ∧ (all = true → b.id = e.2)) := by
  unfold vics
  rw [List.mem_flatMap]
  constructor
  · rintro ⟨x, hx, h⟩
    obtain ⟨y, hy, h⟩ := List.mem_filterMap.1 h
    obtain ⟨⟨a, p, b, rfl, rfl, hT⟩, h1⟩ := (vic1_iff hr hx hy).1 h
    exact ⟨a, p, b, hT, h1⟩
  · rintro ⟨a, p, b, hT, h1⟩
    exact ⟨_, hT.e1, List.mem_filterMap.2 ⟨_, hT.e2, (vic1_iff hr hT.e1 hT.e2).2 ⟨⟨a, p, b, rfl, rfl, hT⟩, h1⟩⟩⟩
theorem sortI_mem' {k : Int} : ∀ {l : List Int}, k ∈ sortI l ↔ k ∈ l
  | [] => Iff.rfl
  | x :: l => by
    have hi : ∀ (m : List Int), k ∈ insI x m ↔ k = x ∨ k ∈ m := fun m => by
      induction m with
      | nil => simp [insI]
      | cons y m ih =>
        unfold insI
        split
        · simp
        · rw [List.mem_cons, ih, List.mem_cons]
          constructor
          · rintro (h | h | h)
            · exact .inr (.inl h)
            · exact .inl h
            · exact .inr (.inr h)
          · rintro (h | h | h)
            · exact .inr (.inl h)
            · exact .inl h
            · exact .inr (.inr h)
    show k ∈ insI x (sortI l) ↔ _
    rw [hi, sortI_mem', List.mem_cons]
theorem far_le {r : RG} (hr : ROk r) (hn : r.n ≤ 1000000) {x : RT} (hx : x ∈ r.L) : x.far ≤ none_ := by
  have h1 := hr.rg x hx
  unfold RT.far none_
  split
  · omega
  · split
    · rename_i h; have := h1.2.2 h; omega
    · omega
/-- victims of structures that begin with an edge -/
theorem into_iff {g : Gr} {r : RG} (h : Cp g r) (hn : r.n ≤ 1000000) {a p : RT} {na np : Nd} (ha : a ∈ r.L) (hp : p ∈ r.L) (hna : na ∈ g.nodes) (hnp : np ∈ g.nodes) (Ma : Mt r a na) (Mp : Mt r p np) (he : (a.id, p.id) ∈ r.E) {v : Int} :
    v ∈ (intoL g.nodes na np).filterMap (victL g.nodes) ↔ ∃ b, T3 r a p b false v := by
  have sa := h.sttx hna Ma
  have sp := h.sttx hnp Mp
  have fl := far_le h.ok hn ha
  have hra := h.ok.rg a ha
  have hrp := h.ok.rg p hp
  unfold intoL
  rw [Ma.gone, Mp.gone]
  by_cases hg : a.gone = true ∨ p.gone = true
  · rw [if_pos hg]
    constructor
    · intro h; cases h
    · rintro ⟨b, hT⟩
      rcases hg with hg | hg
      · rw [hT.ga] at hg; cases hg
      · rw [hT.gp] at hg; cases hg
  rw [if_neg hg]
  have ga : a.gone = false := by cases e : a.gone with | false => rfl | true => exact absurd (.inl e) hg
  have gp : p.gone = false := by cases e : p.gone with | false => rfl | true => exact absurd (.inr e) hg
  have hneq : ∀ b ∈ r.L, (p.id, b.id) ∈ r.E → p.id ≠ b.id := fun b _ e => (h.ok.ed _ e).1
  rw [List.filterMap_append, List.mem_append]
  -- committed third
  have h1 : v ∈ (into0 na np).filterMap (victL g.nodes) ↔ ∃ b, b.st = 3 ∧ T3 r a p b false v := by
    have hvl : victL g.nodes (some na.id, np.id, none) = some v ↔ (if p.st = 1 then some p.id else if a.st = 1 then some a.id else none) = some v := by
      unfold victL
      rw [Ma.id, Mp.id]
      dsimp only
      rw [sa, sp]
      by_cases h1 : p.st = 1
      · rw [if_pos h1, if_pos (by omega)]
      · rw [if_neg h1, if_neg (show ¬ p.st - 1 = 0 by omega)]
        by_cases h2 : a.st = 1
        · rw [if_pos h2, if_pos ⟨by omega, by simp⟩]
        · rw [if_neg h2, if_neg (by omega)]
    have hc : (np.least < na.far ∧ (np.state ≠ 2 ∨ np.least < np.seq)) ↔ ∃ b ∈ r.L, b.st = 3 ∧ (p.id, b.id) ∈ r.E ∧ b.sq < a.far ∧ (p.st = 3 → b.sq < p.sq) := by
      rw [Ma.far, Mp.st]
      by_cases h3 : p.st = 3
      · rw [Mp.sq h3]
        have e : (np.least < a.far ∧ (p.st - 1 ≠ 2 ∨ np.least < p.sq)) ↔ np.least < min a.far p.sq := by omega
        rw [e, Mp.least _ (by omega)]
        refine ex_congr fun b hb => ?_
        exact ⟨fun ⟨x1, x2, x3, x4⟩ => ⟨x1, x2, by omega, x4⟩, fun ⟨x1, x2, x3, x4⟩ => ⟨x1, x2, by have := x4 h3; omega, x4⟩⟩
      · have e : (np.least < a.far ∧ (p.st - 1 ≠ 2 ∨ np.least < np.seq)) ↔ np.least < a.far := ⟨fun h => h.1, fun h => ⟨h, .inl (by omega)⟩⟩
        rw [e, Mp.least _ fl]
    have hT : ∀ b ∈ r.L, b.st = 3 → (p.id, b.id) ∈ r.E → (firstR a p b false = true ↔ b.sq < a.far ∧ (p.st = 3 → b.sq < p.sq)) := fun b hb b3 e2 => by
      have hrb := h.ok.rg b hb
      have sd1 := h.ok.sd b hb p hp b3
      have sd2 := h.ok.sd b hb a ha b3
      have hne := hneq b hb e2
      unfold firstR
      dsimp only
      rw [if_pos b3]
      by_cases c1 : p.st = 3 ∧ p.sq < b.sq
      · rw [if_pos c1]
        exact ⟨fun e => (by cases e), fun e => absurd (e.2 c1.1) (by omega)⟩
      · rw [if_neg c1]
        have c2 : p.st = 3 → b.sq < p.sq := fun e => by
          have : b.sq ≠ p.sq := fun e3 => hne (sd1 e e3).symm
          omega
        unfold RT.far none_
        by_cases c3 : a.ro = true
        · rw [if_pos c3, if_pos c3, decide_eq_true_eq]
          exact ⟨fun e => ⟨by omega, c2⟩, fun e => ⟨b3, by omega⟩⟩
        · rw [if_neg c3, if_neg c3]
          by_cases c4 : a.st = 3
          · rw [if_pos c4]
            by_cases c5 : a.id = b.id
            · rw [if_pos (.inl c5)]
              have : a = b := nodup_id h.ok.nd ha hb c5
              exact ⟨fun _ => ⟨by rw [this]; omega, c2⟩, fun _ => rfl⟩
            · rw [if_neg (by rintro (e | e); exact c5 e; exact e c4), decide_eq_true_eq]
              have : b.sq ≠ a.sq := fun e => c5 (sd2 c4 e).symm
              exact ⟨fun e => ⟨by omega, c2⟩, fun e => ⟨b3, by omega⟩⟩
          · rw [if_neg c4, if_pos (.inr c4)]
            have := hrb.2.2 b3
            exact ⟨fun _ => ⟨by omega, c2⟩, fun _ => rfl⟩
    have hV : ∀ b ∈ r.L, b.st = 3 → (victR a p b = some v ↔ (if p.st = 1 then some p.id else if a.st = 1 then some a.id else none) = some v) := fun b hb b3 => by
      unfold victR
      by_cases h1 : p.st = 1
      · rw [if_pos h1, if_pos h1]
      · rw [if_neg h1, if_neg h1]
        by_cases h2 : a.st = 1
        · rw [if_pos h2, if_pos ⟨h2, fun e => by have := nodup_id h.ok.nd ha hb e; rw [this] at h2; omega⟩]
        · rw [if_neg h2, if_neg (fun e => h2 e.1), if_neg (by omega)]
    unfold into0
    by_cases hcc : np.least < na.far ∧ (np.state ≠ 2 ∨ np.least < np.seq)
    · rw [if_pos hcc]
      have e : v ∈ [(some na.id, np.id, (none : Option Int))].filterMap (victL g.nodes) ↔ victL g.nodes (some na.id, np.id, none) = some v := by
        rw [List.mem_filterMap]; simp
      rw [e, hvl]
      obtain ⟨b, hb, b3, x1, x2, x3⟩ := hc.1 hcc
      constructor
      · intro hv
        refine ⟨b, b3, ha, hp, hb, he, x1, ga, gp, ?_, (hT b hb b3 x1).2 ⟨x2, x3⟩, (hV b hb b3).2 hv⟩
        unfold RT.gone; rw [decide_eq_false (by omega)]; rfl
      · rintro ⟨b', b3', t⟩
        exact (hV b' t.hb b3').1 t.vi
    · rw [if_neg hcc]
      constructor
      · intro h; cases h
      · rintro ⟨b, b3, t⟩
        exact absurd (hc.2 ⟨b, t.hb, b3, t.e2, ((hT b t.hb b3 t.e2).1 t.fi)⟩) hcc
  -- third not committed
  have h2 : v ∈ ((sortI np.outs).filterMap (intoK g.nodes na np)).filterMap (victL g.nodes) ↔ ∃ b, b.st ≠ 3 ∧ T3 r a p b false v := by
    rw [List.mem_filterMap]
    have hT : ∀ b ∈ r.L, b.st ≠ 3 → (firstR a p b false = true ↔ b.st = 2 ∧ p.st ≠ 3 ∧ a.ro = false ∧ a.st ≠ 3) := fun b hb b3 => by
      unfold firstR
      dsimp only
      rw [if_neg b3]
      by_cases c1 : b.st = 2
      · by_cases c2 : p.st = 3
        · rw [if_pos (.inr c2)]; exact ⟨fun e => (by cases e), fun e => absurd c2 e.2.1⟩
        · rw [if_neg (by rintro (e | e); exact e.2 c1; exact c2 e)]
          by_cases c3 : a.ro = true
          · rw [if_pos c3, decide_eq_false (fun e => b3 e.1), c3]; exact ⟨fun e => (by cases e), fun e => (by cases e.2.2.1)⟩
          · rw [if_neg c3]
            by_cases c4 : a.st = 3
            · have : a.id ≠ b.id := fun e => b3 (by rw [← nodup_id h.ok.nd ha hb e]; exact c4)
              rw [if_neg (by rintro (e | e); exact this e; exact e c4), decide_eq_false (fun e => b3 e.1)]
              exact ⟨fun e => (by cases e), fun e => absurd c4 e.2.2.2⟩
            · rw [if_pos (.inr c4)]; exact ⟨fun _ => ⟨c1, c2, by simpa using c3, c4⟩, fun _ => rfl⟩
      · rw [if_pos (.inl ⟨rfl, c1⟩)]; exact ⟨fun e => (by cases e), fun e => absurd e.1 c1⟩
    have hV : ∀ b ∈ r.L, b.st = 2 → (victR a p b = victL g.nodes (some na.id, np.id, some b.id)) := fun b hb b2 => by
      obtain ⟨nb, hnb, Mb⟩ := h.live hb (by omega)
      have sb := h.sttx (List.mem_append_left _ hnb) Mb
      unfold victR victL
      rw [Ma.id, Mp.id]
      dsimp only
      rw [sa, sp]
      by_cases h1 : p.st = 1
      · rw [if_pos h1, if_pos (by omega)]
      · rw [if_neg h1, if_neg (show ¬ p.st - 1 = 0 by omega)]
        by_cases h2 : a.st = 1 ∧ a.id ≠ b.id
        · rw [if_pos h2, if_pos ⟨by omega, fun e => h2.2 (by injection e with e; exact e.symm)⟩]
        · rw [if_neg h2, if_neg (show ¬ b.st = 1 by omega), if_neg (fun e => h2 ⟨by omega, fun e2 => e.2 (by rw [e2])⟩), sb, if_neg (by omega)]
    constructor
    · rintro ⟨s, hs, hv⟩
      obtain ⟨k, hk, hs⟩ := List.mem_filterMap.1 hs
      unfold intoK at hs
      split at hs
      · rename_i hc
        injection hs with hs
        subst hs
        have hp3 : p.st ≠ 3 := by have := Mp.st; omega
        obtain ⟨e2, b, hb, rfl, b3⟩ := (Mp.outs hp3 k).1 (sortI_mem'.1 hk)
        obtain ⟨nb, hnb, Mb⟩ := h.live hb b3
        have sb := h.sttx (List.mem_append_left _ hnb) Mb
        have b2 : b.st = 2 := by omega
        refine ⟨b, b3, ha, hp, hb, he, e2, ga, gp, ?_, (hT b hb b3).2 ⟨b2, hp3, ?_, ?_⟩, by rw [hV b hb b2]; exact hv⟩
        · unfold RT.gone; rw [decide_eq_false (by omega)]; rfl
        · rw [← Ma.ro]; exact hc.2.2.1
        · have := Ma.st; omega
      · cases hs
    · rintro ⟨b, b3, t⟩
      obtain ⟨c1, c2, c3, c4⟩ := (hT b t.hb b3).1 t.fi
      obtain ⟨nb, hnb, Mb⟩ := h.live t.hb b3
      have sb := h.sttx (List.mem_append_left _ hnb) Mb
      refine ⟨(some na.id, np.id, some b.id), List.mem_filterMap.2 ⟨b.id, sortI_mem'.2 ((Mp.outs c2 _).2 ⟨t.e2, b, t.hb, rfl, b3⟩), ?_⟩, by rw [← hV b t.hb c1]; exact t.vi⟩
      unfold intoK
      rw [if_pos ⟨by omega, by rw [Mp.st]; omega, by rw [Ma.ro]; exact c3, by rw [Ma.st]; omega⟩]
  rw [h1, h2]
  constructor
  · rintro (⟨b, _, t⟩ | ⟨b, _, t⟩)
    · exact ⟨b, t⟩
    · exact ⟨b, t⟩
  · rintro ⟨b, t⟩
    by_cases b3 : b.st = 3
    · exact .inl ⟨b, b3, t⟩
    · exact .inr ⟨b, b3, t⟩
/-- victims of structures that end with an edge -/
theorem from_iff {g : Gr} {r : RG} (h : Cp g r) {p b : RT} {np nb : Nd} (hp : p ∈ r.L) (hb : b ∈ r.L) (hnp : np ∈ g.nodes) (hnb : nb ∈ g.nodes) (Mp : Mt r p np) (Mb : Mt r b nb) (he : (p.id, b.id) ∈ r.E) (hnc : p.st ≠ 3 ∨ b.st ≠ 3) {asked : Bool} {v : Int} :
    v ∈ (fromL g.nodes np nb asked).filterMap (victL g.nodes) ↔ ∃ a, T3 r a p b asked v := by
  have sb := h.sttx hnb Mb
  have sp := h.sttx hnp Mp
  have hrb := h.ok.rg b hb
  have hrp := h.ok.rg p hp
  have hne := (h.ok.ed _ he).1
  have hfirst : firstB np nb asked → (p.st ≠ 3 ∧ (b.st = 3 ∨ asked = true ∨ b.st = 2)) := fun hf => by
    unfold firstB at hf
    rw [Mp.st, Mb.st] at hf
    rcases hf with ⟨x1, x2⟩ | ⟨x1, x2, x3⟩
    · exact ⟨hnc.resolve_right (by omega), .inl (by omega)⟩
    · exact ⟨by omega, x1.elim (fun e => .inr (.inl e)) fun e => .inr (.inr (by omega))⟩
  have hfirst' : p.st ≠ 3 → (b.st = 3 ∨ asked = true ∨ b.st = 2) → firstB np nb asked := fun x1 x2 => by
    unfold firstB
    rw [Mp.st, Mb.st]
    by_cases b3 : b.st = 3
    · exact .inl ⟨by omega, .inl (by omega)⟩
    · exact .inr ⟨(x2.resolve_left b3).imp id (fun e => by omega), by omega, by omega⟩
  have hT : ∀ a ∈ r.L, firstR a p b asked = true ↔ (p.st ≠ 3 ∧ (b.st = 3 ∨ asked = true ∨ b.st = 2)) ∧ (if a.ro = true ∨ a.st = 3 then b.st = 3 ∧ b.sq < a.far else True) := fun a ha => by
    have sd2 := h.ok.sd b hb a ha
    have hrest : (if a.ro then decide (b.st = 3 ∧ b.sq ≤ a.bg) else if a.id = b.id ∨ a.st ≠ 3 then true else decide (b.st = 3 ∧ b.sq < a.sq)) = true ↔ (if a.ro = true ∨ a.st = 3 then b.st = 3 ∧ b.sq < a.far else True) := by
      unfold RT.far
      by_cases c3 : a.ro = true
      · rw [if_pos c3, if_pos (.inl c3), if_pos c3, decide_eq_true_eq]; omega
      · rw [if_neg c3, if_neg c3]
        by_cases c4 : a.st = 3
        · rw [if_pos (show a.ro = true ∨ a.st = 3 from .inr c4), if_pos c4]
          by_cases c5 : a.id = b.id
          · rw [if_pos (.inl c5)]
            have : a = b := nodup_id h.ok.nd ha hb c5
            subst this
            exact ⟨fun _ => ⟨c4, by omega⟩, fun _ => rfl⟩
          · rw [if_neg (by rintro (e | e); exact c5 e; exact e c4), decide_eq_true_eq]
            exact ⟨fun e => ⟨e.1, by omega⟩, fun e => ⟨e.1, by have : b.sq ≠ a.sq := fun e3 => c5 (sd2 e.1 c4 e3).symm; omega⟩⟩
        · rw [if_pos (show a.id = b.id ∨ a.st ≠ 3 from .inr c4), if_neg (show ¬ (a.ro = true ∨ a.st = 3) from fun e => e.elim c3 c4)]; exact ⟨fun _ => trivial, fun _ => rfl⟩
    unfold firstR
    dsimp only
    by_cases b3 : b.st = 3
    · have hp3 : p.st ≠ 3 := hnc.resolve_right fun e => e b3
      rw [if_pos b3, if_neg (fun e => hp3 e.1), hrest]
      exact ⟨fun e => ⟨⟨hp3, .inl b3⟩, e⟩, fun e => e.2⟩
    · rw [if_neg b3]
      by_cases c1 : (asked = false ∧ b.st ≠ 2) ∨ p.st = 3
      · rw [if_pos c1]
        refine ⟨fun e => (by cases e), fun e => ?_⟩
        rcases c1 with ⟨x1, x2⟩ | x1
        · rcases e.1.2 with e | e | e
          · exact absurd e b3
          · rw [x1] at e; cases e
          · exact absurd e x2
        · exact absurd x1 e.1.1
      · rw [if_neg c1, hrest]
        refine ⟨fun e => ⟨⟨fun e => c1 (.inr e), ?_⟩, e⟩, fun e => e.2⟩
        cases asked with
        | true => exact .inr (.inl rfl)
        | false => exact .inr (.inr (Classical.byContradiction fun e => c1 (.inl ⟨rfl, e⟩)))
  unfold fromL
  rw [Mp.gone, Mb.gone]
  by_cases hg : ¬ firstB np nb asked ∨ p.gone = true ∨ b.gone = true
  · rw [if_pos hg]
    refine ⟨fun h => (by cases h), ?_⟩
    rintro ⟨a, t⟩
    rcases hg with hg | hg | hg
    · have := (hT a t.ha).1 t.fi; exact absurd (hfirst' this.1.1 this.1.2) hg
    · rw [t.gp] at hg; cases hg
    · rw [t.gb] at hg; cases hg
  rw [if_neg hg]
  have hfb : firstB np nb asked := Classical.byContradiction fun e => hg (.inl e)
  have gp : p.gone = false := by cases e : p.gone with | false => rfl | true => exact absurd (.inr (.inl e)) hg
  have gb : b.gone = false := by cases e : b.gone with | false => rfl | true => exact absurd (.inr (.inr e)) hg
  obtain ⟨hp3, hb2⟩ := hfirst hfb
  rw [List.filterMap_append, List.mem_append]
  have h1 : v ∈ (from0 np nb).filterMap (victL g.nodes) ↔ ∃ a, a.st = 3 ∧ T3 r a p b asked v := by
    have hc : (nb.state = 2 ∧ np.reach > nb.seq) ↔ b.st = 3 ∧ ∃ a ∈ r.L, a.st = 3 ∧ (a.id, p.id) ∈ r.E ∧ b.sq < a.far := by
      rw [Mb.st]
      by_cases b3 : b.st = 3
      · rw [Mb.sq b3]
        have := hrb.2.2 b3
        rw [← Mp.reach hp3 b.sq (by omega)]
        exact ⟨fun e => ⟨b3, e.2⟩, fun e => ⟨by omega, e.2⟩⟩
      · exact ⟨fun e => absurd e.1 (by omega), fun e => absurd e.1 b3⟩
    have hV : ∀ a, a.st = 3 → b.st = 3 → (victR a p b = victL g.nodes (none, np.id, some nb.id)) := fun a a3 b3 => by
      unfold victR victL
      rw [Mp.id, Mb.id]
      dsimp only
      rw [sp, sb]
      by_cases h1 : p.st = 1
      · rw [if_pos h1, if_pos (by omega)]
      · rw [if_neg h1, if_neg (show ¬ p.st - 1 = 0 by omega), if_neg (fun e => absurd e.1 (by omega)), if_neg (by omega)]
        rw [if_neg (by omega)]
    unfold from0
    by_cases hcc : nb.state = 2 ∧ np.reach > nb.seq
    · rw [if_pos hcc]
      have e : v ∈ [((none : Option Int), np.id, some nb.id)].filterMap (victL g.nodes) ↔ victL g.nodes (none, np.id, some nb.id) = some v := by
        rw [List.mem_filterMap]; simp
      rw [e]
      obtain ⟨b3, a, ha, a3, x1, x2⟩ := hc.1 hcc
      constructor
      · intro hv
        refine ⟨a, a3, ha, hp, hb, x1, he, ?_, gp, gb, (hT a ha).2 ⟨⟨hp3, hb2⟩, by rw [if_pos (.inr a3)]; exact ⟨b3, x2⟩⟩, by rw [hV a a3 b3]; exact hv⟩
        unfold RT.gone; rw [decide_eq_false (by omega)]; rfl
      · rintro ⟨a', a3', t⟩
        rw [← hV a' a3' b3]; exact t.vi
    · rw [if_neg hcc]
      refine ⟨fun h => (by cases h), ?_⟩
      rintro ⟨a, a3, t⟩
      have := ((hT a t.ha).1 t.fi).2
      rw [if_pos (.inr a3)] at this
      exact absurd (hc.2 ⟨this.1, a, t.ha, a3, t.e1, this.2⟩) hcc
  have h2 : v ∈ ((sortI np.ins).filterMap (fromK g.nodes np nb)).filterMap (victL g.nodes) ↔ ∃ a, a.st ≠ 3 ∧ T3 r a p b asked v := by
    rw [List.mem_filterMap]
    have hV : ∀ a ∈ r.L, a.st ≠ 3 → (victR a p b = victL g.nodes (some a.id, np.id, some nb.id)) := fun a ha a3 => by
      obtain ⟨na, hna, Ma⟩ := h.live ha a3
      have sa := h.sttx (List.mem_append_left _ hna) Ma
      unfold victR victL
      rw [Mb.id, Mp.id]
      dsimp only
      rw [sa, sp, sb]
      by_cases h1 : p.st = 1
      · rw [if_pos h1, if_pos (by omega)]
      · rw [if_neg h1, if_neg (show ¬ p.st - 1 = 0 by omega)]
        by_cases h2 : a.st = 1 ∧ a.id ≠ b.id
        · rw [if_pos h2, if_pos ⟨by omega, fun e => h2.2 (by injection e with e; exact e.symm)⟩]
        · rw [if_neg h2]
          by_cases h4 : b.st = 1
          · rw [if_pos h4, if_neg (fun e => h2 ⟨by omega, fun e2 => e.2 (by rw [e2])⟩), if_pos (by omega)]
          · rw [if_neg h4, if_neg (fun e => h2 ⟨by omega, fun e2 => e.2 (by rw [e2])⟩), if_neg (by omega)]
    have hK : ∀ a ∈ r.L, a.st ≠ 3 → ∀ s, (fromK g.nodes np nb a.id = some s ↔ s = (some a.id, np.id, some nb.id) ∧ a.gone = false ∧ (if a.ro = true ∨ a.st = 3 then b.st = 3 ∧ b.sq < a.far else True)) := fun a ha a3 s => by
      obtain ⟨na, hna, Ma⟩ := h.live ha a3
      have hf : findL g.nodes a.id = some na := by rw [← Ma.id]; exact findL_mem h.nd (List.mem_append_left _ hna)
      unfold fromK
      rw [hf]
      dsimp only
      rw [Ma.gone, Ma.ro, Ma.far, Mb.st]
      have hsq : (b.st - 1 = 2 ∧ nb.seq < a.far) ↔ b.st = 3 ∧ b.sq < a.far := by
        by_cases b3 : b.st = 3
        · rw [Mb.sq b3]; omega
        · omega
      simp only [hsq]
      cases e1 : a.gone with
      | true => rw [if_pos (.inl rfl)]; exact ⟨fun h => (by cases h), fun h => (by cases h.2.1)⟩
      | false =>
        by_cases e2 : a.ro = true
        · rw [if_pos (show a.ro = true ∨ a.st = 3 from .inl e2)]
          by_cases e3 : b.st = 3 ∧ b.sq < a.far
          · rw [if_neg (by rintro (e | e); cases e; exact e.2 e3)]
            exact ⟨fun e => ⟨by injection e with e; exact e.symm, rfl, e3⟩, fun e => by rw [e.1]⟩
          · rw [if_pos (.inr ⟨e2, e3⟩)]; exact ⟨fun h => (by cases h), fun h => absurd h.2.2 e3⟩
        · rw [if_neg (show ¬ (false = true ∨ a.ro = true ∧ ¬ (b.st = 3 ∧ b.sq < a.far)) from fun e => e.elim (fun e => by cases e) fun e => e2 e.1), if_neg (show ¬ (a.ro = true ∨ a.st = 3) from fun e => e.elim e2 a3)]
          exact ⟨fun e => ⟨by injection e with e; exact e.symm, rfl, trivial⟩, fun e => by rw [e.1]⟩
    constructor
    · rintro ⟨s, hs, hv⟩
      obtain ⟨k, hk, hs⟩ := List.mem_filterMap.1 hs
      obtain ⟨e1, a, ha, rfl, a3⟩ := (Mp.ins hp3 k).1 (sortI_mem'.1 hk)
      obtain ⟨rfl, x1, x2⟩ := (hK a ha a3 s).1 hs
      exact ⟨a, a3, ha, hp, hb, e1, he, x1, gp, gb, (hT a ha).2 ⟨⟨hp3, hb2⟩, x2⟩, by rw [hV a ha a3]; exact hv⟩
    · rintro ⟨a, a3, t⟩
      have x2 := ((hT a t.ha).1 t.fi).2
      exact ⟨_, List.mem_filterMap.2 ⟨a.id, sortI_mem'.2 ((Mp.ins hp3 _).2 ⟨t.e1, a, t.ha, rfl, a3⟩), (hK a t.ha a3 _).2 ⟨rfl, t.ga, x2⟩⟩, by rw [← hV a t.ha a3]; exact t.vi⟩
  rw [h1, h2]
  constructor
  · rintro (⟨b, _, t⟩ | ⟨b, _, t⟩)
    · exact ⟨b, t⟩
    · exact ⟨b, t⟩
  · rintro ⟨a, t⟩
    by_cases a3 : a.st = 3
    · exact .inl ⟨a, a3, t⟩
    · exact .inr ⟨a, a3, t⟩
end Go.Proofs.Ytomgkmoecbnddaa
namespace Go.Proofs.Ytomgkmoecbnddaa
theorem Cp.mapE {g : Gr} {r r' : RG} (h : Cp g r) (G : Nd → Nd) (hL : r'.L = r.L) (hn : r'.n = r.n) (hE : ∀ e ∈ r'.E, e.1 ≠ e.2 ∧ (∃ x ∈ r.L, x.id = e.1) ∧ (∃ x ∈ r.L, x.id = e.2))
    (hid : ∀ n, (G n).id = n.id) (hm : ∀ x ∈ r.L, ∀ n ∈ g.nodes, Mt r x n → Mt r' x (G n)) : Cp { g with live := g.live.map G, ended := g.ended.map G } r' := by
  obtain ⟨L', E', n'⟩ := r'
  subst hL hn
  refine ⟨⟨h.ok.nd, h.ok.st, h.ok.rg, h.ok.sd, hE, h.ok.cn, h.ok.bb⟩, ?_, h.cm, ?_, ?_, ?_, ?_⟩
  · show ((g.live.map G ++ g.ended.map G).map (·.id)).Nodup
    rw [← List.map_append, List.map_map]
    have := h.nd
    unfold Gr.nodes at this
    rw [show ((fun x : Nd => x.id) ∘ G) = fun x => x.id from funext hid]; exact this
  · intro m hm'; obtain ⟨n, hn, rfl⟩ := List.mem_map.1 hm'
    obtain ⟨x, hx, h3, hM⟩ := h.lv n hn
    exact ⟨x, hx, h3, hm x hx n (List.mem_append_left _ hn) hM⟩
  · intro x hx h3
    obtain ⟨n, hn, e⟩ := h.lv' x hx h3
    exact ⟨G n, List.mem_map.2 ⟨n, hn, rfl⟩, by rw [hid, e]⟩
  · intro m hm'; obtain ⟨n, hn, rfl⟩ := List.mem_map.1 hm'
    obtain ⟨x, hx, h3, hM⟩ := h.en n hn
    exact ⟨x, hx, h3, hm x hx n (List.mem_append_right _ hn) hM⟩
  · intro x hx h3
    rw [← h.en' x hx h3]
    constructor
    · rintro ⟨m, hm', e⟩; obtain ⟨n, hn, rfl⟩ := List.mem_map.1 hm'; exact ⟨n, hn, by rw [← hid n, e]⟩
    · rintro ⟨n, hn, e⟩; exact ⟨G n, List.mem_map.2 ⟨n, hn, rfl⟩, by rw [hid, e]⟩
theorem link_mem {r : RG} {e d : Int × Int} : e ∈ (r.link d).E ↔ e ∈ r.E ∨ e = d := by
  unfold RG.link
  dsimp only
  split
  · rename_i h; exact ⟨.inl, fun x => x.elim id fun e => e ▸ h⟩
  · simp
theorem addI_mem' {l : List Int} {x k : Int} : k ∈ addI l x ↔ k ∈ l ∨ k = x := by
  unfold addI
  split
  · rename_i h; have h : x ∈ l := by simpa using h
    exact ⟨.inl, fun e => e.elim id fun e => e ▸ h⟩
  · simp
theorem map_two {g : Gr} {p q : Int → Bool} {f k : Nd → Nd} (hf : ∀ n, (f n).id = n.id) : (g.upd p f).upd q k = { g with live := g.live.map fun n => if q n.id then k (if p n.id then f n else n) else (if p n.id then f n else n), ended := g.ended.map fun n => if q n.id then k (if p n.id then f n else n) else (if p n.id then f n else n) } := by
  have e : ∀ l : List Nd, updL (updL l p f) q k = l.map fun n => if q n.id then k (if p n.id then f n else n) else (if p n.id then f n else n) := fun l => by
    unfold updL
    rw [List.map_map]
    apply List.map_congr_left
    intro n _
    simp only [Function.comp]
    have : (if p n.id then f n else n).id = n.id := by split; exact hf n; rfl
    rw [this]
  unfold Gr.upd
  dsimp only
  rw [e, e]
def lkO (k : Int) (n : Nd) : Nd := { n with outs := addI n.outs k }
def lkI (k : Int) (n : Nd) : Nd := { n with ins := addI n.ins k }
theorem Cp.link {g : Gr} {r : RG} (h : Cp g r) {x y : RT} {nx ny : Nd} (hx : x ∈ r.L) (hy : y ∈ r.L) (hnx : nx ∈ g.nodes) (hny : ny ∈ g.nodes) (Mx : Mt r x nx) (My : Mt r y ny) (hne : ¬ noEdgeR x y) : Cp (g.linkQ nx ny) (r.link (x.id, y.id)) := by
  have hxy : x.id ≠ y.id := fun e => hne (.inl e)
  have h33 : ¬ (x.st = 3 ∧ y.st = 3) := fun e => hne (.inr (.inl e))
  have hE : ∀ e ∈ (r.link (x.id, y.id)).E, e.1 ≠ e.2 ∧ (∃ x ∈ r.L, x.id = e.1) ∧ (∃ x ∈ r.L, x.id = e.2) := fun e he => by
    rcases link_mem.1 he with he | rfl
    · exact h.ok.ed e he
    · exact ⟨hxy, ⟨x, hx, rfl⟩, ⟨y, hy, rfl⟩⟩
  have hlive : ∀ k, (∃ a ∈ r.L, a.id = k ∧ a.st ≠ 3) → k = x.id → x.st ≠ 3 := fun k ⟨a, ha, e, h3⟩ e2 => by
    have := nodup_id h.ok.nd ha hx (e.trans e2); rw [this] at h3; exact h3
  have hlivey : ∀ k, (∃ a ∈ r.L, a.id = k ∧ a.st ≠ 3) → k = y.id → y.st ≠ 3 := fun k ⟨a, ha, e, h3⟩ e2 => by
    have := nodup_id h.ok.nd ha hy (e.trans e2); rw [this] at h3; exact h3
  -- what stays, of a node of which the edge is no matter
  have hins : ∀ z ∈ r.L, ∀ n, Mt r z n → z.st ≠ 3 → ¬ (z.id = y.id ∧ x.st ≠ 3) → ∀ k, k ∈ n.ins ↔ (k, z.id) ∈ (r.link (x.id, y.id)).E ∧ ∃ a ∈ r.L, a.id = k ∧ a.st ≠ 3 := fun z hz n hM z3 hc k => by
    rw [hM.ins z3 k, link_mem]
    constructor
    · exact fun e => ⟨.inl e.1, e.2⟩
    · rintro ⟨e1 | e1, e2⟩
      · exact ⟨e1, e2⟩
      · injection e1 with e3 e4
        exact absurd ⟨e4, hlive k e2 e3⟩ hc
  have houts : ∀ z ∈ r.L, ∀ n, Mt r z n → z.st ≠ 3 → ¬ (z.id = x.id ∧ y.st ≠ 3) → ∀ k, k ∈ n.outs ↔ (z.id, k) ∈ (r.link (x.id, y.id)).E ∧ ∃ a ∈ r.L, a.id = k ∧ a.st ≠ 3 := fun z hz n hM z3 hc k => by
    rw [hM.outs z3 k, link_mem]
    constructor
    · exact fun e => ⟨.inl e.1, e.2⟩
    · rintro ⟨e1 | e1, e2⟩
      · exact ⟨e1, e2⟩
      · injection e1 with e3 e4
        exact absurd ⟨e3, hlivey k e2 e4⟩ hc
  have hleast : ∀ z ∈ r.L, ∀ n, Mt r z n → ¬ (z.id = x.id ∧ y.st = 3) → ∀ c, c ≤ none_ → (n.least < c ↔ ∃ b ∈ r.L, b.st = 3 ∧ (z.id, b.id) ∈ (r.link (x.id, y.id)).E ∧ b.sq < c ∧ (z.st = 3 → b.sq < z.sq)) := fun z hz n hM hc c hcc => by
    rw [hM.least c hcc]
    refine ex_congr fun b hb => ?_
    rw [link_mem]
    constructor
    · rintro ⟨x1, x2, x3⟩; exact ⟨x1, .inl x2, x3⟩
    · rintro ⟨x1, x2 | x2, x3⟩
      · exact ⟨x1, x2, x3⟩
      · injection x2 with e3 e4
        have := nodup_id h.ok.nd hb hy e4
        rw [this] at x1
        exact absurd ⟨e3, x1⟩ hc
  have hreach : ∀ z ∈ r.L, ∀ n, Mt r z n → z.st ≠ 3 → ¬ (z.id = y.id ∧ x.st = 3) → ∀ c, 0 ≤ c → (c < n.reach ↔ ∃ a ∈ r.L, a.st = 3 ∧ (a.id, z.id) ∈ (r.link (x.id, y.id)).E ∧ c < a.far) := fun z hz n hM z3 hc c hcc => by
    rw [hM.reach z3 c hcc]
    refine ex_congr fun b hb => ?_
    rw [link_mem]
    constructor
    · rintro ⟨x1, x2, x3⟩; exact ⟨x1, .inl x2, x3⟩
    · rintro ⟨x1, x2 | x2, x3⟩
      · exact ⟨x1, x2, x3⟩
      · injection x2 with e3 e4
        have := nodup_id h.ok.nd hb hx e3
        rw [this] at x1
        exact absurd ⟨e4, x1⟩ hc
  unfold Gr.linkQ
  rw [Mx.st, My.st, Mx.id, My.id]
  by_cases y3 : y.st = 3
  · have x3 : x.st ≠ 3 := fun e => h33 ⟨e, y3⟩
    rw [if_pos (by omega), My.sq y3]
    refine h.mapE (fun n => if at1 x.id n.id then { n with least := min n.least y.sq } else n) rfl rfl hE (fun n => by split <;> rfl) (fun z hz n hn hM => ?_)
    by_cases hzx : z.id = x.id
    · have ez := nodup_id h.ok.nd hz hx hzx
      subst ez
      rw [if_pos (by simp [at1, hM.id])]
      refine ⟨hM.id, hM.bg, hM.st, hM.sq, hM.ro, hM.dm, fun z3 => hins z hz n hM z3 (fun e => hxy e.1), fun z3 => houts z hz n hM z3 (fun e => e.2 y3), fun c hc => ?_, fun z3 => hreach z hz n hM z3 (fun e => hxy e.1), hM.bs, hM.bl⟩
      have h1 := hM.least c hc
      show min n.least y.sq < c ↔ _
      have e : min n.least y.sq < c ↔ n.least < c ∨ y.sq < c := by omega
      rw [e, h1]
      constructor
      · rintro (⟨b, hb, k1, k2, k3⟩ | e)
        · exact ⟨b, hb, k1, link_mem.2 (.inl k2), k3⟩
        · exact ⟨y, hy, y3, link_mem.2 (.inr rfl), e, fun e => absurd e x3⟩
      · rintro ⟨b, hb, k1, k2, k3⟩
        rcases link_mem.1 k2 with k2 | k2
        · exact .inl ⟨b, hb, k1, k2, k3⟩
        · injection k2 with _ e4
          have := nodup_id h.ok.nd hb hy e4
          rw [this] at k3; exact .inr k3.1
    · rw [if_neg (by simp [at1, hM.id, hzx])]
      exact ⟨hM.id, hM.bg, hM.st, hM.sq, hM.ro, hM.dm, fun z3 => hins z hz n hM z3 (fun e => z3 (by rw [nodup_id h.ok.nd hz hy e.1]; exact y3)), fun z3 => houts z hz n hM z3 (fun e => hzx e.1), hleast z hz n hM (fun e => hzx e.1), fun z3 => hreach z hz n hM z3 (fun e => x3 e.2), hM.bs, hM.bl⟩
  · rw [if_neg (by omega)]
    by_cases x3 : x.st = 3
    · rw [if_pos (by omega), Mx.far]
      refine h.mapE (fun n => if at1 y.id n.id then { n with reach := max n.reach x.far } else n) rfl rfl hE (fun n => by split <;> rfl) (fun z hz n hn hM => ?_)
      by_cases hzy : z.id = y.id
      · have ez := nodup_id h.ok.nd hz hy hzy
        subst ez
        rw [if_pos (by simp [at1, hM.id])]
        refine ⟨hM.id, hM.bg, hM.st, hM.sq, hM.ro, hM.dm, fun z3 => hins z hz n hM z3 (fun e => e.2 x3), fun z3 => houts z hz n hM z3 (fun e => hxy e.1.symm), hleast z hz n hM (fun e => hxy e.1.symm), fun z3 c hc => ?_, hM.bs, hM.bl⟩
        have h1 := hM.reach z3 c hc
        show c < max n.reach x.far ↔ _
        have e : c < max n.reach x.far ↔ c < n.reach ∨ c < x.far := by omega
        rw [e, h1]
        constructor
        · rintro (⟨b, hb, k1, k2, k3⟩ | e)
          · exact ⟨b, hb, k1, link_mem.2 (.inl k2), k3⟩
          · exact ⟨x, hx, x3, link_mem.2 (.inr rfl), e⟩
        · rintro ⟨b, hb, k1, k2, k3⟩
          rcases link_mem.1 k2 with k2 | k2
          · exact .inl ⟨b, hb, k1, k2, k3⟩
          · injection k2 with e4 _
            have := nodup_id h.ok.nd hb hx e4
            rw [this] at k3; exact .inr k3
      · rw [if_neg (by simp [at1, hM.id, hzy])]
        exact ⟨hM.id, hM.bg, hM.st, hM.sq, hM.ro, hM.dm, fun z3 => hins z hz n hM z3 (fun e => hzy e.1), fun z3 => houts z hz n hM z3 (fun e => z3 (by rw [nodup_id h.ok.nd hz hx e.1]; exact x3)), hleast z hz n hM (fun e => y3 e.2), fun z3 => hreach z hz n hM z3 (fun e => hzy e.1), hM.bs, hM.bl⟩
    · rw [if_neg (by omega)]
      show Cp ((g.upd (at1 x.id) (lkO y.id)).upd (at1 y.id) (lkI x.id)) _
      rw [map_two (f := lkO y.id) (k := lkI x.id) fun _ => rfl]
      refine h.mapE (fun n => if at1 y.id n.id then lkI x.id (if at1 x.id n.id then lkO y.id n else n) else (if at1 x.id n.id then lkO y.id n else n)) rfl rfl hE (fun n => by split <;> (try split) <;> rfl) (fun z hz n hn hM => ?_)
      by_cases hzx : z.id = x.id
      · have ez := nodup_id h.ok.nd hz hx hzx
        subst ez
        rw [if_neg (by simp [at1, hM.id, hxy]), if_pos (by simp [at1, hM.id])]
        refine ⟨hM.id, hM.bg, hM.st, hM.sq, hM.ro, hM.dm, fun z3 => hins z hz n hM z3 (fun e => hxy e.1), fun z3 k => ?_, hleast z hz n hM (fun e => y3 e.2), fun z3 => hreach z hz n hM z3 (fun e => hxy e.1), hM.bs, hM.bl⟩
        show k ∈ addI n.outs y.id ↔ _
        rw [addI_mem', hM.outs z3 k, link_mem]
        constructor
        · rintro (⟨k1, k2⟩ | rfl)
          · exact ⟨.inl k1, k2⟩
          · exact ⟨.inr rfl, y, hy, rfl, y3⟩
        · rintro ⟨k1 | k1, k2⟩
          · exact .inl ⟨k1, k2⟩
          · injection k1 with _ e; exact .inr e
      · by_cases hzy : z.id = y.id
        · have ez := nodup_id h.ok.nd hz hy hzy
          subst ez
          rw [if_pos (by simp [at1, hM.id]), if_neg (by simp [at1, hM.id, hzx])]
          refine ⟨hM.id, hM.bg, hM.st, hM.sq, hM.ro, hM.dm, fun z3 k => ?_, fun z3 => houts z hz n hM z3 (fun e => hzx e.1), hleast z hz n hM (fun e => hzx e.1), fun z3 => hreach z hz n hM z3 (fun e => x3 e.2), hM.bs, hM.bl⟩
          show k ∈ addI n.ins x.id ↔ _
          rw [addI_mem', hM.ins z3 k, link_mem]
          constructor
          · rintro (⟨k1, k2⟩ | rfl)
            · exact ⟨.inl k1, k2⟩
            · exact ⟨.inr rfl, x, hx, rfl, x3⟩
          · rintro ⟨k1 | k1, k2⟩
            · exact .inl ⟨k1, k2⟩
            · injection k1 with e _; exact .inr e
        · rw [if_neg (by simp [at1, hM.id, hzy]), if_neg (by simp [at1, hM.id, hzx])]
          exact ⟨hM.id, hM.bg, hM.st, hM.sq, hM.ro, hM.dm, fun z3 => hins z hz n hM z3 (fun e => hzy e.1), fun z3 => houts z hz n hM z3 (fun e => hzx e.1), hleast z hz n hM (fun e => hzx e.1), fun z3 => hreach z hz n hM z3 (fun e => hzy e.1), hM.bs, hM.bl⟩
theorem Mt.noE {r : RG} {x y : RT} {n m : Nd} (Mx : Mt r x n) (My : Mt r y m) : noEdge n m ↔ noEdgeR x y := by
  unfold noEdge noEdgeR
  rw [Mx.id, My.id, Mx.st, My.st, Mx.bg, My.bg]
  have e1 : (x.st - 1 = 2 ∧ n.seq ≤ y.bg) ↔ (x.st = 3 ∧ x.sq ≤ y.bg) := by
    by_cases x3 : x.st = 3
    · rw [Mx.sq x3]; omega
    · omega
  have e2 : (y.st - 1 = 2 ∧ m.seq ≤ x.bg) ↔ (y.st = 3 ∧ y.sq ≤ x.bg) := by
    by_cases x3 : y.st = 3
    · rw [My.sq x3]; omega
    · omega
  rw [e1, e2]
  omega
/-- a transaction that the graph does not know: none, or one that has ended long ago -/
theorem Cp.lost {g : Gr} {r : RG} (h : Cp g r) {k : Int} (hf : findL g.nodes k = none) {x : RT} (hx : x ∈ r.L) (e : x.id = k) : x.st = 3 ∧ ∀ y ∈ r.L, y.st ≠ 3 → x.sq ≤ y.bg := by
  have h3 : x.st = 3 := Classical.byContradiction fun h3 => by
    obtain ⟨n, hn, hM⟩ := h.live hx h3
    exact findL_none hf n (List.mem_append_left _ hn) (hM.id.trans e)
  refine ⟨h3, fun y hy y3 => Classical.byContradiction fun hc => ?_⟩
  obtain ⟨n, hn, e2⟩ := (h.en' x hx h3).2 ⟨y, hy, y3, by omega⟩
  exact findL_none hf n (List.mem_append_right _ hn) (e2.trans e)
theorem Cp.found {g : Gr} {r : RG} (h : Cp g r) {k : Int} {n : Nd} (hf : findL g.nodes k = some n) : n ∈ g.nodes ∧ n.id = k ∧ ∃ x ∈ r.L, Mt r x n ∧ x.id = k ∧ findR r.L k = some x := by
  obtain ⟨h1, h2⟩ := findL_some hf
  obtain ⟨x, hx, hM⟩ := h.mt h1
  have e : x.id = k := hM.id.symm.trans h2
  exact ⟨h1, h2, x, hx, hM, e, by rw [← e]; exact findR_mem h.ok.nd hx⟩
theorem Cp.isDoomed {g : Gr} {r : RG} (h : Cp g r) (k : Int) : g.isDoomed k = r.isDoomed k := by
  unfold Gr.isDoomed RG.isDoomed
  cases hf : findL g.nodes k with
  | some n =>
    obtain ⟨h1, h2, x, hx, hM, e, hr⟩ := h.found hf
    rw [hr]
    dsimp only
    rw [hM.gone, Bool.and_comm]; rfl
  | none =>
    cases hr : findR r.L k with
    | none => rfl
    | some x =>
      obtain ⟨hx, e⟩ := findR_some hr
      have := (h.lost hf hx e).1
      dsimp only
      rw [decide_eq_false (by omega), Bool.and_false]
theorem Cp.noE {g : Gr} {r : RG} (h : Cp g r) {a b : Int} {x y : RT} (hx : findR r.L a = some x) (hy : findR r.L b = some y) (hl : findL g.nodes a = none ∨ findL g.nodes b = none) : noEdgeR x y := by
  obtain ⟨hx, ex⟩ := findR_some hx
  obtain ⟨hy, ey⟩ := findR_some hy
  unfold noEdgeR
  rcases hl with hl | hl
  · obtain ⟨h1, h2⟩ := h.lost hl hx ex
    by_cases y3 : y.st = 3
    · exact .inr (.inl ⟨h1, y3⟩)
    · exact .inr (.inr (.inl ⟨h1, h2 y hy y3⟩))
  · obtain ⟨h1, h2⟩ := h.lost hl hy ey
    by_cases x3 : x.st = 3
    · exact .inr (.inl ⟨x3, h1⟩)
    · exact .inr (.inr (.inr ⟨h1, h2 x hx x3⟩))
theorem Cp.edge {g : Gr} {r : RG} (h : Cp g r) (hn : r.n ≤ 1000000) (a b : Int) : Cp (g.edgeG a b) (r.edgeG a b) ∧ ∀ c, g.edgeR a b c = r.edgeR a b c := by
  have key : ∀ (g2 : Gr) (r2 : RG), Cp g2 r2 → ∀ c, (if g2.isDoomed c then (43 : Int) else 0) = if r2.isDoomed c then 43 else 0 := fun g2 r2 h2 c => by rw [h2.isDoomed]
  have hno : (findL g.nodes a = none ∨ findL g.nodes b = none) → Cp (g.edgeG a b) (r.edgeG a b) ∧ ∀ c, g.edgeR a b c = r.edgeR a b c := fun hl => by
    have e1 : g.edgeG a b = g ∧ ∀ c, g.edgeR a b c = 0 := by
      unfold Gr.edgeG Gr.edgeR
      rcases hl with hl | hl
      · rw [hl]; exact ⟨rfl, fun _ => rfl⟩
      · rw [hl]; cases findL g.nodes a <;> exact ⟨rfl, fun _ => rfl⟩
    have e2 : r.edgeG a b = r ∧ ∀ c, r.edgeR a b c = 0 := by
      unfold RG.edgeG RG.edgeR
      cases hx : findR r.L a with
      | none => exact ⟨rfl, fun _ => rfl⟩
      | some x =>
        cases hy : findR r.L b with
        | none => exact ⟨rfl, fun _ => rfl⟩
        | some y =>
          dsimp only
          have := h.noE hx hy hl
          rw [if_pos this]; exact ⟨rfl, fun _ => by rw [if_pos this]⟩
    rw [e1.1, e2.1]
    exact ⟨h, fun c => by rw [e1.2, e2.2]⟩
  cases hfa : findL g.nodes a with
  | none => exact hno (.inl hfa)
  | some nx =>
    cases hfb : findL g.nodes b with
    | none => exact hno (.inr hfb)
    | some ny =>
      obtain ⟨hnx, hax, x, hx, Mx, ex, hrx⟩ := h.found hfa
      obtain ⟨hny, hby, y, hy, My, ey, hry⟩ := h.found hfb
      by_cases hc : noEdgeR x y
      · have hc' := (Mx.noE My).2 hc
        unfold Gr.edgeG RG.edgeG Gr.edgeR RG.edgeR
        rw [hfa, hfb, hrx, hry]
        dsimp only
        rw [if_pos hc, if_pos hc']
        exact ⟨h, fun c => by rw [if_pos hc, if_pos hc']⟩
      · have hc' : ¬ noEdge nx ny := fun e => hc ((Mx.noE My).1 e)
        have hl := h.link hx hy hnx hny Mx My hc
        rw [ex, ey] at hl
        -- the ends, after the link
        have hin : ∀ k n, findL g.nodes k = some n → ∃ n', findL (g.linkQ nx ny).nodes k = some n' := fun k n hk => by
          have hid : ∀ (g2 : Gr) (p : Int → Bool) (f : Nd → Nd) n, (∀ n, (f n).id = n.id) → findL g2.nodes k = some n → ∃ n', findL (g2.upd p f).nodes k = some n' := fun g2 p f n hf hk => by
            rw [upd_nodes, findL_upd hf, hk]; exact ⟨_, rfl⟩
          unfold Gr.linkQ
          split
          · exact hid _ _ _ _ (fun _ => rfl) hk
          · split
            · exact hid _ _ _ _ (fun _ => rfl) hk
            · obtain ⟨n2, h2⟩ := hid g (at1 nx.id) (fun n => { n with outs := addI n.outs ny.id }) n (fun _ => rfl) hk
              exact hid _ _ _ _ (fun _ => rfl) h2
        obtain ⟨nx1, hx1⟩ := hin a nx hfa
        obtain ⟨ny1, hy1⟩ := hin b ny hfb
        obtain ⟨hnx1, _, x', hx', Mx1, ex', _⟩ := hl.found hx1
        obtain ⟨hny1, _, y', hy', My1, ey', _⟩ := hl.found hy1
        have e1 : x' = x := nodup_id h.ok.nd hx' hx (ex'.trans ex.symm)
        have e2 : y' = y := nodup_id h.ok.nd hy' hy (ey'.trans ey.symm)
        subst e1 e2
        have he : (x'.id, y'.id) ∈ (r.link (a, b)).E := link_mem.2 (.inr (by rw [ex', ey']))
        have hnc : x'.st ≠ 3 ∨ y'.st ≠ 3 := Classical.byContradiction fun e => hc (.inr (.inl ⟨Classical.byContradiction fun e2 => e (.inl e2), Classical.byContradiction fun e2 => e (.inr e2)⟩))
        have hcp : Cp (g.edgeG a b) (r.edgeG a b) := by
          unfold Gr.edgeG RG.edgeG
          rw [hfa, hfb, hrx, hry]
          dsimp only
          rw [if_neg hc, if_neg hc', hx1, hy1]
          dsimp only
          refine hl.dooms fun v => ?_
          rw [show r.L = (r.link (a, b)).L from rfl, vics_iff hl.ok]
          rw [List.filterMap_append]
          simp only [List.contains_eq_mem, decide_eq_true_eq, List.mem_append]
          rw [into_iff hl hn hx' hy' hnx1 hny1 Mx1 My1 he, from_iff hl hx' hy' hnx1 hny1 Mx1 My1 he hnc]
          constructor
          · rintro (⟨z, t⟩ | ⟨z, t⟩)
            · exact ⟨x', y', z, t, fun _ => .inl (by rw [ex', ey']), fun e => (by cases e)⟩
            · exact ⟨z, x', y', t, fun _ => .inr (by rw [ex', ey']), fun e => (by cases e)⟩
          · rintro ⟨p, q, s, t, h1, _⟩
            rcases h1 trivial with h1 | h1
            · injection h1 with h1 h2
              have e1 := nodup_id h.ok.nd t.ha hx' (h1.trans ex'.symm)
              have e2 := nodup_id h.ok.nd t.hp hy' (h2.trans ey'.symm)
              subst e1 e2
              exact .inl ⟨s, t⟩
            · injection h1 with h1 h2
              have e1 := nodup_id h.ok.nd t.hp hx' (h1.trans ex'.symm)
              have e2 := nodup_id h.ok.nd t.hb hy' (h2.trans ey'.symm)
              subst e1 e2
              exact .inr ⟨p, t⟩
        refine ⟨hcp, fun c => ?_⟩
        have e1 : g.edgeR a b c = if (g.edgeG a b).isDoomed c then 43 else 0 := by
          unfold Gr.edgeR; rw [hfa, hfb]; dsimp only; rw [if_neg hc']
        have e2 : r.edgeR a b c = if (r.edgeG a b).isDoomed c then 43 else 0 := by
          unfold RG.edgeR; rw [hrx, hry]; dsimp only; rw [if_neg hc]
        rw [e1, e2]; exact key _ _ hcp c
theorem Cp.check {g : Gr} {r : RG} (h : Cp g r) (tx : Int) : Cp (g.checkQ tx).2 (r.checkQ tx).2 ∧ (g.checkQ tx).1 = (r.checkQ tx).1 := by
  unfold Gr.checkQ RG.checkQ
  cases hf : findL g.nodes tx with
  | none =>
    cases hr : findR r.L tx with
    | none => exact ⟨h, rfl⟩
    | some x =>
      obtain ⟨hx, e⟩ := findR_some hr
      have := (h.lost hf hx e).1
      dsimp only
      rw [if_pos (by omega)]; exact ⟨h, rfl⟩
  | some n =>
    obtain ⟨hn, hid, x, hx, hM, e, hr⟩ := h.found hf
    rw [hr]
    dsimp only
    by_cases h1 : x.st = 1
    · have hs := hM.st
      rw [if_neg (show ¬ n.state ≠ 0 by omega), if_neg (show ¬ x.st ≠ 1 from fun e => e h1), hM.dm]
      by_cases h2 : x.dm = true
      · rw [if_pos h2, if_pos h2]; exact ⟨h, rfl⟩
      · rw [if_neg h2, if_neg h2]
        have hset : ∀ v, v ∈ chkL g.nodes n ↔ v ∈ vics r.L r.E (0, tx) true := fun v => by
          rw [vics_iff h.ok]
          unfold chkL
          rw [List.mem_flatMap]
          constructor
          · rintro ⟨k, hk, hv⟩
            obtain ⟨e1, p, hp, rfl, p3⟩ := (hM.ins (by omega) k).1 (sortI_mem'.1 hk)
            obtain ⟨np, hnp, Mp⟩ := h.live hp p3
            have hfp : findL g.nodes p.id = some np := by rw [← Mp.id]; exact findL_mem h.nd (List.mem_append_left _ hnp)
            rw [hfp] at hv
            dsimp only at hv
            obtain ⟨a, t⟩ := (from_iff h hp hx (List.mem_append_left _ hnp) hn Mp hM e1 (.inl p3)).1 hv
            exact ⟨a, p, x, t, fun e => (by cases e), fun _ => e⟩
          · rintro ⟨a, p, b, t, _, h2⟩
            have eb := nodup_id h.ok.nd t.hb hx ((h2 rfl).trans e.symm)
            subst eb
            have p3 : p.st ≠ 3 := fun p3 => by
              have := t.fi
              unfold firstR at this
              dsimp only at this
              rw [if_neg (by omega), if_pos (.inr p3)] at this
              cases this
            obtain ⟨np, hnp, Mp⟩ := h.live t.hp p3
            have hfp : findL g.nodes p.id = some np := by rw [← Mp.id]; exact findL_mem h.nd (List.mem_append_left _ hnp)
            refine ⟨p.id, sortI_mem'.2 ((hM.ins (by omega) _).2 ⟨t.e2, p, t.hp, rfl, p3⟩), ?_⟩
            rw [hfp]
            exact (from_iff h t.hp hx (List.mem_append_left _ hnp) hn Mp hM t.e2 (.inl p3)).2 ⟨a, t⟩
        by_cases h3 : tx ∈ chkL g.nodes n
        · rw [if_pos h3, if_pos ((hset tx).1 h3)]
          exact ⟨h.dooms fun k => by simp, rfl⟩
        · rw [if_neg h3, if_neg fun e => h3 ((hset tx).2 e)]
          refine ⟨?_, rfl⟩
          have hd : Cp (g.doomV (chkL g.nodes n)) (r.doom (vics r.L r.E (0, tx) true)) := h.dooms fun k => by simpa using hset k
          refine hd.asks tx (fun _ => rfl) fun y hy ey => ?_
          obtain ⟨z, hz, rfl⟩ := List.mem_map.1 hy
          have e1 : (rDm (vics r.L r.E (0, tx) true) z).id = z.id := by unfold rDm; split <;> rfl
          have e2 : (rDm (vics r.L r.E (0, tx) true) z).st = z.st := by unfold rDm; split <;> rfl
          rw [e2, nodup_id h.ok.nd hz hx ((e1.symm.trans ey).trans e.symm)]; omega
    · have hs := hM.st
      rw [if_pos (show n.state ≠ 0 by omega), if_pos (show x.st ≠ 1 from h1)]; exact ⟨h, rfl⟩
end Go.Proofs.Ytomgkmoecbnddaa
namespace Go.Proofs.Ytomgkmoecbnddaa
def Gr.prepQ (g : Gr) (tx : Int) : Gr := match findL g.nodes tx with
  | none => g
  | some n => if n.state = 0 then g.upd (at1 tx) setAsk else g
theorem Cp.prep {g : Gr} {r : RG} (h : Cp g r) (tx : Int) : Cp (g.prepQ tx) (r.prepare tx) := by
  unfold Gr.prepQ RG.prepare
  cases hf : findL g.nodes tx with
  | none =>
    cases hr : findR r.L tx with
    | none => exact h
    | some x =>
      obtain ⟨hx, e⟩ := findR_some hr
      have := (h.lost hf hx e).1
      dsimp only
      rw [if_neg (by omega)]; exact h
  | some n =>
    obtain ⟨hn, hid, x, hx, hM, e, hr⟩ := h.found hf
    have hs := hM.st
    rw [hr]
    dsimp only
    by_cases h1 : x.st = 1
    · rw [if_pos (show n.state = 0 by omega), if_pos h1]
      exact h.asks tx (fun _ => rfl) fun y hy ey => by rw [nodup_id h.ok.nd hy hx (ey.trans e.symm)]; omega
    · rw [if_neg (show ¬ n.state = 0 by omega), if_neg h1]; exact h
/-- with transactions that may be forgotten still there -/
structure CpW (g : Gr) (r : RG) : Prop where
  ok : ROk r
  nd : (g.nodes.map (·.id)).Nodup
  cm : g.commits = r.n
  lv : ∀ n ∈ g.live, ∃ x ∈ r.L, x.st ≠ 3 ∧ Mt r x n
  lv' : ∀ x ∈ r.L, x.st ≠ 3 → ∃ n ∈ g.live, n.id = x.id
  en : ∀ n ∈ g.ended, ∃ x ∈ r.L, x.st = 3 ∧ Mt r x n
  en' : ∀ x ∈ r.L, x.st = 3 → (∃ y ∈ r.L, y.st ≠ 3 ∧ y.bg < x.sq) → ∃ n ∈ g.ended, n.id = x.id
theorem leastB_le {l : List Nd} : ∀ {o s : Int}, s ≤ l.foldl (fun o n => if n.begin_ < o then n.begin_ else o) o ↔ s ≤ o ∧ ∀ n ∈ l, s ≤ n.begin_ := by
  induction l with
  | nil => intro o s; simp
  | cons a l ih =>
    intro o s
    rw [List.foldl_cons, ih]
    constructor
    · rintro ⟨h1, h2⟩
      refine ⟨by split at h1 <;> omega, fun n hn => ?_⟩
      rcases List.mem_cons.1 hn with rfl | hn
      · split at h1 <;> omega
      · exact h2 n hn
    · rintro ⟨h1, h2⟩
      have := h2 a (List.mem_cons_self ..)
      exact ⟨by split <;> omega, fun n hn => h2 n (List.mem_cons_of_mem _ hn)⟩
theorem CpW.forget {g : Gr} {r : RG} (h : CpW g r) (hn : r.n ≤ 1000000) : Cp g.forgetG r := by
  have hl : ∀ n ∈ g.ended, ∀ x ∈ r.L, Mt r x n → x.st = 3 → ((!decide (n.seq ≤ leastB g)) = true ↔ ∃ y ∈ r.L, y.st ≠ 3 ∧ y.bg < x.sq) := fun n hn' x hx hM h3 => by
    have hr := h.ok.rg x hx
    have h4 := hr.2.2 h3
    rw [hM.sq h3]
    unfold leastB
    simp only [Bool.not_eq_true', decide_eq_false_iff_not]
    rw [leastB_le]
    constructor
    · intro hc
      refine Classical.byContradiction fun hc2 => hc ⟨by unfold none_; omega, fun m hm => ?_⟩
      obtain ⟨y, hy, y3, My⟩ := h.lv m hm
      rw [My.bg]
      refine Classical.byContradiction fun h5 => hc2 ⟨y, hy, y3, by omega⟩
    · rintro ⟨y, hy, y3, h5⟩ ⟨_, h6⟩
      obtain ⟨m, hm, e⟩ := h.lv' y hy y3
      obtain ⟨z, hz, _, Mz⟩ := h.lv m hm
      have e2 : z = y := nodup_id h.ok.nd hz hy (Mz.id.symm.trans e)
      have := h6 m hm
      rw [Mz.bg, e2] at this
      omega
  refine ⟨h.ok, ?_, h.cm, h.lv, h.lv', fun n hn' => h.en n (List.mem_filter.1 hn').1, fun x hx h3 => ?_⟩
  · have := h.nd
    unfold Gr.nodes at this ⊢
    exact this.sublist ((List.Sublist.append (List.Sublist.refl _) List.filter_sublist).map _)
  · constructor
    · rintro ⟨n, hn', e⟩
      obtain ⟨h1, h2⟩ := List.mem_filter.1 hn'
      obtain ⟨y, hy, y3, hM⟩ := h.en n h1
      have e2 : y = x := nodup_id h.ok.nd hy hx (hM.id.symm.trans e)
      subst e2
      exact (hl n h1 y hx hM h3).1 h2
    · intro hy
      obtain ⟨n, hn', e⟩ := h.en' x hx h3 hy
      obtain ⟨y, hy', y3, hM⟩ := h.en n hn'
      have e2 : y = x := nodup_id h.ok.nd hy' hx (hM.id.symm.trans e)
      subst e2
      exact ⟨n, List.mem_filter.2 ⟨hn', (hl n hn' y hx hM h3).2 hy⟩, e⟩
theorem setDone_id (tx c : Int) (x : RT) : (setDone tx c x).id = x.id := by unfold setDone; split <;> rfl
theorem Cp.commit {g : Gr} {r : RG} (h : Cp g r) (hn : r.n ≤ 999999) (tx : Int) : Cp (g.commitQ tx) (r.commit tx) := by
  unfold Gr.commitQ RG.commit
  cases hf : findL g.nodes tx with
  | none =>
    cases hr : findR r.L tx with
    | none => exact h
    | some x =>
      obtain ⟨hx, e⟩ := findR_some hr
      have := (h.lost hf hx e).1
      dsimp only
      rw [if_pos this]; exact h
  | some n =>
    obtain ⟨hn', hid, x, hx, hM, e, hr⟩ := h.found hf
    have hs := hM.st
    rw [hr]
    dsimp only
    by_cases h3 : x.st = 3
    · rw [if_pos (show n.state = 2 by omega), if_pos h3]; exact h
    rw [if_neg (show ¬ n.state = 2 by omega), if_neg h3]
    subst e
    have hnl : n ∈ g.live := (List.mem_append.1 hn').resolve_right fun h1 => by
      obtain ⟨y, hy, y3, My⟩ := h.en n h1
      rw [nodup_id h.ok.nd hy hx (My.id.symm.trans hM.id)] at y3; exact h3 y3
    have hcm := h.cm
    -- membership in the new list
    have hL : ∀ z ∈ r.L, z.id ≠ x.id → z ∈ r.L.map (setDone x.id (r.n + 1)) := fun z hz hne => List.mem_map.2 ⟨z, hz, by unfold setDone; rw [if_neg hne]⟩
    have hxL : { x with st := 3, sq := r.n + 1 } ∈ r.L.map (setDone x.id (r.n + 1)) := List.mem_map.2 ⟨x, hx, by unfold setDone; rw [if_pos rfl]⟩
    have hL' : ∀ z ∈ r.L.map (setDone x.id (r.n + 1)), (z ∈ r.L ∧ z.id ≠ x.id) ∨ z = { x with st := 3, sq := r.n + 1 } := fun z hz => by
      obtain ⟨y, hy, rfl⟩ := List.mem_map.1 hz
      unfold setDone
      by_cases hc : y.id = x.id
      · rw [if_pos hc, nodup_id h.ok.nd hy hx hc]; exact .inr rfl
      · rw [if_neg hc]; exact .inl ⟨hy, hc⟩
    have hexl : ∀ k, (∃ a ∈ r.L.map (setDone x.id (r.n + 1)), a.id = k ∧ a.st ≠ 3) ↔ (∃ a ∈ r.L, a.id = k ∧ a.st ≠ 3) ∧ k ≠ x.id := fun k => by
      constructor
      · rintro ⟨a, ha, e, a3⟩
        rcases hL' a ha with ⟨h1, h2⟩ | rfl
        · exact ⟨⟨a, h1, e, a3⟩, e ▸ h2⟩
        · exact absurd rfl a3
      · rintro ⟨⟨a, ha, e, a3⟩, h2⟩
        exact ⟨a, hL a ha (e ▸ h2), e, a3⟩
    have hself : ¬ (x.id, x.id) ∈ r.E := fun e => (h.ok.ed _ e).1 rfl
    have hfar : (doneN n (g.commits + 1)).far = if x.ro then x.bg + 1 else r.n + 1 + 1 := by
      unfold doneN Nd.far
      dsimp only
      rw [hM.ro, hM.bg, hcm]
      split <;> rfl
    have hfarx : ({ x with st := 3, sq := r.n + 1 } : RT).far = if x.ro then x.bg + 1 else r.n + 1 + 1 := by
      unfold RT.far
      dsimp only
      split
      · rfl
      · rw [if_pos rfl]
    refine CpW.forget ?_ (by show r.n + 1 ≤ _; omega)
    have hids : (r.L.map (setDone x.id (r.n + 1))).map (·.id) = r.L.map (·.id) := by rw [List.map_map]; exact List.map_congr_left fun z _ => setDone_id _ _ z
    have hliveM : ∀ m ∈ g.live, m.id ≠ n.id → ∀ z ∈ r.L, z.st ≠ 3 → Mt r z m → Mt { r with L := r.L.map (setDone x.id (r.n + 1)), n := r.n + 1 } z (off1 n (some (g.commits + 1)) (some (doneN n (g.commits + 1)).far) m) := fun m hm hne z hz z3 Mz => by
      refine ⟨Mz.id, Mz.bg, Mz.st, Mz.sq, Mz.ro, Mz.dm, fun _ k => ?_, fun _ k => ?_, fun c hc => ?_, fun _ c hc => ?_, Mz.bs, Mz.bl⟩
      · show k ∈ rmI m.ins n.id ↔ _
        rw [rmI_mem, Mz.ins z3 k, hexl, hM.id]
        exact ⟨fun ⟨⟨x1, x2⟩, x3⟩ => ⟨x1, x2, x3⟩, fun ⟨x1, x2, x3⟩ => ⟨⟨x1, x2⟩, x3⟩⟩
      · show k ∈ rmI m.outs n.id ↔ _
        rw [rmI_mem, Mz.outs z3 k, hexl, hM.id]
        exact ⟨fun ⟨⟨x1, x2⟩, x3⟩ => ⟨x1, x2, x3⟩, fun ⟨x1, x2, x3⟩ => ⟨⟨x1, x2⟩, x3⟩⟩
      · show (if n.ins.contains m.id then min m.least (g.commits + 1) else m.least) < c ↔ _
        have hin : n.ins.contains m.id = true ↔ (z.id, x.id) ∈ r.E := by
          rw [Mz.id]
          simp only [List.contains_eq_mem, decide_eq_true_eq]
          rw [hM.ins h3]
          exact ⟨fun e => e.1, fun e => ⟨e, z, hz, rfl, z3⟩⟩
        have e1 : (if n.ins.contains m.id then min m.least (g.commits + 1) else m.least) < c ↔ m.least < c ∨ ((z.id, x.id) ∈ r.E ∧ r.n + 1 < c) := by
          rw [← hin, hcm]
          by_cases hc : n.ins.contains m.id = true
          · rw [if_pos hc]
            exact ⟨fun e => by rcases Int.lt_or_le m.least c with e2 | e2; exact .inl e2; exact .inr ⟨hc, by omega⟩, fun e => by rcases e with e | e <;> omega⟩
          · rw [if_neg hc]; exact ⟨.inl, fun e => e.elim id fun e => absurd e.1 hc⟩
        rw [e1, Mz.least c hc]
        constructor
        · rintro (⟨b, hb, k1, k2, k3, k4⟩ | ⟨k1, k2⟩)
          · exact ⟨b, hL b hb (fun e => h3 (by rw [nodup_id h.ok.nd hb hx e] at k1; exact k1)), k1, k2, k3, k4⟩
          · exact ⟨_, hxL, rfl, k1, k2, fun e => absurd e z3⟩
        · rintro ⟨b, hb, k1, k2, k3, k4⟩
          rcases hL' b hb with ⟨h1, h2⟩ | rfl
          · exact .inl ⟨b, h1, k1, k2, k3, k4⟩
          · exact .inr ⟨k2, k3⟩
      · show c < (if n.outs.contains m.id then max m.reach (doneN n (g.commits + 1)).far else m.reach) ↔ _
        have hin : n.outs.contains m.id = true ↔ (x.id, z.id) ∈ r.E := by
          rw [Mz.id]
          simp only [List.contains_eq_mem, decide_eq_true_eq]
          rw [hM.outs h3]
          exact ⟨fun e => e.1, fun e => ⟨e, z, hz, rfl, z3⟩⟩
        have e1 : c < (if n.outs.contains m.id then max m.reach (doneN n (g.commits + 1)).far else m.reach) ↔ c < m.reach ∨ ((x.id, z.id) ∈ r.E ∧ c < (doneN n (g.commits + 1)).far) := by
          rw [← hin]
          by_cases hc : n.outs.contains m.id = true
          · rw [if_pos hc]
            exact ⟨fun e => by rcases Int.lt_or_le c m.reach with e2 | e2; exact .inl e2; exact .inr ⟨hc, by omega⟩, fun e => by rcases e with e | e <;> omega⟩
          · rw [if_neg hc]; exact ⟨.inl, fun e => e.elim id fun e => absurd e.1 hc⟩
        rw [e1, Mz.reach z3 c hc, hfar]
        constructor
        · rintro (⟨b, hb, k1, k2, k3⟩ | ⟨k1, k2⟩)
          · exact ⟨b, hL b hb (fun e => h3 (by rw [nodup_id h.ok.nd hb hx e] at k1; exact k1)), k1, k2, k3⟩
          · exact ⟨_, hxL, rfl, k1, by rw [hfarx]; exact k2⟩
        · rintro ⟨b, hb, k1, k2, k3⟩
          rcases hL' b hb with ⟨h1, h2⟩ | rfl
          · exact .inl ⟨b, h1, k1, k2, k3⟩
          · exact .inr ⟨k2, by rw [hfarx] at k3; exact k3⟩
    have hendM : ∀ m, ∀ z ∈ r.L, z.st = 3 → Mt r z m → Mt { r with L := r.L.map (setDone x.id (r.n + 1)), n := r.n + 1 } z m := fun m z hz z3 Mz => by
      have hrz := (h.ok.rg z hz).2.2 z3
      refine ⟨Mz.id, Mz.bg, Mz.st, Mz.sq, Mz.ro, Mz.dm, fun e => absurd z3 e, fun e => absurd z3 e, fun c hc => ?_, fun e => absurd z3 e, Mz.bs, Mz.bl⟩
      rw [Mz.least c hc]
      constructor
      · rintro ⟨b, hb, k1, k2, k3, k4⟩
        exact ⟨b, hL b hb (fun e => h3 (by rw [nodup_id h.ok.nd hb hx e] at k1; exact k1)), k1, k2, k3, k4⟩
      · rintro ⟨b, hb, k1, k2, k3, k4⟩
        rcases hL' b hb with ⟨h1, h2⟩ | rfl
        · exact ⟨b, h1, k1, k2, k3, k4⟩
        · have := k4 z3
          dsimp only at this
          omega
    have hdone : Mt { r with L := r.L.map (setDone x.id (r.n + 1)), n := r.n + 1 } { x with st := 3, sq := r.n + 1 } (doneN n (g.commits + 1)) := by
      refine ⟨hM.id, hM.bg, rfl, fun _ => ?_, hM.ro, hM.dm, fun e => absurd rfl e, fun e => absurd rfl e, fun c hc => ?_, fun e => absurd rfl e, hM.bs, hM.bl⟩
      · show g.commits + 1 = r.n + 1; rw [hcm]
      · show n.least < c ↔ _
        rw [hM.least c hc]
        constructor
        · rintro ⟨b, hb, k1, k2, k3, k4⟩
          exact ⟨b, hL b hb (fun e => h3 (by rw [nodup_id h.ok.nd hb hx e] at k1; exact k1)), k1, k2, k3, fun _ => by have := (h.ok.rg b hb).2.2 k1; dsimp only; omega⟩
        · rintro ⟨b, hb, k1, k2, k3, k4⟩
          rcases hL' b hb with ⟨h1, h2⟩ | rfl
          · exact ⟨b, h1, k1, k2, k3, fun e => absurd e h3⟩
          · exact absurd k2 hself
    refine ⟨⟨?_, ?_, ?_, ?_, ?_, ?_, ?_⟩, ?_, ?_, ?_, ?_, ?_, ?_⟩
    · rw [hids]; exact h.ok.nd
    · intro z hz; rcases hL' z hz with ⟨h1, _⟩ | rfl
      · exact h.ok.st z h1
      · exact .inr (.inr rfl)
    · intro z hz; rcases hL' z hz with ⟨h1, _⟩ | rfl
      · have := h.ok.rg z h1
        exact ⟨this.1, by show _ ≤ r.n + 1; omega, fun e => by have := this.2.2 e; exact ⟨this.1, by show _ ≤ r.n + 1; omega⟩⟩
      · have := h.ok.rg x hx
        exact ⟨this.1, by show x.bg ≤ r.n + 1; omega, fun _ => ⟨by show x.bg < r.n + 1; omega, by show r.n + 1 ≤ r.n + 1; omega⟩⟩
    · intro y hy z hz y3 z3 es
      rcases hL' y hy with ⟨h1, _⟩ | rfl
      · rcases hL' z hz with ⟨h2, _⟩ | rfl
        · exact h.ok.sd y h1 z h2 y3 z3 es
        · have := (h.ok.rg y h1).2.2 y3; dsimp only at es; omega
      · rcases hL' z hz with ⟨h2, _⟩ | rfl
        · have := (h.ok.rg z h2).2.2 z3; dsimp only at es; omega
        · rfl
    · intro d hd
      obtain ⟨h1, h2, h4⟩ := h.ok.ed d hd
      exact ⟨h1, ex_map.2 ((ex_congr fun x _ => by rw [setDone_id]).1 h2), ex_map.2 ((ex_congr fun x _ => by rw [setDone_id]).1 h4)⟩
    · show 0 ≤ r.n + 1; have := h.ok.cn; omega
    · intro y hy z hz hb z3
      have hyb : ∃ y' ∈ r.L, y'.bg = y.bg ∧ y'.bs = y.bs := by
        rcases hL' y hy with ⟨h1, _⟩ | rfl
        · exact ⟨y, h1, rfl, rfl⟩
        · exact ⟨x, hx, rfl, rfl⟩
      obtain ⟨y', hy', e1, e2⟩ := hyb
      rcases hL' z hz with ⟨h2, _⟩ | rfl
      · have := h.ok.bb y' hy' z h2 (by rw [e2]; exact hb) z3; omega
      · have := (h.ok.rg y' hy').2.1; dsimp only; omega
    · show (((restL g.live n.id).map (off1 n (some (g.commits + 1)) (some (doneN n (g.commits + 1)).far)) ++ (g.ended ++ [doneN n (g.commits + 1)])).map (·.id)).Nodup
      have hnd := h.nd
      unfold Gr.nodes at hnd
      rw [List.map_append, List.nodup_append] at hnd
      rw [List.map_append, List.map_map, List.map_append]
      have e1 : (restL g.live n.id).map ((fun m : Nd => m.id) ∘ off1 n (some (g.commits + 1)) (some (doneN n (g.commits + 1)).far)) = (restL g.live n.id).map (·.id) := rfl
      rw [e1, List.nodup_append, List.nodup_append]
      refine ⟨hnd.1.sublist (List.Sublist.map _ List.filter_sublist), ⟨hnd.2.1, by simp, fun a ha b hb => ?_⟩, fun a ha b hb => ?_⟩
      · simp only [List.map_cons, List.map_nil, List.mem_singleton] at hb
        subst hb
        exact fun e => hnd.2.2 n.id (List.mem_map.2 ⟨n, hnl, rfl⟩) a ha e.symm
      · obtain ⟨m, hm, rfl⟩ := List.mem_map.1 ha
        obtain ⟨hm1, hm2⟩ := restL_mem.1 hm
        rcases List.mem_append.1 hb with hb | hb
        · exact hnd.2.2 _ (List.mem_map.2 ⟨m, hm1, rfl⟩) b hb
        · simp only [List.map_cons, List.map_nil, List.mem_singleton] at hb
          subst hb; exact hm2
    · show g.commits + 1 = r.n + 1; rw [hcm]
    · intro m' hm'
      obtain ⟨m, hm, rfl⟩ := List.mem_map.1 hm'
      obtain ⟨hm1, hm2⟩ := restL_mem.1 hm
      obtain ⟨z, hz, z3, Mz⟩ := h.lv m hm1
      exact ⟨z, hL z hz (fun e => hm2 (Mz.id.trans (e.trans hM.id.symm))), z3, hliveM m hm1 hm2 z hz z3 Mz⟩
    · intro z hz z3
      rcases hL' z hz with ⟨h1, h2⟩ | rfl
      · obtain ⟨m, hm, e⟩ := h.lv' z h1 z3
        exact ⟨off1 n _ _ m, List.mem_map.2 ⟨m, restL_mem.2 ⟨hm, fun e2 => h2 (e.symm.trans (e2.trans hM.id))⟩, rfl⟩, e⟩
      · exact absurd rfl z3
    · intro m hm
      rcases List.mem_append.1 hm with hm | hm
      · obtain ⟨z, hz, z3, Mz⟩ := h.en m hm
        exact ⟨z, hL z hz (fun e => h3 (by rw [nodup_id h.ok.nd hz hx e] at z3; exact z3)), z3, hendM m z hz z3 Mz⟩
      · simp only [List.mem_singleton] at hm
        subst hm
        exact ⟨_, hxL, rfl, hdone⟩
    · intro z hz z3 hy
      rcases hL' z hz with ⟨h1, h2⟩ | rfl
      · obtain ⟨y, hy, y3, hlt⟩ := hy
        rcases hL' y hy with ⟨h4, _⟩ | rfl
        · obtain ⟨m, hm, e⟩ := (h.en' z h1 z3).2 ⟨y, h4, y3, hlt⟩
          exact ⟨m, List.mem_append_left _ hm, e⟩
        · exact absurd rfl y3
      · exact ⟨_, List.mem_append_right _ (List.mem_singleton.2 rfl), hM.id⟩
end Go.Proofs.Ytomgkmoecbnddaa
namespace Go.Proofs.Ytomgkmoecbnddaa
theorem Cp.abort {g : Gr} {r : RG} (h : Cp g r) (hn : r.n ≤ 1000000) (tx : Int) : Cp (g.abortQ tx) (r.abort tx) := by
  unfold Gr.abortQ RG.abort
  cases hf : findL g.nodes tx with
  | none =>
    cases hr : findR r.L tx with
    | none => exact h
    | some x =>
      obtain ⟨hx, e⟩ := findR_some hr
      have := (h.lost hf hx e).1
      dsimp only
      rw [if_pos this]; exact h
  | some n =>
    obtain ⟨hn', hid, x, hx, hM, e, hr⟩ := h.found hf
    have hs := hM.st
    rw [hr]
    dsimp only
    by_cases h3 : x.st = 3
    · rw [if_pos (show n.state = 2 by omega), if_pos h3]; exact h
    rw [if_neg (show ¬ n.state = 2 by omega), if_neg h3]
    subst e
    have hnl : n ∈ g.live := (List.mem_append.1 hn').resolve_right fun h1 => by
      obtain ⟨y, hy, y3, My⟩ := h.en n h1
      rw [nodup_id h.ok.nd hy hx (My.id.symm.trans hM.id)] at y3; exact h3 y3
    have hmemL : ∀ z, z ∈ (r.L.filter fun y => !decide (y.id = x.id)) ↔ z ∈ r.L ∧ z.id ≠ x.id := fun z => by rw [List.mem_filter]; simp
    have hmemE : ∀ d, d ∈ withoutE r.E x.id ↔ d ∈ r.E ∧ d.1 ≠ x.id ∧ d.2 ≠ x.id := fun d => by unfold withoutE; rw [List.mem_filter]; simp
    refine CpW.forget ?_ hn
    have hmt : ∀ m, ∀ z ∈ r.L, z.id ≠ x.id → Mt r z m → ∀ m', m'.id = m.id → m'.begin_ = m.begin_ → m'.state = m.state → m'.seq = m.seq → m'.ro = m.ro → m'.dm = m.dm → (z.st ≠ 3 → m'.ins = rmI m.ins x.id) → (z.st ≠ 3 → m'.outs = rmI m.outs x.id) → m'.least = m.least → m'.reach = m.reach → m'.beside = m.beside →
        Mt { r with L := r.L.filter fun y => !decide (y.id = x.id), E := withoutE r.E x.id } z m' := fun m z hz hzx Mz m' e1 e2 e3 e4 e5 e6 e7 e8 e9 e10 e11 => by
      refine ⟨e1.trans Mz.id, e2.trans Mz.bg, e3.trans Mz.st, fun z3 => e4.trans (Mz.sq z3), e5.trans Mz.ro, e6.trans Mz.dm, fun z3 k => ?_, fun z3 k => ?_, fun c hc => ?_, fun z3 c hc => ?_, fun k => by rw [e11]; exact Mz.bs k, by rw [e11]; exact Mz.bl⟩
      · rw [e7 z3, rmI_mem, Mz.ins z3 k]
        show _ ↔ (k, z.id) ∈ withoutE r.E x.id ∧ ∃ a ∈ (r.L.filter fun y => !decide (y.id = x.id)), a.id = k ∧ a.st ≠ 3
        rw [hmemE]
        constructor
        · rintro ⟨⟨k1, a, ha, k2, k3⟩, k4⟩
          exact ⟨⟨k1, k4, hzx⟩, a, (hmemL a).2 ⟨ha, k2 ▸ k4⟩, k2, k3⟩
        · rintro ⟨⟨k1, k4, _⟩, a, ha, k2, k3⟩
          exact ⟨⟨k1, a, ((hmemL a).1 ha).1, k2, k3⟩, k4⟩
      · rw [e8 z3, rmI_mem, Mz.outs z3 k]
        show _ ↔ (z.id, k) ∈ withoutE r.E x.id ∧ ∃ a ∈ (r.L.filter fun y => !decide (y.id = x.id)), a.id = k ∧ a.st ≠ 3
        rw [hmemE]
        constructor
        · rintro ⟨⟨k1, a, ha, k2, k3⟩, k4⟩
          exact ⟨⟨k1, hzx, k4⟩, a, (hmemL a).2 ⟨ha, k2 ▸ k4⟩, k2, k3⟩
        · rintro ⟨⟨k1, _, k4⟩, a, ha, k2, k3⟩
          exact ⟨⟨k1, a, ((hmemL a).1 ha).1, k2, k3⟩, k4⟩
      · rw [e9, Mz.least c hc]
        show _ ↔ ∃ b ∈ (r.L.filter fun y => !decide (y.id = x.id)), b.st = 3 ∧ (z.id, b.id) ∈ withoutE r.E x.id ∧ b.sq < c ∧ (z.st = 3 → b.sq < z.sq)
        constructor
        · rintro ⟨b, hb, k1, k2, k3⟩
          have hbx : b.id ≠ x.id := fun e => h3 (by rw [nodup_id h.ok.nd hb hx e] at k1; exact k1)
          exact ⟨b, (hmemL b).2 ⟨hb, hbx⟩, k1, (hmemE _).2 ⟨k2, hzx, hbx⟩, k3⟩
        · rintro ⟨b, hb, k1, k2, k3⟩
          exact ⟨b, ((hmemL b).1 hb).1, k1, ((hmemE _).1 k2).1, k3⟩
      · rw [e10, Mz.reach z3 c hc]
        show _ ↔ ∃ a ∈ (r.L.filter fun y => !decide (y.id = x.id)), a.st = 3 ∧ (a.id, z.id) ∈ withoutE r.E x.id ∧ c < a.far
        constructor
        · rintro ⟨b, hb, k1, k2, k3⟩
          have hbx : b.id ≠ x.id := fun e => h3 (by rw [nodup_id h.ok.nd hb hx e] at k1; exact k1)
          exact ⟨b, (hmemL b).2 ⟨hb, hbx⟩, k1, (hmemE _).2 ⟨k2, hbx, hzx⟩, k3⟩
        · rintro ⟨b, hb, k1, k2, k3⟩
          exact ⟨b, ((hmemL b).1 hb).1, k1, ((hmemE _).1 k2).1, k3⟩
    refine ⟨⟨?_, ?_, ?_, ?_, ?_, h.ok.cn, ?_⟩, ?_, h.cm, ?_, ?_, ?_, ?_⟩
    · exact h.ok.nd.sublist (List.Sublist.map _ List.filter_sublist)
    · exact fun z hz => h.ok.st z ((hmemL z).1 hz).1
    · exact fun z hz => h.ok.rg z ((hmemL z).1 hz).1
    · exact fun z hz y hy => h.ok.sd z ((hmemL z).1 hz).1 y ((hmemL y).1 hy).1
    · intro d hd
      obtain ⟨k1, k2, k3⟩ := (hmemE d).1 hd
      obtain ⟨q1, ⟨a, ha, ea⟩, ⟨b, hb, eb⟩⟩ := h.ok.ed d k1
      exact ⟨q1, ⟨a, (hmemL a).2 ⟨ha, by rw [ea]; exact k2⟩, ea⟩, ⟨b, (hmemL b).2 ⟨hb, by rw [eb]; exact k3⟩, eb⟩⟩
    · exact fun z hz y hy => h.ok.bb z ((hmemL z).1 hz).1 y ((hmemL y).1 hy).1
    · show (((restL g.live n.id).map (off1 n none none) ++ (g.ended ++ ([] : List Nd))).map (·.id)).Nodup
      have hnd := h.nd
      unfold Gr.nodes at hnd
      rw [List.append_nil, List.map_append, List.map_map]
      rw [List.map_append] at hnd
      exact hnd.sublist (List.Sublist.append (List.Sublist.map _ List.filter_sublist) (List.Sublist.refl _))
    · intro m' hm'
      obtain ⟨m, hm, rfl⟩ := List.mem_map.1 hm'
      obtain ⟨hm1, hm2⟩ := restL_mem.1 hm
      obtain ⟨z, hz, z3, Mz⟩ := h.lv m hm1
      have hzx : z.id ≠ x.id := fun e => hm2 (Mz.id.trans (e.trans hM.id.symm))
      refine ⟨z, (hmemL z).2 ⟨hz, hzx⟩, z3, hmt m z hz hzx Mz _ rfl rfl rfl rfl rfl rfl (fun _ => by rw [← hM.id]; rfl) (fun _ => by rw [← hM.id]; rfl) ?_ ?_ rfl⟩
      · unfold off1; dsimp only; split <;> rfl
      · unfold off1; dsimp only; split <;> rfl
    · intro z hz z3
      obtain ⟨h1, h2⟩ := (hmemL z).1 hz
      obtain ⟨m, hm, e⟩ := h.lv' z h1 z3
      exact ⟨off1 n _ _ m, List.mem_map.2 ⟨m, restL_mem.2 ⟨hm, fun e2 => h2 (e.symm.trans (e2.trans hM.id))⟩, rfl⟩, e⟩
    · intro m hm
      have hm : m ∈ g.ended := by
        have hm : m ∈ g.ended ++ [] := hm
        rwa [List.append_nil] at hm
      obtain ⟨z, hz, z3, Mz⟩ := h.en m hm
      have hzx : z.id ≠ x.id := fun e => h3 (by rw [nodup_id h.ok.nd hz hx e] at z3; exact z3)
      exact ⟨z, (hmemL z).2 ⟨hz, hzx⟩, z3, hmt m z hz hzx Mz m rfl rfl rfl rfl rfl rfl (fun e => absurd z3 e) (fun e => absurd z3 e) rfl rfl rfl⟩
    · intro z hz z3 hy
      obtain ⟨h1, h2⟩ := (hmemL z).1 hz
      obtain ⟨y, hy, y3, hlt⟩ := hy
      obtain ⟨m, hm, e⟩ := (h.en' z h1 z3).2 ⟨y, ((hmemL y).1 hy).1, y3, hlt⟩
      exact ⟨m, List.mem_append_left _ hm, e⟩
/-- the reference's list in another order -/
theorem Cp.perm {g : Gr} {r : RG} (h : Cp g r) {L' : List RT} (hL : ∀ x, x ∈ L' ↔ x ∈ r.L) (hnd : (L'.map (·.id)).Nodup) : Cp g { r with L := L' } := by
  have hex : ∀ p : RT → Prop, (∃ b ∈ L', p b) ↔ ∃ b ∈ r.L, p b := fun p => ⟨fun ⟨b, hb, hp⟩ => ⟨b, (hL b).1 hb, hp⟩, fun ⟨b, hb, hp⟩ => ⟨b, (hL b).2 hb, hp⟩⟩
  have hmt : ∀ z n, Mt r z n → Mt { r with L := L' } z n := fun z n M =>
    ⟨M.id, M.bg, M.st, M.sq, M.ro, M.dm, fun z3 k => by rw [M.ins z3 k]; show _ ↔ _ ∧ ∃ a ∈ L', _; rw [hex], fun z3 k => by rw [M.outs z3 k]; show _ ↔ _ ∧ ∃ a ∈ L', _; rw [hex], fun c hc => by rw [M.least c hc]; show _ ↔ ∃ a ∈ L', _; rw [hex], fun z3 c hc => by rw [M.reach z3 c hc]; show _ ↔ ∃ a ∈ L', _; rw [hex], M.bs, M.bl⟩
  refine ⟨⟨hnd, fun x hx => h.ok.st x ((hL x).1 hx), fun x hx => h.ok.rg x ((hL x).1 hx), fun x hx y hy => h.ok.sd x ((hL x).1 hx) y ((hL y).1 hy), fun e he => by obtain ⟨k1, k2, k3⟩ := h.ok.ed e he; exact ⟨k1, (hex _).2 k2, (hex _).2 k3⟩, h.ok.cn, fun x hx y hy => h.ok.bb x ((hL x).1 hx) y ((hL y).1 hy)⟩, h.nd, h.cm, ?_, ?_, ?_, ?_⟩
  · intro n hn; obtain ⟨x, hx, x3, M⟩ := h.lv n hn; exact ⟨x, (hL x).2 hx, x3, hmt x n M⟩
  · exact fun x hx => h.lv' x ((hL x).1 hx)
  · intro n hn; obtain ⟨x, hx, x3, M⟩ := h.en n hn; exact ⟨x, (hL x).2 hx, x3, hmt x n M⟩
  · intro x hx x3; rw [h.en' x ((hL x).1 hx) x3]; show _ ↔ ∃ y ∈ L', _; rw [hex]
theorem bsOf_mem {l : List Nd} (hn : (l.map (·.id)).Nodup) {k : Int} : k ∈ bsOf l ↔ ∃ n ∈ l, n.id = k ∧ n.ro = false := by
  unfold bsOf
  rw [List.mem_filter, sortI_mem', List.mem_map]
  constructor
  · rintro ⟨⟨n, hn', rfl⟩, h2⟩
    rw [findL_mem hn hn'] at h2
    exact ⟨n, hn', rfl, by simpa using h2⟩
  · rintro ⟨n, hn', rfl, h2⟩
    refine ⟨⟨n, hn', rfl⟩, ?_⟩
    rw [findL_mem hn hn']
    simp [h2]
theorem besR_mem {l : List RT} {tx k : Int} : k ∈ besR l tx ↔ ∃ y ∈ l, y.id = k ∧ y.id ≠ tx ∧ y.ro = false ∧ y.st ≠ 3 := by
  unfold besR
  rw [List.mem_map]
  constructor
  · rintro ⟨y, hy, rfl⟩
    obtain ⟨h1, h2⟩ := List.mem_filter.1 hy
    simp only [Bool.and_eq_true, Bool.not_eq_true', decide_eq_false_iff_not] at h2
    exact ⟨y, h1, rfl, h2.1.1, h2.1.2, h2.2⟩
  · rintro ⟨y, hy, rfl, h2, h3, h4⟩
    exact ⟨y, List.mem_filter.2 ⟨hy, by simp [h2, h3, h4]⟩, rfl⟩
theorem len_le {l m : List Int} (hl : l.Nodup) (h : ∀ k ∈ l, k ∈ m) : l.length ≤ m.length := nodup_len l m hl h
theorem Cp.active {g : Gr} {r : RG} (h : Cp g r) : g.live.length = r.active := by
  have hnd := h.nd
  unfold Gr.nodes at hnd
  rw [List.map_append, List.nodup_append] at hnd
  have h1 : ((r.L.filter fun y => !decide (y.st = 3)).map (·.id)).Nodup := h.ok.nd.sublist (List.Sublist.map _ List.filter_sublist)
  have h2 := len_le hnd.1 (m := (r.L.filter fun y => !decide (y.st = 3)).map (·.id)) fun k hk => by
    obtain ⟨n, hn, rfl⟩ := List.mem_map.1 hk
    obtain ⟨x, hx, x3, M⟩ := h.lv n hn
    exact List.mem_map.2 ⟨x, List.mem_filter.2 ⟨hx, by simpa using x3⟩, M.id.symm⟩
  have h3 := len_le h1 (m := g.live.map (·.id)) fun k hk => by
    obtain ⟨x, hx, rfl⟩ := List.mem_map.1 hk
    obtain ⟨h4, h5⟩ := List.mem_filter.1 hx
    obtain ⟨n, hn, M⟩ := h.live h4 (by simpa using h5)
    exact List.mem_map.2 ⟨n, hn, M.id⟩
  rw [List.length_map, List.length_map] at h2 h3
  unfold RG.active
  omega
/-- a new transaction -/
theorem Cp.add {g : Gr} {r : RG} (h : Cp g r) (hlen : r.L.length ≤ 1000000) {tx : Int} {ro : Bool} (hno : ∀ x ∈ r.L, x.id ≠ tx) : Cp (g.addN tx ro) { r with L := r.L ++ [newR r tx ro] } := by
  have hnol : ∀ n ∈ g.nodes, n.id ≠ tx := fun n hn e => by obtain ⟨x, hx, M⟩ := h.mt hn; exact hno x hx (M.id.symm.trans e)
  have hndl : (g.live.map (·.id)).Nodup := by have := h.nd; unfold Gr.nodes at this; rw [List.map_append, List.nodup_append] at this; exact this.1
  have hE : ∀ k, ¬ (k, tx) ∈ r.E ∧ ¬ (tx, k) ∈ r.E := fun k => ⟨fun e => by obtain ⟨_, _, ⟨x, hx, e2⟩⟩ := h.ok.ed _ e; exact hno x hx e2, fun e => by obtain ⟨_, ⟨x, hx, e2⟩, _⟩ := h.ok.ed _ e; exact hno x hx e2⟩
  have hex : ∀ p : RT → Prop, (∃ b ∈ r.L ++ [newR r tx ro], p b) ↔ (∃ b ∈ r.L, p b) ∨ p (newR r tx ro) := fun p => by
    constructor
    · rintro ⟨b, hb, hp⟩
      rcases List.mem_append.1 hb with hb | hb
      · exact .inl ⟨b, hb, hp⟩
      · rw [List.mem_singleton] at hb; subst hb; exact .inr hp
    · rintro (⟨b, hb, hp⟩ | hp)
      · exact ⟨b, List.mem_append_left _ hb, hp⟩
      · exact ⟨_, List.mem_append_right _ (List.mem_singleton.2 rfl), hp⟩
  have hst : (newR r tx ro).st = 1 := rfl
  have hid : (newR r tx ro).id = tx := rfl
  have hmt : ∀ z n, Mt r z n → Mt { r with L := r.L ++ [newR r tx ro] } z n := fun z n M => by
    refine ⟨M.id, M.bg, M.st, M.sq, M.ro, M.dm, fun z3 k => ?_, fun z3 k => ?_, fun c hc => ?_, fun z3 c hc => ?_, M.bs, M.bl⟩
    · rw [M.ins z3 k]; show _ ↔ _ ∧ ∃ a ∈ r.L ++ [newR r tx ro], _; rw [hex]
      exact ⟨fun e => ⟨e.1, .inl e.2⟩, fun e => ⟨e.1, e.2.resolve_right fun e2 => (hE z.id).2 (by have := e.1; rw [← e2.1] at this; exact this)⟩⟩
    · rw [M.outs z3 k]; show _ ↔ _ ∧ ∃ a ∈ r.L ++ [newR r tx ro], _; rw [hex]
      exact ⟨fun e => ⟨e.1, .inl e.2⟩, fun e => ⟨e.1, e.2.resolve_right fun e2 => (hE z.id).1 (by have := e.1; rw [← e2.1] at this; exact this)⟩⟩
    · rw [M.least c hc]; show _ ↔ ∃ a ∈ r.L ++ [newR r tx ro], _; rw [hex]
      exact ⟨.inl, fun e => e.resolve_right fun e2 => absurd (hst.symm.trans e2.1) (by decide)⟩
    · rw [M.reach z3 c hc]; show _ ↔ ∃ a ∈ r.L ++ [newR r tx ro], _; rw [hex]
      exact ⟨.inl, fun e => e.resolve_right fun e2 => absurd (hst.symm.trans e2.1) (by decide)⟩
  have hnew : Mt { r with L := r.L ++ [newR r tx ro] } (newR r tx ro) (newN g tx ro) := by
    refine ⟨rfl, h.cm, rfl, fun e => absurd (hst.symm.trans e) (by decide), rfl, rfl, fun _ k => ?_, fun _ k => ?_, fun c hc => ?_, fun _ c hc => ?_, fun k => ?_, ?_⟩
    · exact ⟨fun e => (by cases e), fun e => absurd e.1 (hE k).1⟩
    · exact ⟨fun e => (by cases e), fun e => absurd e.1 (hE k).2⟩
    · exact ⟨fun e => absurd (show none_ < c from e) (by omega), fun ⟨b, _, _, e, _⟩ => absurd e (hE b.id).2⟩
    · exact ⟨fun e => absurd (show c < 0 from e) (by omega), fun ⟨b, _, _, e, _⟩ => absurd e (hE b.id).1⟩
    · show k ∈ bsOf g.live ↔ k ∈ besR r.L tx
      rw [bsOf_mem hndl, besR_mem]
      constructor
      · rintro ⟨n, hn, rfl, hro⟩
        obtain ⟨x, hx, x3, M⟩ := h.lv n hn
        exact ⟨x, hx, M.id.symm, hno x hx, M.ro.symm.trans hro, x3⟩
      · rintro ⟨y, hy, rfl, _, hro, y3⟩
        obtain ⟨n, hn, M⟩ := h.live hy y3
        exact ⟨n, hn, M.id, M.ro.trans hro⟩
    · show (bsOf g.live).length ≤ _
      have h1 : (bsOf g.live).length ≤ g.live.length := by
        unfold bsOf
        refine Nat.le_trans (List.length_filter_le _ _) ?_
        rw [(sortI_perm _).length_eq, List.length_map]; exact Nat.le_refl _
      have h2 := h.active
      have h3 := List.length_filter_le (fun y : RT => !decide (y.st = 3)) r.L
      unfold RG.active at h2
      omega
  refine ⟨⟨?_, ?_, ?_, ?_, ?_, h.ok.cn, ?_⟩, ?_, h.cm, ?_, ?_, ?_, ?_⟩
  · show ((r.L ++ [newR r tx ro]).map (·.id)).Nodup
    rw [List.map_append, List.nodup_append]
    refine ⟨h.ok.nd, by simp, fun a ha b hb => ?_⟩
    obtain ⟨x, hx, rfl⟩ := List.mem_map.1 ha
    simp only [List.map_cons, List.map_nil, List.mem_singleton] at hb
    subst hb; exact hno x hx
  · intro x hx; rcases List.mem_append.1 hx with hx | hx
    · exact h.ok.st x hx
    · rw [List.mem_singleton] at hx; subst hx; exact .inl rfl
  · intro x hx; rcases List.mem_append.1 hx with hx | hx
    · exact h.ok.rg x hx
    · rw [List.mem_singleton] at hx; subst hx; exact ⟨h.ok.cn, Int.le_refl _, fun e => absurd (hst.symm.trans e) (by decide)⟩
  · intro x hx y hy x3 y3
    rcases List.mem_append.1 hx with hx | hx
    · rcases List.mem_append.1 hy with hy | hy
      · exact h.ok.sd x hx y hy x3 y3
      · rw [List.mem_singleton] at hy; subst hy; exact absurd (hst.symm.trans y3) (by decide)
    · rw [List.mem_singleton] at hx; subst hx; exact absurd (hst.symm.trans x3) (by decide)
  · intro e he; obtain ⟨k1, k2, k3⟩ := h.ok.ed e he; exact ⟨k1, (hex _).2 (.inl k2), (hex _).2 (.inl k3)⟩
  · intro x hx y hy hb y3
    rcases List.mem_append.1 hy with hy | hy
    · rcases List.mem_append.1 hx with hx | hx
      · exact h.ok.bb x hx y hy hb y3
      · rw [List.mem_singleton] at hx; subst hx
        obtain ⟨z, hz, e, _, _, z3⟩ := besR_mem.1 (show y.id ∈ besR r.L tx from hb)
        rw [nodup_id h.ok.nd hz hy e] at z3; exact absurd y3 z3
    · rw [List.mem_singleton] at hy; subst hy; exact absurd (hst.symm.trans y3) (by decide)
  · show ((g.live ++ [newN g tx ro] ++ g.ended).map (·.id)).Nodup
    have := h.nd
    unfold Gr.nodes at this
    rw [List.map_append, List.nodup_append] at this
    rw [List.append_assoc, List.map_append, List.nodup_append]
    refine ⟨this.1, ?_, ?_⟩
    · show (tx :: g.ended.map (·.id)).Nodup
      rw [List.nodup_cons]
      refine ⟨fun e => ?_, this.2.1⟩
      obtain ⟨n, hn, e⟩ := List.mem_map.1 e
      exact hnol n (List.mem_append_right _ hn) e
    · intro a ha b hb
      rcases List.mem_cons.1 (show b ∈ tx :: g.ended.map (·.id) from hb) with rfl | hb
      · obtain ⟨n, hn, rfl⟩ := List.mem_map.1 ha
        exact hnol n (List.mem_append_left _ hn)
      · exact this.2.2 a ha b hb
  · intro n hn
    rcases List.mem_append.1 hn with hn | hn
    · obtain ⟨x, hx, x3, M⟩ := h.lv n hn; exact ⟨x, List.mem_append_left _ hx, x3, hmt x n M⟩
    · rw [List.mem_singleton] at hn; subst hn
      exact ⟨_, List.mem_append_right _ (List.mem_singleton.2 rfl), by rw [hst]; decide, hnew⟩
  · intro x hx x3
    rcases List.mem_append.1 hx with hx | hx
    · obtain ⟨n, hn, e⟩ := h.lv' x hx x3; exact ⟨n, List.mem_append_left _ hn, e⟩
    · rw [List.mem_singleton] at hx; subst hx
      exact ⟨newN g tx ro, List.mem_append_right _ (List.mem_singleton.2 rfl), rfl⟩
  · intro n hn; obtain ⟨x, hx, x3, M⟩ := h.en n hn; exact ⟨x, List.mem_append_left _ hx, x3, hmt x n M⟩
  · intro x hx x3
    rcases List.mem_append.1 hx with hx | hx
    · have hr := (h.ok.rg x hx).2.2 x3
      show (∃ n ∈ g.ended, n.id = x.id) ↔ _
      rw [h.en' x hx x3]
      show _ ↔ ∃ y ∈ r.L ++ [newR r tx ro], _
      rw [hex]
      refine ⟨.inl, fun e => e.resolve_right fun e2 => ?_⟩
      have : (newR r tx ro).bg = r.n := rfl
      omega
    · rw [List.mem_singleton] at hx; subst hx; exact absurd (hst.symm.trans x3) (by decide)
theorem Cp.begin {g : Gr} {r : RG} (h : Cp g r) (hn : r.n ≤ 1000000) (hlen : r.L.length ≤ 1000000) (tx : Int) (ro : Bool) (hb : ∀ x, findR r.L tx = some x → x.st = 1) : Cp (g.beginQ tx ro) (r.begin tx ro) := by
  unfold Gr.beginQ RG.begin
  cases hr : findR r.L tx with
  | none =>
    cases hf : findL g.nodes tx with
    | none => exact h.add hlen (findR_none hr)
    | some n => obtain ⟨_, _, x, _, _, _, hr2⟩ := h.found hf; rw [hr] at hr2; cases hr2
  | some x =>
    obtain ⟨hx, e⟩ := findR_some hr
    have hx1 := hb x hr
    cases hf : findL g.nodes tx with
    | none => have := (h.lost hf hx e).1; omega
    | some n =>
      obtain ⟨hn', hid, x', hx', hM, e', hr'⟩ := h.found hf
      rw [hr] at hr'
      injection hr' with hr'
      subst hr'
      have hs := hM.st
      dsimp only
      rw [hM.ro]
      by_cases hc : x.ro = false ∨ ro = false
      · rw [if_pos (.inr hc), if_pos (.inr hc)]; exact h
      · rw [if_neg (show ¬ (n.state ≠ 0 ∨ x.ro = false ∨ ro = false) from fun e => e.elim (fun e => e (by omega)) hc), if_neg (show ¬ (x.st ≠ 1 ∨ x.ro = false ∨ ro = false) from fun e => e.elim (fun e => e hx1) hc)]
        have ha := h.abort hn tx
        have hra : r.abort tx = { r with L := r.L.filter fun y => !decide (y.id = tx), E := withoutE r.E tx } := by
          unfold RG.abort; rw [hr]; dsimp only; rw [if_neg (by omega)]
        have hadd := ha.add (by rw [hra]; exact Nat.le_trans (List.length_filter_le _ _) hlen) (tx := tx) (ro := ro) (by rw [hra]; intro y hy; have := (List.mem_filter.1 hy).2; simpa using this)
        have hnr : newR (r.abort tx) tx ro = newR r tx ro := by
          rw [hra]
          unfold newR besR
          dsimp only
          rw [List.filter_filter]
          congr 2
          apply List.filter_congr
          intro y _
          cases decide (y.id = tx) <;> simp
        rw [hnr, hra] at hadd
        dsimp only at hadd
        refine hadd.perm (L' := r.L.map fun y => if y.id = tx then newR r tx ro else y) (fun z => ?_) ?_
        · show z ∈ _ ↔ z ∈ (r.L.filter fun y => !decide (y.id = tx)) ++ [newR r tx ro]
          rw [List.mem_append, List.mem_singleton, List.mem_map, List.mem_filter]
          constructor
          · rintro ⟨y, hy, rfl⟩
            by_cases hyt : y.id = tx
            · rw [if_pos hyt]; exact .inr rfl
            · rw [if_neg hyt]; exact .inl ⟨hy, by simpa using hyt⟩
          · rintro (⟨h1, h2⟩ | rfl)
            · have h2 : z.id ≠ tx := by simpa using h2
              exact ⟨z, h1, if_neg h2⟩
            · exact ⟨x, hx, if_pos e⟩
        · rw [List.map_map, show ((fun x : RT => x.id) ∘ fun y : RT => if y.id = tx then newR r tx ro else y) = fun x => x.id from funext fun y => by
            simp only [Function.comp]
            by_cases hyt : y.id = tx
            · rw [if_pos hyt]; exact hyt.symm
            · rw [if_neg hyt]]
          exact h.ok.nd
/-! ### reads -/
def Gr.liveQ (g : Gr) (tx : Int) : Bool := match findL g.nodes tx with
  | none => false
  | some n => if n.state ≠ 2 then true else g.live.any fun x => !x.ro && decide (x.begin_ < n.seq)
theorem Cp.isLive {g : Gr} {r : RG} (h : Cp g r) (tx : Int) : g.liveQ tx = r.isLive tx := by
  unfold Gr.liveQ RG.isLive
  have key : ∀ s : Int, (g.live.any fun x => !x.ro && decide (x.begin_ < s)) = r.L.any fun y => !y.ro && !decide (y.st = 3) && decide (y.bg < s) := fun s => by
    rw [Bool.eq_iff_iff, List.any_eq_true, List.any_eq_true]
    constructor
    · rintro ⟨n, hn, hp⟩
      obtain ⟨x, hx, x3, M⟩ := h.lv n hn
      rw [M.ro, M.bg] at hp
      refine ⟨x, hx, ?_⟩
      rw [decide_eq_false x3]
      simpa using hp
    · rintro ⟨x, hx, hp⟩
      simp only [Bool.and_eq_true, Bool.not_eq_true', decide_eq_false_iff_not, decide_eq_true_eq] at hp
      obtain ⟨n, hn, M⟩ := h.live hx hp.1.2
      exact ⟨n, hn, by rw [M.ro, M.bg]; simp [hp.1.1, hp.2]⟩
  cases hf : findL g.nodes tx with
  | none =>
    cases hr : findR r.L tx with
    | none => rfl
    | some x =>
      obtain ⟨hx, e⟩ := findR_some hr
      obtain ⟨x3, hall⟩ := h.lost hf hx e
      dsimp only
      rw [if_neg (fun e => e x3)]
      symm
      rw [List.any_eq_false]
      intro y hy
      simp only [Bool.and_eq_true, Bool.not_eq_true', decide_eq_false_iff_not, decide_eq_true_eq, not_and]
      intro h1 h2
      have := hall y hy h1.2
      omega
  | some n =>
    obtain ⟨_, _, x, hx, hM, _, hr⟩ := h.found hf
    have hs := hM.st
    rw [hr]
    dsimp only
    by_cases x3 : x.st = 3
    · rw [if_neg (show ¬ n.state ≠ 2 by omega), if_neg (fun e => e x3), hM.sq x3, key]
    · rw [if_pos (show n.state ≠ 2 by omega), if_pos x3]
def badG (g : Gr) (n : Nd) (k : Int) : Bool := match findL g.ended k with | none => false | some x => decide (x.least ≤ n.begin_)
def outG (g : Gr) (k : Int) : Bool := (findL g.live k).isNone
def Gr.safeQ (g : Gr) (tx : Int) : Bool × Bool := match findL g.nodes tx with
  | none => (false, false)
  | some n => if n.ro = false ∨ n.state = 2 then (false, false) else if n.beside.any (badG g n) then (true, false) else (n.beside.all (outG g), n.beside.all (outG g))
theorem Cp.safe {g : Gr} {r : RG} (h : Cp g r) (hn : r.n ≤ 1000000) (tx : Int) : g.safeQ tx = r.safe tx := by
  have hnd := h.nd
  unfold Gr.nodes at hnd
  rw [List.map_append, List.nodup_append] at hnd
  unfold Gr.safeQ RG.safe
  cases hf : findL g.nodes tx with
  | none =>
    cases hr : findR r.L tx with
    | none => rfl
    | some x =>
      obtain ⟨hx, e⟩ := findR_some hr
      have := (h.lost hf hx e).1
      dsimp only
      rw [if_pos (.inr this)]
  | some n =>
    obtain ⟨_, _, x, hx, hM, _, hr⟩ := h.found hf
    have hs := hM.st
    have hxr := h.ok.rg x hx
    rw [hr]
    dsimp only
    rw [hM.ro]
    by_cases hc : x.ro = false ∨ x.st = 3
    · rw [if_pos (show x.ro = false ∨ n.state = 2 from hc.imp id fun e => by omega), if_pos hc]
    · have x3 : x.st ≠ 3 := fun e => hc (.inr e)
      rw [if_neg (show ¬ (x.ro = false ∨ n.state = 2) from fun e => hc (e.imp id fun e => by omega)), if_neg hc]
      have h1 : n.beside.any (badG g n) = r.L.any (badR r x) := by
        rw [Bool.eq_iff_iff, List.any_eq_true, List.any_eq_true]
        constructor
        · rintro ⟨k, hk, hb⟩
          unfold badG at hb
          cases he : findL g.ended k with
          | none => rw [he] at hb; cases hb
          | some m =>
            rw [he] at hb
            obtain ⟨hm, rfl⟩ := findL_some he
            obtain ⟨y, hy, y3, My⟩ := h.en m hm
            have hb : m.least ≤ n.begin_ := by simpa using hb
            rw [hM.bg] at hb
            obtain ⟨b, hbL, b3, be, bs, _⟩ := (My.least (x.bg + 1) (by unfold none_; omega)).1 (by omega)
            refine ⟨y, hy, ?_⟩
            unfold badR
            rw [Bool.and_eq_true, Bool.and_eq_true, List.any_eq_true]
            refine ⟨⟨?_, by simp [y3]⟩, (y.id, b.id), be, ?_⟩
            · have := (hM.bs m.id).1 hk
              rw [My.id] at this
              simpa using this
            · dsimp only
              rw [findR_mem h.ok.nd hbL]
              simp only [decide_true, Bool.true_and, decide_eq_true_eq]
              exact ⟨b3, by omega⟩
        · rintro ⟨y, hy, hb⟩
          unfold badR at hb
          rw [Bool.and_eq_true, Bool.and_eq_true, List.any_eq_true] at hb
          obtain ⟨⟨k1, k2⟩, e, he, k3⟩ := hb
          have hyb : y.id ∈ x.bs := by simpa using k1
          have y3 : y.st = 3 := by simpa using k2
          rw [Bool.and_eq_true, decide_eq_true_eq] at k3
          have hbb := h.ok.bb x hx y hy hyb y3
          obtain ⟨m, hm, em⟩ := (h.en' y hy y3).2 ⟨x, hx, x3, hbb⟩
          obtain ⟨y', hy', _, My⟩ := h.en m hm
          have e1 := nodup_id h.ok.nd hy' hy (My.id.symm.trans em)
          subst e1
          refine ⟨y'.id, (hM.bs _).2 hyb, ?_⟩
          unfold badG
          rw [← em, findL_mem hnd.2.1 hm]
          dsimp only
          cases hb2 : findR r.L e.2 with
          | none => rw [hb2] at k3; cases k3.2
          | some b =>
            rw [hb2] at k3
            obtain ⟨hbL, hbid⟩ := findR_some hb2
            have k4 : b.st = 3 ∧ b.sq ≤ x.bg := by simpa using k3.2
            rw [decide_eq_true_eq, hM.bg]
            have := (My.least (x.bg + 1) (by unfold none_; omega)).2 ⟨b, hbL, k4.1, by rw [← k3.1, hbid]; exact he, by omega, fun _ => by omega⟩
            omega
      have h2 : n.beside.all (outG g) = endR r x := by
        unfold endR
        rw [Bool.eq_iff_iff, List.all_eq_true, List.all_eq_true]
        constructor
        · intro hall y hy
          by_cases hyb : y.id ∈ x.bs
          · have := hall y.id ((hM.bs _).2 hyb)
            unfold outG at this
            have y3 : y.st = 3 := Classical.byContradiction fun y3 => by
              obtain ⟨m, hm, My⟩ := h.live hy y3
              rw [← My.id, findL_mem hnd.1 hm] at this
              cases this
            simp [y3]
          · simp [hyb]
        · intro hall k hk
          unfold outG
          cases hl : findL g.live k with
          | none => rfl
          | some m =>
            obtain ⟨hm, rfl⟩ := findL_some hl
            obtain ⟨y, hy, y3, My⟩ := h.lv m hm
            have := hall y hy
            have hyb : y.id ∈ x.bs := by rw [← My.id]; exact (hM.bs _).1 hk
            simp [hyb, y3] at this
      rw [h1, h2]
def Gr.countQ (g : Gr) : Int := (g.live.length : Int) + max 0 (min g.most (g.ended.length : Int))
theorem Cp.new (most : Int) : Cp (Gr.new most) ⟨[], [], 0⟩ :=
  ⟨⟨List.nodup_nil, fun _ h => (by cases h), fun _ h => (by cases h), fun _ h => (by cases h), fun _ h => (by cases h), Int.le_refl _, fun _ h => (by cases h)⟩, List.nodup_nil, rfl, fun _ h => (by cases h), fun _ h => (by cases h), fun _ h => (by cases h), fun _ h => (by cases h)⟩
end Go.Proofs.Ytomgkmoecbnddaa
