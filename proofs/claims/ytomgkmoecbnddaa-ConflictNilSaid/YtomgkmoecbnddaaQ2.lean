/- Conflict: what the graph's functions compute, in plain words over numbers; the invariant that joins the graph and its blocks. -/
import Derived.Test.YtomgkmoecbnddaaQ1
set_option linter.unusedVariables false
set_option linter.unusedSimpArgs false
set_option linter.unnecessarySimpa false
namespace Go.Proofs.Ytomgkmoecbnddaa
open Go.Sym

abbrev St3 := Option Int × Int × Option Int
def Gr.nodes (g : Gr) : List Nd := g.live ++ g.ended
def stt (l : List Nd) (k : Int) : Int := match findL l k with | some n => n.state | none => 0
/-- what 'into' gives -/
def intoK (l : List Nd) (a p : Nd) (k : Int) : Option St3 := if stt l k = 1 ∧ p.state ≠ 2 ∧ a.ro = false ∧ a.state ≠ 2 then some (some a.id, p.id, some k) else none
def into0 (a p : Nd) : List St3 := if p.least < a.far ∧ (p.state ≠ 2 ∨ p.least < p.seq) then [(some a.id, p.id, none)] else []
def intoL (l : List Nd) (a p : Nd) : List St3 := if a.gone = true ∨ p.gone = true then [] else into0 a p ++ (sortI p.outs).filterMap (intoK l a p)
/-- what 'from' gives -/
def firstB (p b : Nd) (asked : Bool) : Prop := (b.state = 2 ∧ (p.state ≠ 2 ∨ p.seq > b.seq)) ∨ ((asked = true ∨ b.state = 1) ∧ b.state ≠ 2 ∧ p.state ≠ 2)
instance (p b : Nd) (asked : Bool) : Decidable (firstB p b asked) := by unfold firstB; infer_instance
def fromK (l : List Nd) (p b : Nd) (k : Int) : Option St3 := match findL l k with | none => none | some a => if a.gone = true ∨ (a.ro = true ∧ ¬ (b.state = 2 ∧ b.seq < a.far)) then none else some (some k, p.id, some b.id)
def from0 (p b : Nd) : List St3 := if b.state = 2 ∧ p.reach > b.seq then [(none, p.id, some b.id)] else []
def fromL (l : List Nd) (p b : Nd) (asked : Bool) : List St3 := if ¬ firstB p b asked ∨ p.gone = true ∨ b.gone = true then [] else from0 p b ++ (sortI p.ins).filterMap (fromK l p b)
/-- the victim -/
def victL (l : List Nd) : St3 → Option Int
  | (a, p, b) => if stt l p = 0 then some p else
    match a with
    | some x => if stt l x = 0 ∧ b ≠ some x then some x else match b with
      | some y => if stt l y = 0 then some y else none
      | none => none
    | none => match b with
      | some y => if stt l y = 0 then some y else none
      | none => none
def setDm (n : Nd) : Nd := { n with dm := true }
def Gr.doomAll (g : Gr) (S : List St3) : Gr := g.upd (fun x => (S.filterMap (victL g.nodes)).contains x) setDm
def Gr.linkQ (g : Gr) (r w : Nd) : Gr :=
  if w.state = 2 then g.upd (at1 r.id) fun n => { n with least := min n.least w.seq }
  else if r.state = 2 then g.upd (at1 w.id) fun n => { n with reach := max n.reach r.far }
  else (g.upd (at1 r.id) fun n => { n with outs := addI n.outs w.id }).upd (at1 w.id) fun n => { n with ins := addI n.ins r.id }
def Gr.isDoomed (g : Gr) (tx : Int) : Bool := match findL g.nodes tx with | none => false | some n => n.gone
def noEdge (r w : Nd) : Prop := r.id = w.id ∨ (r.state = 2 ∧ w.state = 2) ∨ (r.state = 2 ∧ r.seq ≤ w.begin_) ∨ (w.state = 2 ∧ w.seq ≤ r.begin_)
instance (r w : Nd) : Decidable (noEdge r w) := by unfold noEdge; infer_instance
def Gr.edgeG (g : Gr) (reader writer : Int) : Gr :=
  match findL g.nodes reader, findL g.nodes writer with
  | some r, some w => if noEdge r w then g else
    let g1 := g.linkQ r w
    match findL g1.nodes reader, findL g1.nodes writer with
    | some r1, some w1 => g1.doomAll (intoL g1.nodes r1 w1 ++ fromL g1.nodes r1 w1 false)
    | _, _ => g1
  | _, _ => g
def chkL (l : List Nd) (n : Nd) : List Int := (sortI n.ins).flatMap fun k => match findL l k with | none => [] | some p => (fromL l p n true).filterMap (victL l)
def Gr.checkG (g : Gr) (tx : Int) : Int × Gr :=
  match findL g.nodes tx with
  | none => (41, g)
  | some n =>
    if n.state ≠ 0 then (41, g) else
    if n.dm = true then (43, g) else
    if tx ∈ chkL g.nodes n then (43, g.upd (at1 tx) setDm)
    else (0, (g.upd (fun x => (chkL g.nodes n).contains x) setDm).upd (at1 tx) fun n => { n with state := 1 })
def leastB (g : Gr) : Int := g.live.foldl (fun o n => if n.begin_ < o then n.begin_ else o) none_
def Gr.forgetG (g : Gr) : Gr := { g with ended := g.ended.filter fun n => !decide (n.seq ≤ leastB g) }
def Gr.cut (g : Gr) (n : Nd) (f h : Nd → Nd) : Gr := (g.upd (fun x => n.ins.contains x) f).upd (fun x => n.outs.contains x) h
def Gr.abortG (g : Gr) (tx : Int) : Gr :=
  match findL g.nodes tx with
  | none => g
  | some n => if n.state = 2 then g else
    let g1 := g.cut n (fun r => { r with outs := rmI r.outs tx }) (fun w => { w with ins := rmI w.ins tx })
    Gr.forgetG { g1 with live := g1.live.filter fun x => !decide (x.id = tx) }
def Gr.commitG (g : Gr) (tx : Int) : Gr :=
  match findL g.nodes tx with
  | none => g
  | some n => if n.state = 2 then g else
    let c := g.commits + 1
    let n' : Nd := { n with state := 2, seq := c, ins := [], outs := [] }
    let g1 : Gr := { g with commits := c, live := g.live.filter fun x => !decide (x.id = tx), ended := g.ended ++ [n'] }
    (g1.cut n (fun r => { r with outs := rmI r.outs tx, least := min r.least c }) (fun w => { w with ins := rmI w.ins tx, reach := max w.reach n'.far })).forgetG
def Gr.beginG (g : Gr) (tx : Int) (ro : Bool) : Gr :=
  let add (g : Gr) : Gr := { g with live := g.live ++ [⟨tx, g.commits, 0, 0, ro, false, [], [], 0, none_, (sortI (g.live.map (·.id))).filter fun k => (findL g.live k).any fun n => !n.ro⟩] }
  match findL g.nodes tx with
  | none => add g
  | some n => if n.state ≠ 0 ∨ n.ro = false ∨ ro = false then g else add (g.abortG tx)
def Gr.prepareG (g : Gr) (tx : Int) : Gr :=
  match findL g.nodes tx with
  | none => g
  | some n => if n.state = 0 then g.upd (at1 tx) fun n => { n with state := 1 } else g

/-! ### lookups -/
theorem findL_some {l : List Nd} {k : Int} {n : Nd} (h : findL l k = some n) : n ∈ l ∧ n.id = k := by
  unfold findL at h
  exact ⟨List.mem_of_find?_eq_some h, by have := List.find?_some h; simpa using this⟩
theorem findL_none {l : List Nd} {k : Int} (h : findL l k = none) : ∀ n ∈ l, n.id ≠ k := by
  unfold findL at h
  intro n hn
  simpa using List.find?_eq_none.1 h n hn
theorem findL_mem {l : List Nd} (hn : (l.map (·.id)).Nodup) {n : Nd} (h : n ∈ l) : findL l n.id = some n := by
  cases hf : findL l n.id with
  | none => exact absurd rfl (findL_none hf n h)
  | some m =>
    obtain ⟨h1, h2⟩ := findL_some hf
    obtain ⟨s, t, rfl⟩ := List.append_of_mem h
    rw [List.map_append, List.map_cons, List.nodup_append, List.nodup_cons] at hn
    rcases List.mem_append.1 h1 with h3 | h3
    · exact absurd h2 (hn.2.2 _ (List.mem_map.2 ⟨m, h3, rfl⟩) _ (List.mem_cons_self ..))
    · rcases List.mem_cons.1 h3 with h3 | h3
      · rw [h3]
      · exact absurd (List.mem_map.2 ⟨m, h3, h2⟩) hn.2.1.1
theorem findL_upd {l : List Nd} {p : Int → Bool} {f : Nd → Nd} (hf : ∀ n, (f n).id = n.id) (k : Int) : findL (updL l p f) k = (findL l k).map fun n => if p k then f n else n := by
  unfold findL updL
  induction l with
  | nil => rfl
  | cons a l ih =>
    simp only [List.map_cons, List.find?_cons]
    have h1 : (if p a.id then f a else a).id = a.id := by split; exact hf a; rfl
    by_cases h : a.id = k
    · subst h; simp only [h1, decide_true, Option.map_some]
    · simp only [h1, h, decide_false]
      exact ih
theorem findL_app (l m : List Nd) (k : Int) : findL (l ++ m) k = (findL l k).or (findL m k) := by
  unfold findL; rw [List.find?_append]
theorem upd_nodes (g : Gr) (p : Int → Bool) (f : Nd → Nd) : (g.upd p f).nodes = updL g.nodes p f := by
  unfold Gr.nodes Gr.upd; rw [updL_app]
theorem updL_mem {l : List Nd} {p : Int → Bool} {f : Nd → Nd} {m : Nd} (h : m ∈ updL l p f) : ∃ n ∈ l, m = if p n.id then f n else n := by
  obtain ⟨n, h1, h2⟩ := List.mem_map.1 h
  exact ⟨n, h1, h2.symm⟩
theorem updL_two (l : List Nd) (p q : Int → Bool) (f : Nd → Nd) (hf : ∀ n, (f n).id = n.id) (hi : ∀ n, f (f n) = f n) : updL (updL l p f) q f = updL l (fun x => p x || q x) f := by
  unfold updL
  rw [List.map_map]
  apply List.map_congr_left
  intro n _
  simp only [Function.comp]
  by_cases h1 : p n.id = true
  · simp only [h1, if_true, hf, Bool.true_or]
    split
    · exact hi n
    · rfl
  · have h1 : p n.id = false := by simpa using h1
    simp only [h1, Bool.false_eq_true, if_false, Bool.false_or]
theorem stt_upd {l : List Nd} {p : Int → Bool} {f : Nd → Nd} (hf : ∀ n, (f n).id = n.id) (hs : ∀ n, (f n).state = n.state) (k : Int) : stt (updL l p f) k = stt l k := by
  unfold stt
  rw [findL_upd hf]
  cases findL l k with
  | none => rfl
  | some n =>
    simp only [Option.map_some]
    split
    · exact hs n
    · rfl

/-! ### the graph and its blocks -/
structure Mem where
  p : Nat
  lm : Nat
  em : Nat
  esl : Array MapEntry
  cl : Nat
  ese : Array MapEntry
  ce : Nat
  ρ : Int → Raw
def mlist (ρ : Int → Raw) (l : List Nd) : List (Int × Value) := l.map fun n => (n.id, ptrB (ρ n.id).b)
def klist (ρ : Int → Raw) (l : List Int) : List (Int × Value) := l.map fun k => (k, ptrB (ρ k).b)
def hblk (g : Gr) (M : Mem) : List Blk := gBlk M.p M.lm M.em g.most g.commits M.esl M.ese M.cl M.ce
def blks (g : Gr) (M : Mem) : List Blk := hblk g M ++ (NC M.ρ g.nodes ++ NM M.ρ g.nodes)
/-- a list of numbers as a slice -/
def SlI (zs : List Int) (v : Value) (B : List Blk) : Prop :=
  (zs = [] ∧ v = .slice none 0 0 ∧ B = []) ∨ ∃ (b cap : Nat) (junk : List Value), zs ≠ [] ∧ v = .slice (some ⟨b, 0, none⟩) zs.length cap ∧ (zs.map (Value.int .i64) ++ junk).length = cap ∧ B = [(b, .cells (zs.map (Value.int .i64) ++ junk).toArray 3)]
structure InvN (K : Nat) (g : Gr) (ρ : Int → Raw) : Prop where
  nd : (g.nodes.map (·.id)).Nodup
  lv : ∀ n ∈ g.live, n.state ≠ 2
  en : ∀ n ∈ g.ended, n.state = 2
  mi : ∀ n ∈ g.live, MapOf (Value.int .i64) (klist ρ n.ins) (ρ n.id).ei (ρ n.id).ci
  mo : ∀ n ∈ g.live, MapOf (Value.int .i64) (klist ρ n.outs) (ρ n.id).eo (ρ n.id).co
  ci : ∀ n ∈ g.live, ∀ k ∈ n.ins, k ≠ n.id ∧ ∃ m ∈ g.live, m.id = k
  co : ∀ n ∈ g.live, ∀ k ∈ n.outs, k ≠ n.id ∧ ∃ m ∈ g.live, m.id = k
  em : ∀ n ∈ g.ended, n.ins = [] ∧ n.outs = []
  bs : ∀ n ∈ g.nodes, SlI n.beside (ρ n.id).sv (ρ n.id).sb
  rg : ∀ n ∈ g.nodes, 0 ≤ n.begin_ ∧ n.begin_ ≤ K ∧ 0 ≤ n.seq ∧ n.seq ≤ K
  sz : g.live.length ≤ K ∧ 0 ≤ g.commits ∧ g.commits ≤ K ∧ K ≤ 4000
structure Inv (K : Nat) (g : Gr) (M : Mem) : Prop where
  n : InvN K g M.ρ
  ml : MapOf (Value.int .i64) (mlist M.ρ g.live) M.esl M.cl
  me : MapOf (Value.int .i64) (mlist M.ρ g.ended) M.ese M.ce
theorem lookV_mlist {ρ : Int → Raw} (l : List Nd) (k : Int) : lookV (mlist ρ l) k = (findL l k).map fun n => ptrB (ρ n.id).b := by
  unfold mlist findL
  induction l with
  | nil => rfl
  | cons a l ih =>
    rw [List.map_cons, lookV_cons, List.find?_cons]
    by_cases h : a.id = k
    · simp [h]
    · simp only [h, if_false, decide_false]
      exact ih
theorem lookV_klist {ρ : Int → Raw} (l : List Int) (k : Int) : lookV (klist ρ l) k = if k ∈ l then some (ptrB (ρ k).b) else none := by
  unfold klist
  induction l with
  | nil => rfl
  | cons a l ih =>
    rw [List.map_cons, lookV_cons]
    by_cases h : a = k
    · subst h; simp
    · simp only [h, if_false, List.mem_cons, Ne.symm h, false_or]
      exact ih
theorem klist_keys (ρ : Int → Raw) (l : List Int) : (klist ρ l).map (·.1) = l := by unfold klist; rw [List.map_map]; exact List.map_id l
theorem mlist_keys (ρ : Int → Raw) (l : List Nd) : (mlist ρ l).map (·.1) = l.map (·.id) := by unfold mlist; rw [List.map_map]; rfl
theorem InvN.keep {K : Nat} {g : Gr} {ρ : Int → Raw} (h : InvN K g ρ) {f : Nd → Nd} {p : Int → Bool} (hf : ∀ n, ∃ a b d e, f n = { n with dm := a, reach := b, least := d, state := e } ∧ (e = 2 ↔ n.state = 2)) : InvN K (g.upd p f) ρ := by
  have hid : ∀ n, (f n).id = n.id := fun n => by obtain ⟨a, b, d, e, h, _⟩ := hf n; rw [h]
  have key : ∀ {l : List Nd} {m : Nd}, m ∈ updL l p f → ∃ n ∈ l, ∃ a b d e, m = { n with dm := a, reach := b, least := d, state := e } ∧ (e = 2 ↔ n.state = 2) := fun {l m} hm => by
    obtain ⟨n, h1, h2⟩ := updL_mem hm
    refine ⟨n, h1, ?_⟩
    split at h2
    · obtain ⟨a, b, d, e, h3, h4⟩ := hf n; exact ⟨a, b, d, e, h2.trans h3, h4⟩
    · exact ⟨n.dm, n.reach, n.least, n.state, h2, Iff.rfl⟩
  have hlive : ∀ k, (∃ m ∈ g.live, m.id = k) → ∃ m ∈ (g.upd p f).live, m.id = k := fun k ⟨m, h1, h2⟩ => by
    have : k ∈ (updL g.live p f).map (·.id) := by rw [updL_ids hid]; exact List.mem_map.2 ⟨m, h1, h2⟩
    obtain ⟨m', h3, h4⟩ := List.mem_map.1 this
    exact ⟨m', h3, h4⟩
  refine ⟨?_, ?_, ?_, ?_, ?_, ?_, ?_, ?_, ?_, ?_, ?_⟩
  · rw [upd_nodes, updL_ids hid]; exact h.nd
  · intro m hm; obtain ⟨n, h1, a, b, d, e, rfl, h3⟩ := key hm; exact fun h4 => h.lv n h1 (h3.1 h4)
  · intro m hm; obtain ⟨n, h1, a, b, d, e, rfl, h3⟩ := key hm; exact h3.2 (h.en n h1)
  · intro m hm; obtain ⟨n, h1, a, b, d, e, rfl, h3⟩ := key hm; exact h.mi n h1
  · intro m hm; obtain ⟨n, h1, a, b, d, e, rfl, h3⟩ := key hm; exact h.mo n h1
  · intro m hm; obtain ⟨n, h1, a, b, d, e, rfl, h3⟩ := key hm; exact fun k hk => ⟨(h.ci n h1 k hk).1, hlive k (h.ci n h1 k hk).2⟩
  · intro m hm; obtain ⟨n, h1, a, b, d, e, rfl, h3⟩ := key hm; exact fun k hk => ⟨(h.co n h1 k hk).1, hlive k (h.co n h1 k hk).2⟩
  · intro m hm; obtain ⟨n, h1, a, b, d, e, rfl, h3⟩ := key hm; exact h.em n h1
  · intro m hm; rw [upd_nodes] at hm; obtain ⟨n, h1, a, b, d, e, rfl, h3⟩ := key hm; exact h.bs n h1
  · intro m hm; rw [upd_nodes] at hm; obtain ⟨n, h1, a, b, d, e, rfl, h3⟩ := key hm; exact h.rg n h1
  · refine ⟨?_, h.sz.2⟩
    show (updL g.live p f).length ≤ K
    unfold updL; rw [List.length_map]; exact h.sz.1
theorem mlist_upd {ρ : Int → Raw} {l : List Nd} {p : Int → Bool} {f : Nd → Nd} (hf : ∀ n, (f n).id = n.id) : mlist ρ (updL l p f) = mlist ρ l := by
  unfold mlist updL
  rw [List.map_map]
  apply List.map_congr_left
  intro n _
  have : (if p n.id = true then f n else n).id = n.id := by split; exact hf n; rfl
  simp only [Function.comp, this]
theorem Inv.keep {K : Nat} {g : Gr} {M : Mem} (h : Inv K g M) {f : Nd → Nd} {p : Int → Bool} (hf : ∀ n, ∃ a b d e, f n = { n with dm := a, reach := b, least := d, state := e } ∧ (e = 2 ↔ n.state = 2)) : Inv K (g.upd p f) M := by
  have hid : ∀ n, (f n).id = n.id := fun n => by obtain ⟨a, b, d, e, h, _⟩ := hf n; rw [h]
  exact ⟨h.n.keep hf, by show MapOf _ (mlist M.ρ (updL g.live p f)) _ _; rw [mlist_upd hid]; exact h.ml, by show MapOf _ (mlist M.ρ (updL g.ended p f)) _ _; rw [mlist_upd hid]; exact h.me⟩
/-- numbers in order are what 'keys' gives -/
theorem insI_perm (x : Int) (l : List Int) : (insI x l).Perm (x :: l) := by
  induction l with
  | nil => exact .refl _
  | cons y l ih =>
    unfold insI
    split
    · exact .refl _
    · exact (ih.cons y).trans (.swap x y l)
theorem sortI_perm (l : List Int) : (sortI l).Perm l := by
  induction l with
  | nil => exact .refl _
  | cons x l ih => exact (insI_perm x _).trans (ih.cons x)
theorem insI_sorted (x : Int) {l : List Int} (h : l.Pairwise (· ≤ ·)) : (insI x l).Pairwise (· ≤ ·) := by
  induction l with
  | nil => exact List.pairwise_singleton ..
  | cons y l ih =>
    unfold insI
    split
    · rename_i hxy
      refine List.pairwise_cons.2 ⟨fun z hz => ?_, h⟩
      rcases List.mem_cons.1 hz with rfl | hz
      · exact hxy
      · have := (List.pairwise_cons.1 h).1 z hz; omega
    · rename_i hxy
      refine List.pairwise_cons.2 ⟨fun z hz => ?_, ih (List.pairwise_cons.1 h).2⟩
      rcases List.mem_cons.1 ((insI_perm x l).mem_iff.1 hz) with rfl | hz
      · omega
      · exact (List.pairwise_cons.1 h).1 z hz
theorem sortI_sorted (l : List Int) : (sortI l).Pairwise (· ≤ ·) := by
  induction l with
  | nil => exact .nil
  | cons x l ih => exact insI_sorted x ih
theorem sorted_eqI {a b : List Int} (h : a.Perm b) (ha : a.Pairwise (· ≤ ·)) (hb : b.Pairwise (· ≤ ·)) : a = b := List.Perm.eq_of_pairwise (fun a b _ _ h1 h2 => Int.le_antisymm h1 h2) ha hb h
theorem sortI_of {zs l : List Int} (h : zs.Perm l) (hs : zs.Pairwise (· ≤ ·)) : zs = sortI l := sorted_eqI (h.trans (sortI_perm l).symm) hs (sortI_sorted l)
end Go.Proofs.Ytomgkmoecbnddaa
