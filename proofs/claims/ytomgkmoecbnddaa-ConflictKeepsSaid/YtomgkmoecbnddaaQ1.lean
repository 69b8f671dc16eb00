/- Conflict: the blocks of a graph's nodes as one list; what turns when a node turns. -/
import Derived.Test.YtomgkmoecbnddaaP5
set_option linter.unusedVariables false
set_option linter.unusedSimpArgs false
set_option linter.unnecessarySimpa false
namespace Go.Sym
open Go
theorem Turn.left {L L' : List Blk} {b : Nat} {o o' : Obj} (h : Turn L b o o' L') (R : List Blk) : Turn (L ++ R) b o o' (L' ++ R) := by
  induction h with
  | here => exact .here
  | there _ ih => exact .there ih
theorem tri_nd {P : Program} {f : FuncId} {args : Array Value} {pre : List Blk} {post : Value → List Blk → Prop} (h : (pre.map (·.1)).Nodup → Tri P f args pre post) : Tri P f args pre post := .mk fun E R w H =>
  (h (by have := H.nodup; rw [List.map_append, List.nodup_append] at this; exact this.1)).out E R w H
theorem tri_nd' {P : Program} {f : FuncId} {args : Array Value} {pre : List Blk} {post : Value → List Blk → Prop} (h : Tri P f args pre post) : Tri P f args pre fun v L => post v L ∧ (L.map (·.1)).Nodup := .mk fun E R w H =>
  (h.out E R w H).mono fun _ _ ⟨v, L, he, hq, H'⟩ => ⟨v, L, he, ⟨hq, by have := H'.nodup; rw [List.map_append, List.nodup_append] at this; exact this.1⟩, H'⟩
theorem sc_nodup {P : Program} {E : Env} {n : Nat} {c : Code} {Q : SPost} {f : Nat → Value} {L : List Blk} (h : (L.map (·.1)).Nodup → SC P E n c Q f L) : SC P E n c Q f L := .mk fun a w hr hh => (h hh.nodup).out a w hr hh
/-- blocks seen from another side -/
theorem tri_perm {P : Program} {f : FuncId} {args : Array Value} {pre pre' : List Blk} {post : Value → List Blk → Prop} (hp : pre.Perm pre') (h : Tri P f args pre' post) : Tri P f args pre post := .mk fun E R w H =>
  h.out E R w (H.perm (hp.append_right R))
theorem tri_perm' {P : Program} {f : FuncId} {args : Array Value} {pre : List Blk} {post : Value → List Blk → Prop} (h : Tri P f args pre fun v L => ∃ L', L.Perm L' ∧ post v L') : Tri P f args pre post := .mk fun E R w H =>
  (h.out E R w H).mono fun _ _ ⟨v, _, he, ⟨L', hp, hq⟩, H'⟩ => ⟨v, L', he, hq, H'.perm (hp.append_right R)⟩
/-- a quiet contract over fewer blocks -/
theorem triq_sub {P : Program} {f : FuncId} {args : Array Value} {pre pre' A : List Blk} {v : Value} (hp : pre'.Perm (pre ++ A)) (h : TriQ P f args pre v) : TriQ P f args pre' v := .mk fun E R w H => by
  have H1 : HP E w (pre ++ (A ++ R)) := by have := H.perm (hp.append_right R); rwa [List.append_assoc] at this
  refine (h.out E (A ++ R) w H1).mono fun _ _ ⟨u, L, he, ⟨h1, h2⟩, H'⟩ => ⟨u, pre', he, ⟨h1, rfl⟩, ?_⟩
  subst h2
  rw [← List.append_assoc] at H'
  exact H'.perm (hp.symm.append_right R)
end Go.Sym
namespace Go.Proofs.Ytomgkmoecbnddaa
open Go.Sym

/-- where a node lies: its cells, its two maps, its slice -/
structure Raw where
  b : Nat
  mi : Nat
  mo : Nat
  ei : Array MapEntry
  ci : Nat
  eo : Array MapEntry
  co : Nat
  sv : Value
  sb : List Blk
def ptrB (b : Nat) : Value := .pointer (some ⟨b, 0, none⟩)
def mvN (n : Nd) (m : Nat) : Value := if n.state = 2 then .map none else .map (some m)
def ncell (r : Raw) (n : Nd) : List Value := n.cells (mvN n r.mi) (mvN n r.mo) r.sv
def nmaps (r : Raw) (n : Nd) : List Blk := (if n.state = 2 then [] else [(r.mi, .map r.ei r.ci), (r.mo, .map r.eo r.co)]) ++ r.sb
def cblk (ρ : Int → Raw) (n : Nd) : Blk := ((ρ n.id).b, .cells (ncell (ρ n.id) n).toArray 72)
/-- the cells of the nodes, and all else -/
def NC (ρ : Int → Raw) (l : List Nd) : List Blk := l.map (cblk ρ)
def NM (ρ : Int → Raw) (l : List Nd) : List Blk := l.flatMap fun n => nmaps (ρ n.id) n
theorem NC_app (ρ : Int → Raw) (l m : List Nd) : NC ρ (l ++ m) = NC ρ l ++ NC ρ m := List.map_append ..
theorem NM_app (ρ : Int → Raw) (l m : List Nd) : NM ρ (l ++ m) = NM ρ l ++ NM ρ m := List.flatMap_append ..
theorem NM_cons (ρ : Int → Raw) (n : Nd) (m : List Nd) : NM ρ (n :: m) = nmaps (ρ n.id) n ++ NM ρ m := rfl
theorem NC_cons (ρ : Int → Raw) (n : Nd) (m : List Nd) : NC ρ (n :: m) = cblk ρ n :: NC ρ m := rfl
theorem NC_perm {ρ : Int → Raw} {l m : List Nd} (h : l.Perm m) : (NC ρ l).Perm (NC ρ m) := h.map _
theorem NM_perm {ρ : Int → Raw} {l m : List Nd} (h : l.Perm m) : (NM ρ l).Perm (NM ρ m) := List.Perm.flatMap_right _ h
theorem NC_congr {ρ ρ' : Int → Raw} {l : List Nd} (h : ∀ n ∈ l, ncell (ρ' n.id) n = ncell (ρ n.id) n ∧ (ρ' n.id).b = (ρ n.id).b) : NC ρ' l = NC ρ l := by
  unfold NC
  apply List.map_congr_left
  intro n hn
  unfold cblk
  rw [(h n hn).1, (h n hn).2]
theorem NM_congr {ρ ρ' : Int → Raw} {l : List Nd} (h : ∀ n ∈ l, ρ' n.id = ρ n.id) : NM ρ' l = NM ρ l := by
  induction l with
  | nil => rfl
  | cons a l ih => rw [NM_cons, NM_cons, ih fun n hn => h n (List.mem_cons_of_mem _ hn), h a (List.mem_cons_self ..)]
theorem nb_cell {ρ : Int → Raw} {l : List Nd} {n : Nd} (h : n ∈ l) : (((ρ n.id).b, .cells (ncell (ρ n.id) n).toArray 72) : Blk) ∈ NC ρ l := List.mem_map.2 ⟨n, h, rfl⟩
theorem nm_mem {ρ : Int → Raw} {l : List Nd} {n : Nd} (h : n ∈ l) {x : Blk} (hx : x ∈ nmaps (ρ n.id) n) : x ∈ NM ρ l := List.mem_flatMap.2 ⟨n, h, hx⟩
theorem nb_ins {ρ : Int → Raw} {l : List Nd} {n : Nd} (h : n ∈ l) (hs : n.state ≠ 2) : (((ρ n.id).mi, .map (ρ n.id).ei (ρ n.id).ci) : Blk) ∈ NM ρ l := nm_mem h (by
  unfold nmaps; rw [if_neg hs]; exact List.mem_cons_self ..)
theorem nb_outs {ρ : Int → Raw} {l : List Nd} {n : Nd} (h : n ∈ l) (hs : n.state ≠ 2) : (((ρ n.id).mo, .map (ρ n.id).eo (ρ n.id).co) : Blk) ∈ NM ρ l := nm_mem h (by
  unfold nmaps; rw [if_neg hs]; exact List.mem_cons_of_mem _ (List.mem_cons_self ..))
theorem nb_sb {ρ : Int → Raw} {l : List Nd} {n : Nd} (h : n ∈ l) {x : Blk} (hx : x ∈ (ρ n.id).sb) : x ∈ NM ρ l := nm_mem h (List.mem_append_right _ hx)
/-- one node is changed -/
def at1 (k : Int) : Int → Bool := fun x => decide (x = k)
theorem updL_out {l : List Nd} {p : Int → Bool} {f : Nd → Nd} (h : ∀ n ∈ l, p n.id = false) : updL l p f = l := by
  unfold updL
  conv => rhs; rw [← List.map_id l]
  apply List.map_congr_left
  intro n hn
  rw [h n hn]; rfl
theorem updL_app (l m : List Nd) (p : Int → Bool) (f : Nd → Nd) : updL (l ++ m) p f = updL l p f ++ updL m p f := List.map_append ..
theorem updL_ids {l : List Nd} {p : Int → Bool} {f : Nd → Nd} (hf : ∀ n, (f n).id = n.id) : (updL l p f).map (·.id) = l.map (·.id) := by
  unfold updL
  rw [List.map_map]
  apply List.map_congr_left
  intro n _
  simp only [Function.comp]
  split
  · exact hf n
  · rfl
theorem updL_split {s t : List Nd} {n : Nd} (hn : ((s ++ n :: t).map (·.id)).Nodup) (f : Nd → Nd) : updL (s ++ n :: t) (at1 n.id) f = s ++ f n :: t := by
  rw [List.map_append, List.map_cons, List.nodup_append, List.nodup_cons] at hn
  rw [updL_app, updL_out (l := s)]
  · show _ ++ (if at1 n.id n.id then f n else n) :: updL t (at1 n.id) f = _
    rw [updL_out (l := t)]
    · simp [at1]
    · intro m hm
      simp only [at1, decide_eq_false_iff_not]
      exact fun e => hn.2.1.1 (List.mem_map.2 ⟨m, hm, e⟩)
  · intro m hm
    simp only [at1, decide_eq_false_iff_not]
    exact fun e => hn.2.2 m.id (List.mem_map.2 ⟨m, hm, rfl⟩) n.id (List.mem_cons_self ..) e
theorem split_out {s t : List Nd} {n : Nd} (hn : ((s ++ n :: t).map (·.id)).Nodup) : (∀ m ∈ s, m.id ≠ n.id) ∧ (∀ m ∈ t, m.id ≠ n.id) := by
  rw [List.map_append, List.map_cons, List.nodup_append, List.nodup_cons] at hn
  exact ⟨fun m hm e => hn.2.2 m.id (List.mem_map.2 ⟨m, hm, rfl⟩) n.id (List.mem_cons_self ..) e, fun m hm e => hn.2.1.1 (List.mem_map.2 ⟨m, hm, e⟩)⟩
theorem turn_gen {ρ ρ' : Int → Raw} {l : List Nd} {n : Nd} {f : Nd → Nd} {b : Nat} {o o' : Obj} (hm : n ∈ l) (hn : (l.map (·.id)).Nodup) (hr : ∀ k, k ≠ n.id → ρ' k = ρ k) (hf : (f n).id = n.id) (hT : Turn (nmaps (ρ n.id) n) b o o' (nmaps (ρ' n.id) (f n))) :
    Turn (NM ρ l) b o o' (NM ρ' (updL l (at1 n.id) f)) := by
  obtain ⟨s, t, rfl⟩ := List.append_of_mem hm
  rw [updL_split hn]
  obtain ⟨h1, h2⟩ := split_out hn
  rw [NM_app, NM_app, NM_cons, NM_cons, hf, NM_congr (ρ' := ρ') (l := s) fun m hm => hr _ (h1 m hm), NM_congr (ρ' := ρ') (l := t) fun m hm => hr _ (h2 m hm)]
  exact Turn.pre (hT.left _)
theorem turn_cell {ρ : Int → Raw} {l : List Nd} {n : Nd} {f : Nd → Nd} (hm : n ∈ l) (hn : (l.map (·.id)).Nodup) (hf : (f n).id = n.id) :
    Turn (NC ρ l) (ρ n.id).b (.cells (ncell (ρ n.id) n).toArray 72) (.cells (ncell (ρ n.id) (f n)).toArray 72) (NC ρ (updL l (at1 n.id) f)) := by
  obtain ⟨s, t, rfl⟩ := List.append_of_mem hm
  rw [updL_split hn, NC_app, NC_app, NC_cons, NC_cons]
  refine Turn.pre ?_
  have : cblk ρ (f n) = ((ρ n.id).b, .cells (ncell (ρ n.id) (f n)).toArray 72) := by unfold cblk; rw [hf]
  rw [this]
  exact .here
/-- what changes neither the number nor the state leaves the maps alone -/
theorem NM_upd {ρ : Int → Raw} {l : List Nd} {p : Int → Bool} {f : Nd → Nd} (hf : ∀ n, (f n).id = n.id) (hs : ∀ n, (f n).state = 2 ↔ n.state = 2) : NM ρ (updL l p f) = NM ρ l := by
  induction l with
  | nil => rfl
  | cons a l ih =>
    show NM ρ ((if p a.id then f a else a) :: updL l p f) = _
    rw [NM_cons, NM_cons, ih]
    congr 1
    split
    · unfold nmaps; simp only [hf, hs]
    · rfl
/-- what changes but the lists ins and outs leaves the cells alone -/
theorem NC_upd {ρ : Int → Raw} {l : List Nd} {p : Int → Bool} {f : Nd → Nd} (hf : ∀ n, ∃ ii oo, f n = { n with ins := ii, outs := oo }) : NC ρ (updL l p f) = NC ρ l := by
  unfold NC updL
  rw [List.map_map]
  apply List.map_congr_left
  intro n _
  simp only [Function.comp]
  split
  · obtain ⟨ii, oo, h⟩ := hf n; rw [h]; rfl
  · rfl
/-- the map of ins, or of outs, of a node is another -/
def setI (ρ : Int → Raw) (k : Int) (es : Array MapEntry) (c : Nat) : Int → Raw := fun x => if x = k then { ρ x with ei := es, ci := c } else ρ x
def setO (ρ : Int → Raw) (k : Int) (es : Array MapEntry) (c : Nat) : Int → Raw := fun x => if x = k then { ρ x with eo := es, co := c } else ρ x
theorem setI_b (ρ : Int → Raw) (k : Int) (es : Array MapEntry) (c : Nat) (x : Int) : (setI ρ k es c x).b = (ρ x).b ∧ (setI ρ k es c x).mi = (ρ x).mi ∧ (setI ρ k es c x).mo = (ρ x).mo ∧ (setI ρ k es c x).eo = (ρ x).eo ∧ (setI ρ k es c x).co = (ρ x).co ∧ (setI ρ k es c x).sv = (ρ x).sv ∧ (setI ρ k es c x).sb = (ρ x).sb := by
  unfold setI; split <;> exact ⟨rfl, rfl, rfl, rfl, rfl, rfl, rfl⟩
theorem setO_b (ρ : Int → Raw) (k : Int) (es : Array MapEntry) (c : Nat) (x : Int) : (setO ρ k es c x).b = (ρ x).b ∧ (setO ρ k es c x).mi = (ρ x).mi ∧ (setO ρ k es c x).mo = (ρ x).mo ∧ (setO ρ k es c x).ei = (ρ x).ei ∧ (setO ρ k es c x).ci = (ρ x).ci ∧ (setO ρ k es c x).sv = (ρ x).sv ∧ (setO ρ k es c x).sb = (ρ x).sb := by
  unfold setO; split <;> exact ⟨rfl, rfl, rfl, rfl, rfl, rfl, rfl⟩
theorem turn_ins {ρ : Int → Raw} {l : List Nd} {n : Nd} {f : Nd → Nd} {es : Array MapEntry} {c : Nat} (hm : n ∈ l) (hn : (l.map (·.id)).Nodup) (hs : n.state ≠ 2) (hf : ∃ ii, f n = { n with ins := ii }) :
    Turn (NM ρ l) (ρ n.id).mi (.map (ρ n.id).ei (ρ n.id).ci) (.map es c) (NM (setI ρ n.id es c) (updL l (at1 n.id) f)) := by
  obtain ⟨ii, hf⟩ := hf
  refine turn_gen hm hn (fun k hk => by unfold setI; rw [if_neg hk]) (by rw [hf]) ?_
  rw [hf]
  unfold nmaps setI
  simp only [if_neg hs, if_true]
  exact .here
theorem turn_outs {ρ : Int → Raw} {l : List Nd} {n : Nd} {f : Nd → Nd} {es : Array MapEntry} {c : Nat} (hm : n ∈ l) (hn : (l.map (·.id)).Nodup) (hs : n.state ≠ 2) (hf : ∃ ii, f n = { n with outs := ii }) :
    Turn (NM ρ l) (ρ n.id).mo (.map (ρ n.id).eo (ρ n.id).co) (.map es c) (NM (setO ρ n.id es c) (updL l (at1 n.id) f)) := by
  obtain ⟨ii, hf⟩ := hf
  refine turn_gen hm hn (fun k hk => by unfold setO; rw [if_neg hk]) (by rw [hf]) ?_
  rw [hf]
  unfold nmaps setO
  simp only [if_neg hs, if_true]
  exact .there .here
/-- the cells do not tell which maps' contents -/
theorem NC_setI (ρ : Int → Raw) (k : Int) (es : Array MapEntry) (c : Nat) (l : List Nd) : NC (setI ρ k es c) l = NC ρ l := NC_congr fun n _ => by
  obtain ⟨h1, h2, h3, _, _, h4, _⟩ := setI_b ρ k es c n.id
  unfold ncell mvN; rw [h1, h2, h3, h4]; exact ⟨rfl, rfl⟩
theorem NC_setO (ρ : Int → Raw) (k : Int) (es : Array MapEntry) (c : Nat) (l : List Nd) : NC (setO ρ k es c) l = NC ρ l := NC_congr fun n _ => by
  obtain ⟨h1, h2, h3, _, _, h4, _⟩ := setO_b ρ k es c n.id
  unfold ncell mvN; rw [h1, h2, h3, h4]; exact ⟨rfl, rfl⟩
/-- different nodes lie in different blocks -/
theorem nb_inj {ρ : Int → Raw} {l : List Nd} (hd : ((NC ρ l).map (·.1)).Nodup) {m n : Nd} (hm : m ∈ l) (hk : n ∈ l) (he : (ρ m.id).b = (ρ n.id).b) : m = n := by
  obtain ⟨s, t, rfl⟩ := List.append_of_mem hm
  rw [NC_app, NC_cons, List.map_append, List.map_cons, List.nodup_append, List.nodup_cons] at hd
  have hx : ∀ {k : Nd} {u : List Nd}, k ∈ u → (ρ k.id).b ∈ (NC ρ u).map (·.1) := fun h => List.mem_map.2 ⟨_, nb_cell h, rfl⟩
  rcases List.mem_append.1 hk with h | h
  · exact absurd he.symm (hd.2.2 _ (hx h) _ (List.mem_cons_self ..))
  · rcases List.mem_cons.1 h with h | h
    · exact h.symm
    · exact absurd (show (ρ m.id).b ∈ _ by rw [he]; exact hx h) hd.2.1.1
end Go.Proofs.Ytomgkmoecbnddaa
