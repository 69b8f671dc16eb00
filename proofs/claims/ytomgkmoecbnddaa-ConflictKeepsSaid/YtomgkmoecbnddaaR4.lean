/- Conflict: the invariant in two parts: plain, and of the blocks; edges stand at both ends; what a transaction's end leaves. -/
import Derived.Test.YtomgkmoecbnddaaR3
set_option linter.unusedVariables false
set_option linter.unusedSimpArgs false
set_option linter.unnecessarySimpa false
namespace Go.Proofs.Ytomgkmoecbnddaa
open Go.Sym

structure GOk (K : Nat) (g : Gr) : Prop where
  nd : (g.nodes.map (·.id)).Nodup
  lv : ∀ n ∈ g.live, n.state ≠ 2
  en : ∀ n ∈ g.ended, n.state = 2
  ci : ∀ n ∈ g.live, ∀ k ∈ n.ins, k ≠ n.id ∧ ∃ m ∈ g.live, m.id = k
  co : ∀ n ∈ g.live, ∀ k ∈ n.outs, k ≠ n.id ∧ ∃ m ∈ g.live, m.id = k
  em : ∀ n ∈ g.ended, n.ins = [] ∧ n.outs = []
  rg : ∀ n ∈ g.nodes, 0 ≤ n.begin_ ∧ n.begin_ ≤ K ∧ 0 ≤ n.seq ∧ n.seq ≤ K
  sz : g.live.length ≤ K ∧ 0 ≤ g.commits ∧ g.commits ≤ K ∧ K ≤ 4000
structure LInv (ρ : Int → Raw) (l : List Nd) : Prop where
  nd : (l.map (·.id)).Nodup
  mi : ∀ n ∈ l, n.state ≠ 2 → MapOf (Value.int .i64) (klist ρ n.ins) (ρ n.id).ei (ρ n.id).ci
  mo : ∀ n ∈ l, n.state ≠ 2 → MapOf (Value.int .i64) (klist ρ n.outs) (ρ n.id).eo (ρ n.id).co
  bs : ∀ n ∈ l, SlI n.beside (ρ n.id).sv (ρ n.id).sb
theorem InvN.gok {K : Nat} {g : Gr} {ρ : Int → Raw} (h : InvN K g ρ) : GOk K g := ⟨h.nd, h.lv, h.en, h.ci, h.co, h.em, h.rg, h.sz⟩
theorem InvN.linv {K : Nat} {g : Gr} {ρ : Int → Raw} (h : InvN K g ρ) : LInv ρ g.nodes :=
  ⟨h.nd, fun n hn hs => h.mi n ((List.mem_append.1 hn).resolve_right fun e => hs (h.en n e)), fun n hn hs => h.mo n ((List.mem_append.1 hn).resolve_right fun e => hs (h.en n e)), h.bs⟩
theorem invN_of {K : Nat} {g : Gr} {ρ : Int → Raw} (h : GOk K g) (hl : LInv ρ g.nodes) : InvN K g ρ :=
  ⟨h.nd, h.lv, h.en, fun n hn => hl.mi n (List.mem_append_left _ hn) (h.lv n hn), fun n hn => hl.mo n (List.mem_append_left _ hn) (h.lv n hn), h.ci, h.co, h.em, hl.bs, h.rg, h.sz⟩
theorem LInv.sub {ρ : Int → Raw} {l m : List Nd} (h : LInv ρ l) (hs : ∀ n ∈ m, n ∈ l) (hn : (m.map (·.id)).Nodup) : LInv ρ m :=
  ⟨hn, fun n hm => h.mi n (hs n hm), fun n hm => h.mo n (hs n hm), fun n hm => h.bs n (hs n hm)⟩
theorem LInv.uniq {ρ : Int → Raw} {l : List Nd} (h : LInv ρ l) {x y : Nd} (hx : x ∈ l) (hy : y ∈ l) (he : x.id = y.id) : x = y := by
  have h1 := findL_mem h.nd hx; have h2 := findL_mem h.nd hy
  rw [he] at h1; exact Option.some.inj (h1.symm.trans h2)
theorem upd1_mem {ρ : Int → Raw} {l : List Nd} (h : LInv ρ l) {r : Nd} (hr : r ∈ l) {f : Nd → Nd} {m : Nd} (hm : m ∈ updL l (at1 r.id) f) : m = f r ∨ (m ∈ l ∧ m.id ≠ r.id) := by
  obtain ⟨x, h1, h2⟩ := updL_mem hm
  by_cases he : x.id = r.id
  · have := h.uniq h1 hr he; subst this
    rw [if_pos (by simp [at1])] at h2
    exact .inl h2
  · rw [if_neg (by simp [at1, he])] at h2
    subst h2
    exact .inr ⟨h1, he⟩
/-- a change of other fields -/
theorem LInv.cell {ρ : Int → Raw} {l : List Nd} (h : LInv ρ l) {r : Nd} (hr : r ∈ l) {f : Nd → Nd} (hid : ∀ n, (f n).id = n.id) (hf : (f r).ins = r.ins ∧ (f r).outs = r.outs ∧ (f r).beside = r.beside ∧ (f r).state = r.state) : LInv ρ (updL l (at1 r.id) f) := by
  refine ⟨by rw [updL_ids hid]; exact h.nd, fun m hm hs => ?_, fun m hm hs => ?_, fun m hm => ?_⟩
  · rcases upd1_mem h hr hm with rfl | ⟨h1, _⟩
    · rw [hf.2.2.2] at hs; rw [hid, hf.1]; exact h.mi r hr hs
    · exact h.mi m h1 hs
  · rcases upd1_mem h hr hm with rfl | ⟨h1, _⟩
    · rw [hf.2.2.2] at hs; rw [hid, hf.2.1]; exact h.mo r hr hs
    · exact h.mo m h1 hs
  · rcases upd1_mem h hr hm with rfl | ⟨h1, _⟩
    · rw [hid, hf.2.2.1]; exact h.bs r hr
    · exact h.bs m h1
theorem LInv.outs {ρ : Int → Raw} {l : List Nd} (h : LInv ρ l) {r : Nd} (hr : r ∈ l) {f : Nd → Nd} {es : Array MapEntry} {c : Nat} (hf : ∀ n, ∃ oo, f n = { n with outs := oo }) (hM : MapOf (Value.int .i64) (klist ρ (f r).outs) es c) : LInv (setO ρ r.id es c) (updL l (at1 r.id) f) := by
  have hid : ∀ n, (f n).id = n.id := fun n => by obtain ⟨oo, e⟩ := hf n; rw [e]
  obtain ⟨oo, hfr⟩ := hf r
  have hb : ∀ k, (setO ρ r.id es c k).b = (ρ k).b := fun k => (setO_b ρ r.id es c k).1
  refine ⟨by rw [updL_ids hid]; exact h.nd, fun m hm hs => ?_, fun m hm hs => ?_, fun m hm => ?_⟩
  · rw [klist_congr hb, (setO_b ρ r.id es c m.id).2.2.2.1, (setO_b ρ r.id es c m.id).2.2.2.2.1]
    rcases upd1_mem h hr hm with rfl | ⟨h1, _⟩
    · rw [hfr] at hs ⊢; exact h.mi r hr hs
    · exact h.mi m h1 hs
  · rw [klist_congr hb]
    rcases upd1_mem h hr hm with rfl | ⟨h1, h2⟩
    · rw [hid]; unfold setO; rw [if_pos rfl]; exact hM
    · unfold setO; rw [if_neg h2]; exact h.mo m h1 hs
  · rw [(setO_b ρ r.id es c m.id).2.2.2.2.2.1, (setO_b ρ r.id es c m.id).2.2.2.2.2.2]
    rcases upd1_mem h hr hm with rfl | ⟨h1, _⟩
    · rw [hfr]; exact h.bs r hr
    · exact h.bs m h1
theorem LInv.inss {ρ : Int → Raw} {l : List Nd} (h : LInv ρ l) {r : Nd} (hr : r ∈ l) {f : Nd → Nd} {es : Array MapEntry} {c : Nat} (hf : ∀ n, ∃ oo, f n = { n with ins := oo }) (hM : MapOf (Value.int .i64) (klist ρ (f r).ins) es c) : LInv (setI ρ r.id es c) (updL l (at1 r.id) f) := by
  have hid : ∀ n, (f n).id = n.id := fun n => by obtain ⟨oo, e⟩ := hf n; rw [e]
  obtain ⟨oo, hfr⟩ := hf r
  have hb : ∀ k, (setI ρ r.id es c k).b = (ρ k).b := fun k => (setI_b ρ r.id es c k).1
  refine ⟨by rw [updL_ids hid]; exact h.nd, fun m hm hs => ?_, fun m hm hs => ?_, fun m hm => ?_⟩
  · rw [klist_congr hb]
    rcases upd1_mem h hr hm with rfl | ⟨h1, h2⟩
    · rw [hid]; unfold setI; rw [if_pos rfl]; exact hM
    · unfold setI; rw [if_neg h2]; exact h.mi m h1 hs
  · rw [klist_congr hb, (setI_b ρ r.id es c m.id).2.2.2.1, (setI_b ρ r.id es c m.id).2.2.2.2.1]
    rcases upd1_mem h hr hm with rfl | ⟨h1, _⟩
    · rw [hfr] at hs ⊢; exact h.mo r hr hs
    · exact h.mo m h1 hs
  · rw [(setI_b ρ r.id es c m.id).2.2.2.2.2.1, (setI_b ρ r.id es c m.id).2.2.2.2.2.2]
    rcases upd1_mem h hr hm with rfl | ⟨h1, _⟩
    · rw [hfr]; exact h.bs r hr
    · exact h.bs m h1

/-! ### edges stand at both ends -/
def SymG (g : Gr) : Prop := ∀ m ∈ g.live, ∀ k ∈ g.live, k.id ∈ m.ins ↔ m.id ∈ k.outs
theorem rmI_mem {l : List Int} {x k : Int} : k ∈ rmI l x ↔ k ∈ l ∧ k ≠ x := by
  unfold rmI
  rw [List.mem_filter]
  simp
theorem rmI_out {l : List Int} {x : Int} (h : x ∉ l) : rmI l x = l := by
  unfold rmI
  rw [List.filter_eq_self]
  intro y hy
  have : y ≠ x := fun e => h (e ▸ hy)
  simpa using this
theorem rmI_two (l : List Int) (x : Int) : rmI (rmI l x) x = rmI l x := rmI_out fun h => (rmI_mem.1 h).2 rfl
/-- what the others are once the transaction n has ended: fr: of those with an edge to it, fw: of those with an edge from it -/
def offR (tx : Int) (q : Option Int) (r : Nd) : Nd := { r with outs := rmI r.outs tx, least := match q with | none => r.least | some c => min r.least c }
def offW (tx : Int) (q : Option Int) (w : Nd) : Nd := { w with ins := rmI w.ins tx, reach := match q with | none => w.reach | some c => max w.reach c }
theorem offR_two (tx : Int) (q : Option Int) (r : Nd) : offR tx q (offR tx q r) = offR tx q r := by
  unfold offR
  cases q with
  | none => simp only [rmI_two]
  | some c =>
    simp only [rmI_two]
    congr 1
    omega
theorem offW_two (tx : Int) (q : Option Int) (r : Nd) : offW tx q (offW tx q r) = offW tx q r := by
  unfold offW
  cases q with
  | none => simp only [rmI_two]
  | some c =>
    simp only [rmI_two]
    congr 1
    omega
def restL (l : List Nd) (tx : Int) : List Nd := l.filter fun x => !decide (x.id = tx)
theorem restL_perm {l : List Nd} (hn : (l.map (·.id)).Nodup) {n : Nd} (h : n ∈ l) : l.Perm (n :: restL l n.id) := by
  obtain ⟨s, t, rfl⟩ := List.append_of_mem h
  obtain ⟨h1, h2⟩ := split_out hn
  unfold restL
  rw [List.filter_append, List.filter_cons, if_neg (by simp), List.filter_eq_self.2 fun m hm => by simpa using h1 m hm, List.filter_eq_self.2 fun m hm => by simpa using h2 m hm]
  exact List.perm_middle
theorem restL_sub (l : List Nd) (tx : Int) : (restL l tx).Sublist l := List.filter_sublist
theorem restL_mem {l : List Nd} {tx : Int} {m : Nd} : m ∈ restL l tx ↔ m ∈ l ∧ m.id ≠ tx := by
  unfold restL
  rw [List.mem_filter]
  simp
theorem restL_upd {l : List Nd} {tx : Int} {p : Int → Bool} {f : Nd → Nd} (hf : ∀ n, (f n).id = n.id) : restL (updL l p f) tx = updL (restL l tx) p f := by
  unfold restL updL
  rw [List.filter_map]
  congr 1
  apply List.filter_congr
  intro n _
  simp only [Function.comp]
  split
  · rw [hf]
  · rfl
/-- the others, once n has ended -/
def offL (l : List Nd) (n : Nd) (q1 q2 : Option Int) : List Nd := updL (updL (restL l n.id) (fun x => n.ins.contains x) (offR n.id q1)) (fun x => n.outs.contains x) (offW n.id q2)
def off1 (n : Nd) (q1 q2 : Option Int) (m : Nd) : Nd :=
  { m with ins := rmI m.ins n.id, outs := rmI m.outs n.id,
           least := if n.ins.contains m.id then (match q1 with | none => m.least | some c => min m.least c) else m.least,
           reach := if n.outs.contains m.id then (match q2 with | none => m.reach | some c => max m.reach c) else m.reach }
theorem offL_live {K : Nat} {g : Gr} (hI : GOk K g) (hS : SymG g) {n : Nd} (hn : n ∈ g.live) (q1 q2 : Option Int) : offL g.live n q1 q2 = (restL g.live n.id).map (off1 n q1 q2) := by
  unfold offL updL
  rw [List.map_map]
  apply List.map_congr_left
  intro m hm
  obtain ⟨hm1, hm2⟩ := restL_mem.1 hm
  have e1 := hS m hm1 n hn
  have e2 := hS n hn m hm1
  simp only [Function.comp]
  have k1 : ¬ n.ins.contains m.id = true → rmI m.outs n.id = m.outs := fun h => rmI_out fun hx => h (by simpa using e2.2 hx)
  have k2 : ¬ n.outs.contains m.id = true → rmI m.ins n.id = m.ins := fun h => rmI_out fun hx => h (by simpa using e1.1 hx)
  by_cases h1 : n.ins.contains m.id = true
  · rw [if_pos h1]
    have : (offR n.id q1 m).id = m.id := rfl
    rw [this]
    by_cases h2 : n.outs.contains m.id = true
    · rw [if_pos h2]; unfold off1 offR offW; simp only [if_pos h1, if_pos h2]
    · rw [if_neg h2]; unfold off1 offR; simp only [if_pos h1, if_neg h2, k2 h2]
  · rw [if_neg h1]
    by_cases h2 : n.outs.contains m.id = true
    · rw [if_pos h2]; unfold off1 offW; simp only [if_neg h1, if_pos h2, k1 h1]
    · rw [if_neg h2]; unfold off1; simp only [if_neg h1, if_neg h2, k1 h1, k2 h2]
theorem offL_ended {K : Nat} {g : Gr} (hI : GOk K g) {n : Nd} (hn : n ∈ g.live) (q1 q2 : Option Int) : offL g.ended n q1 q2 = g.ended := by
  have hnd := hI.nd
  unfold Gr.nodes at hnd
  rw [List.map_append, List.nodup_append] at hnd
  have hne : ∀ m ∈ g.ended, ∀ k ∈ g.live, m.id ≠ k.id := fun m hm k hk e => hnd.2.2 k.id (List.mem_map.2 ⟨k, hk, rfl⟩) m.id (List.mem_map.2 ⟨m, hm, rfl⟩) e.symm
  have h1 : restL g.ended n.id = g.ended := List.filter_eq_self.2 fun m hm => by simpa using hne m hm n hn
  unfold offL
  rw [h1, updL_out (l := g.ended) fun m hm => ?_, updL_out fun m hm => ?_]
  · simp only [List.contains_eq_mem, decide_eq_false_iff_not]
    intro h; obtain ⟨k, h2, h3⟩ := (hI.co n hn m.id h).2; exact hne m hm k h2 h3.symm
  · simp only [List.contains_eq_mem, decide_eq_false_iff_not]
    intro h; obtain ⟨k, h2, h3⟩ := (hI.ci n hn m.id h).2; exact hne m hm k h2 h3.symm
theorem offL_app (l m : List Nd) (n : Nd) (q1 q2 : Option Int) : offL (l ++ m) n q1 q2 = offL l n q1 q2 ++ offL m n q1 q2 := by
  unfold offL restL
  rw [List.filter_append, updL_app, updL_app]
/-- the graph without n -/
def Gr.off (g : Gr) (n : Nd) (q1 q2 : Option Int) (cm : Int) (es : List Nd) : Gr := ⟨g.most, cm, (restL g.live n.id).map (off1 n q1 q2), g.ended ++ es⟩
theorem off_gok {K K' : Nat} {g : Gr} (hI : GOk K g) (hS : SymG g) {n : Nd} (hn : n ∈ g.live) {q1 q2 : Option Int} {cm : Int} {es : List Nd} (hK : K ≤ K') (hK4 : K' ≤ 4000) (hcm : 0 ≤ cm ∧ cm ≤ K')
    (hes : es = [] ∨ ∃ n', es = [n'] ∧ n'.id = n.id ∧ n'.state = 2 ∧ n'.ins = [] ∧ n'.outs = [] ∧ 0 ≤ n'.begin_ ∧ n'.begin_ ≤ K' ∧ 0 ≤ n'.seq ∧ n'.seq ≤ K') : GOk K' (g.off n q1 q2 cm es) ∧ SymG (g.off n q1 q2 cm es) := by
  have hids : ((restL g.live n.id).map (off1 n q1 q2)).map (·.id) = (restL g.live n.id).map (·.id) := by rw [List.map_map]; rfl
  have hlive : ∀ m ∈ (g.off n q1 q2 cm es).live, ∃ x ∈ g.live, x.id ≠ n.id ∧ m = off1 n q1 q2 x := fun m hm => by
    obtain ⟨x, h1, h2⟩ := List.mem_map.1 hm
    obtain ⟨h3, h4⟩ := restL_mem.1 h1
    exact ⟨x, h3, h4, h2.symm⟩
  have hin : ∀ x ∈ g.live, x.id ≠ n.id → off1 n q1 q2 x ∈ (g.off n q1 q2 cm es).live := fun x h1 h2 => List.mem_map.2 ⟨x, restL_mem.2 ⟨h1, h2⟩, rfl⟩
  have hpm : g.live.Perm (n :: restL g.live n.id) := by
    have := hI.nd; unfold Gr.nodes at this; rw [List.map_append, List.nodup_append] at this
    exact restL_perm this.1 hn
  refine ⟨⟨?_, ?_, ?_, ?_, ?_, ?_, ?_, ?_⟩, ?_⟩
  · show (((restL g.live n.id).map (off1 n q1 q2) ++ (g.ended ++ es)).map (·.id)).Nodup
    have h1 : (g.nodes.map (·.id)).Perm (n.id :: ((restL g.live n.id).map (·.id) ++ g.ended.map (·.id))) := by
      have := (hpm.append_right g.ended).map (·.id)
      rw [List.map_append, List.map_append] at this
      unfold Gr.nodes
      rw [List.map_append]
      exact this
    have h2 := h1.nodup_iff.1 hI.nd
    rw [List.map_append, List.map_append, hids]
    rcases hes with rfl | ⟨n', rfl, h3, _⟩
    · rw [List.map_nil, List.append_nil]; exact (List.nodup_cons.1 h2).2
    · rw [List.map_singleton, h3, ← List.append_assoc]
      have h4 : (((restL g.live n.id).map (·.id) ++ g.ended.map (·.id)) ++ [n.id]).Perm (n.id :: ((restL g.live n.id).map (·.id) ++ g.ended.map (·.id))) := List.perm_append_comm
      exact h4.nodup_iff.2 h2
  · intro m hm; obtain ⟨x, h1, _, rfl⟩ := hlive m hm; exact hI.lv x h1
  · intro m hm
    rcases List.mem_append.1 hm with h | h
    · exact hI.en m h
    · rcases hes with rfl | ⟨n', rfl, _, h3, _⟩
      · cases h
      · rw [List.mem_singleton.1 h]; exact h3
  · intro m hm k hk
    obtain ⟨x, h1, h2, rfl⟩ := hlive m hm
    obtain ⟨h3, h4⟩ := rmI_mem.1 hk
    obtain ⟨h5, y, h6, h7⟩ := hI.ci x h1 k h3
    exact ⟨h5, off1 n q1 q2 y, hin y h6 (by rw [h7]; exact h4), h7⟩
  · intro m hm k hk
    obtain ⟨x, h1, h2, rfl⟩ := hlive m hm
    obtain ⟨h3, h4⟩ := rmI_mem.1 hk
    obtain ⟨h5, y, h6, h7⟩ := hI.co x h1 k h3
    exact ⟨h5, off1 n q1 q2 y, hin y h6 (by rw [h7]; exact h4), h7⟩
  · intro m hm
    rcases List.mem_append.1 hm with h | h
    · exact hI.em m h
    · rcases hes with rfl | ⟨n', rfl, _, _, h3, h4, _⟩
      · cases h
      · rw [List.mem_singleton.1 h]; exact ⟨h3, h4⟩
  · intro m hm
    rcases List.mem_append.1 hm with h | h
    · obtain ⟨x, h1, _, rfl⟩ := hlive m h
      have := hI.rg x (List.mem_append_left _ h1)
      show 0 ≤ x.begin_ ∧ x.begin_ ≤ K' ∧ 0 ≤ x.seq ∧ x.seq ≤ K'
      omega
    · rcases List.mem_append.1 h with h | h
      · have := hI.rg m (List.mem_append_right _ h); omega
      · rcases hes with rfl | ⟨n', rfl, _, _, _, _, h5⟩
        · cases h
        · rw [List.mem_singleton.1 h]; exact h5
  · refine ⟨?_, hcm.1, hcm.2, hK4⟩
    show ((restL g.live n.id).map (off1 n q1 q2)).length ≤ K'
    rw [List.length_map]
    have := (restL_sub g.live n.id).length_le
    have := hI.sz.1
    omega
  · intro m hm k hk
    obtain ⟨x, h1, h2, rfl⟩ := hlive m hm
    obtain ⟨y, h3, h4, rfl⟩ := hlive k hk
    show y.id ∈ rmI x.ins n.id ↔ x.id ∈ rmI y.outs n.id
    rw [rmI_mem, rmI_mem, hS x h1 y h3]
    exact ⟨fun h => ⟨h.1, h2⟩, fun h => ⟨h.1, h4⟩⟩
end Go.Proofs.Ytomgkmoecbnddaa
