/- Conflict: far, gone, find, victim over a graph's blocks. -/
import Derived.Test.YtomgkmoecbnddaaQ2
set_option linter.unusedVariables false
set_option linter.unusedSimpArgs false
set_option linter.unnecessarySimpa false
namespace Go.Proofs.Ytomgkmoecbnddaa
open Go.Sym

theorem pick_of_mem {x : Blk} {L : List Blk} (h : x ∈ L) : ∃ A, L.Perm ([x] ++ A) := by
  obtain ⟨s, t, rfl⟩ := List.append_of_mem h
  exact ⟨s ++ t, List.perm_middle⟩
theorem farN_tri {K : Nat} {ρ : Int → Raw} {l : List Nd} {n : Nd} (hn : n ∈ l) (hr : 0 ≤ n.begin_ ∧ n.begin_ ≤ K ∧ 0 ≤ n.seq ∧ n.seq ≤ K) (hK : K ≤ 4000) : TriQ Try.prog 38 #[.pointer (some ⟨(ρ n.id).b, 0, none⟩)] (NC ρ l) (.int .i64 n.far) := by
  obtain ⟨A, hA⟩ := pick_of_mem (nb_cell (ρ := ρ) hn)
  exact triq_sub hA (far_tri ⟨by omega, by omega, by omega, by omega⟩)
theorem goneN_tri {ρ : Int → Raw} {l : List Nd} {n : Nd} (hn : n ∈ l) : TriQ Try.prog 51 #[.pointer (some ⟨(ρ n.id).b, 0, none⟩)] (NC ρ l) (.bool n.gone) := by
  obtain ⟨A, hA⟩ := pick_of_mem (nb_cell (ρ := ρ) hn)
  exact triq_sub hA gone_tri
def ptrO (ρ : Int → Raw) : Option Nd → Value
  | none => .pointer none
  | some n => .pointer (some ⟨(ρ n.id).b, 0, none⟩)
theorem findG_tri {K : Nat} {g : Gr} {M : Mem} (hI : Inv K g M) {tx : Int} : TriQ Try.prog 30 #[.pointer (some ⟨M.p, 0, none⟩), .int .i64 tx] (hblk g M) (ptrO M.ρ (findL g.nodes tx)) := by
  have h := find_tri (p := M.p) (lm := M.lm) (em := M.em) (most := g.most) (cm := g.commits) hI.ml hI.me (tx := tx) (fun v hv => by
    rw [lookV_mlist] at hv
    cases h : findL g.live tx with
    | none => rw [h] at hv; cases hv
    | some n => rw [h] at hv; simp only [Option.map_some, Option.some.injEq] at hv; exact ⟨_, hv.symm⟩)
  have e : findV (mlist M.ρ g.live) (mlist M.ρ g.ended) tx = ptrO M.ρ (findL g.nodes tx) := by
    unfold findV Gr.nodes
    rw [lookV_mlist, lookV_mlist, findL_app]
    cases findL g.live tx with
    | some n => rfl
    | none => cases findL g.ended tx <;> rfl
  rw [e] at h
  exact h
/-- three numbers as three pointers -/
def bO (ρ : Int → Raw) : Option Int → Option Nat
  | none => none
  | some k => some (ρ k).b
def s3cells (ρ : Int → Raw) (s : St3) : List Value := [ptrV (bO ρ s.1), ptrB (ρ s.2.1).b, ptrV (bO ρ s.2.2)]
def s3in (l : List Nd) (s : St3) : Prop := (∀ x ∈ s.1, ∃ n ∈ l, n.id = x) ∧ (∃ n ∈ l, n.id = s.2.1) ∧ (∀ x ∈ s.2.2, ∃ n ∈ l, n.id = x)
theorem stt_mem {l : List Nd} (hn : (l.map (·.id)).Nodup) {n : Nd} (h : n ∈ l) : stt l n.id = n.state := by unfold stt; rw [findL_mem hn h]
theorem victimN_tri {ρ : Int → Raw} {l : List Nd} (hn : (l.map (·.id)).Nodup) {s : St3} (hs : s3in l s) : TriQ Try.prog 35 #[.agg (s3cells ρ s).toArray] (NC ρ l) (ptrV (bO ρ (victL l s))) := by
  refine tri_nd fun hd => ?_
  obtain ⟨a, p, b⟩ := s
  obtain ⟨ha, ⟨np, hp, rfl⟩, hb⟩ := hs
  simp only at ha hb
  have hin : ∀ {n : Nd}, n ∈ l → NdIn (NC ρ l) (ρ n.id).b n := fun h => ⟨_, _, _, nb_cell h⟩
  have hinj : ∀ {m n : Nd}, m ∈ l → n ∈ l → (ρ m.id).b = (ρ n.id).b → m = n := fun h1 h2 h3 => nb_inj hd h1 h2 h3
  have key : ∀ (oa ob : Option Nd), (∀ x ∈ oa, x ∈ l) → (∀ x ∈ ob, x ∈ l) → TriQ Try.prog 35 #[.agg (s3cells ρ (oa.map (·.id), np.id, ob.map (·.id))).toArray] (NC ρ l) (ptrV (bO ρ (victL l (oa.map (·.id), np.id, ob.map (·.id))))) := by
    intro oa ob ha hb
    have h := victim_tri (NB := NC ρ l) (p := (ρ np.id).b) (np := np) (a := oa.map fun n => ((ρ n.id).b, n)) (b := ob.map fun n => ((ρ n.id).b, n)) (hin hp)
      (fun q hq => by obtain ⟨m, hm, rfl⟩ := Option.map_eq_some_iff.1 hq; exact hin (ha m hm))
      (fun q hq => by obtain ⟨m, hm, rfl⟩ := Option.map_eq_some_iff.1 hq; exact hin (hb m hm))
      (fun q hq q' hq' he => by
        obtain ⟨m, hm, rfl⟩ := Option.map_eq_some_iff.1 hq
        obtain ⟨m', hm', rfl⟩ := Option.map_eq_some_iff.1 hq'
        exact hinj (ha m hm) (hb m' hm') he)
    have e1 : (oa.map fun n => ((ρ n.id).b, n)).map (·.1) = bO ρ (oa.map (·.id)) := by cases oa <;> rfl
    have e2 : (ob.map fun n => ((ρ n.id).b, n)).map (·.1) = bO ρ (ob.map (·.id)) := by cases ob <;> rfl
    rw [e1, e2] at h
    have e3 : victB (ρ np.id).b np.state (oa.map fun n => ((ρ n.id).b, n)) (ob.map fun n => ((ρ n.id).b, n)) = bO ρ (victL l (oa.map (·.id), np.id, ob.map (·.id))) := by
      unfold victB victL
      dsimp only
      rw [stt_mem hn hp]
      by_cases h0 : np.state = 0
      · rw [if_pos h0, if_pos h0]; rfl
      · rw [if_neg h0, if_neg h0]
        cases oa with
        | none =>
          cases ob with
          | none => rfl
          | some m => simp only [Option.map_none, Option.map_some]; rw [stt_mem hn (hb m rfl)]; split <;> rfl
        | some k =>
          simp only [Option.map_some]
          rw [stt_mem hn (ha k rfl)]
          have hbk : (ob.map fun n => ((ρ n.id).b, n)).map (·.1) ≠ some (ρ k.id).b ↔ ob.map (·.id) ≠ some k.id := by
            cases ob with
            | none => simp
            | some m =>
              have h5 : (ρ m.id).b = (ρ k.id).b ↔ m.id = k.id := ⟨fun e => by rw [hinj (hb m rfl) (ha k rfl) e], fun e => by rw [e]⟩
              simp only [Option.map_some, ne_eq, Option.some.injEq, h5]
          by_cases h1 : k.state = 0 ∧ ob.map (·.id) ≠ some k.id
          · rw [if_pos h1, if_pos ⟨h1.1, hbk.2 h1.2⟩]; rfl
          · rw [if_neg h1, if_neg fun h => h1 ⟨h.1, hbk.1 h.2⟩]
            cases ob with
            | none => rfl
            | some m => simp only [Option.map_some]; rw [stt_mem hn (hb m rfl)]; split <;> rfl
    rw [e3] at h
    exact h
  have oex : ∀ (o : Option Int), (∀ x ∈ o, ∃ n ∈ l, n.id = x) → ∃ oo : Option Nd, o = oo.map (·.id) ∧ ∀ x ∈ oo, x ∈ l := by
    intro o ho
    cases o with
    | none => exact ⟨none, rfl, fun x hx => by cases hx⟩
    | some x =>
      obtain ⟨n, h1, h2⟩ := ho x rfl
      exact ⟨some n, by rw [← h2]; rfl, fun y hy => by cases hy; exact h1⟩
  obtain ⟨oa, rfl, h1⟩ := oex a ha
  obtain ⟨ob, rfl, h2⟩ := oex b hb
  exact key oa ob h1 h2
end Go.Proofs.Ytomgkmoecbnddaa
