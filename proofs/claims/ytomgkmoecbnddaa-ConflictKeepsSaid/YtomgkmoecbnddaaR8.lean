/- Conflict: Begin. -/
import Derived.Test.YtomgkmoecbnddaaR7
set_option linter.unusedVariables false
set_option linter.unusedSimpArgs false
set_option linter.unnecessarySimpa false
namespace Go.Proofs.Ytomgkmoecbnddaa
open Go.Sym

def bsOf (l : List Nd) : List Int := (sortI (l.map (·.id))).filter fun k => !((findL l k).map (·.ro)).getD true
def newN (g : Gr) (tx : Int) (ro : Bool) : Nd := ⟨tx, g.commits, 0, 0, ro, false, [], [], 0, none_, bsOf g.live⟩
def Gr.addN (g : Gr) (tx : Int) (ro : Bool) : Gr := { g with live := g.live ++ [newN g tx ro] }
def Gr.beginQ (g : Gr) (tx : Int) (ro : Bool) : Gr :=
  match findL g.nodes tx with
  | none => g.addN tx ro
  | some n => if n.state ≠ 0 ∨ n.ro = false ∨ ro = false then g else (g.abortQ tx).addN tx ro
theorem findL_no {l : List Nd} {k : Int} (h : ∀ n ∈ l, n.id ≠ k) : findL l k = none := by
  cases hf : findL l k with
  | none => rfl
  | some n => obtain ⟨h1, h2⟩ := findL_some hf; exact absurd h2 (h n h1)
theorem abortQ_out {g : Gr} {K : Nat} {ρ : Int → Raw} (hI : InvN K g ρ) {tx : Int} {n : Nd} (hf : findL g.nodes tx = some n) (hs : n.state ≠ 2) : findL (g.abortQ tx).nodes tx = none := by
  obtain ⟨hn, hid⟩ := findL_some hf
  have e : g.abortQ tx = (g.off n none none g.commits []).forgetG := by unfold Gr.abortQ; rw [hf]; dsimp only; rw [if_neg hs]
  rw [e]
  refine findL_no fun m hm => ?_
  rcases List.mem_append.1 hm with h | h
  · obtain ⟨x, h1, rfl⟩ := List.mem_map.1 h
    have := (restL_mem.1 h1).2
    rw [hid] at this; exact this
  · have h := (List.mem_filter.1 h).1
    have h : m ∈ g.ended ++ [] := h
    rw [List.append_nil] at h
    intro he
    have := hI.linv.uniq (List.mem_append_right _ h) hn (he.trans hid.symm)
    rw [this] at h
    exact hs (hI.en n h)
theorem addN_gok {K : Nat} {g : Gr} (hI : GOk K g) (hS : SymG g) (hK : K + 1 ≤ 4000) {tx : Int} {ro : Bool} (hno : findL g.nodes tx = none) : GOk (K + 1) (g.addN tx ro) ∧ SymG (g.addN tx ro) := by
  have hlv : ∀ m ∈ (g.addN tx ro).live, m ∈ g.live ∨ m = newN g tx ro := fun m hm => (List.mem_append.1 hm).imp id fun h => List.mem_singleton.1 h
  have hup : ∀ {k : Int}, (∃ m ∈ g.live, m.id = k) → ∃ m ∈ (g.addN tx ro).live, m.id = k := fun ⟨m, h1, h2⟩ => ⟨m, List.mem_append_left _ h1, h2⟩
  have hnl : ∀ m ∈ g.live, m.id ≠ tx := fun m hm => findL_none hno m (List.mem_append_left _ hm)
  have hsz := hI.sz
  refine ⟨⟨?_, ?_, hI.en, ?_, ?_, hI.em, ?_, ?_⟩, ?_⟩
  · show ((g.live ++ [newN g tx ro] ++ g.ended).map (·.id)).Nodup
    have h1 : (g.live ++ [newN g tx ro] ++ g.ended).Perm (newN g tx ro :: g.nodes) := by
      rw [List.append_assoc]; exact List.perm_middle
    rw [(h1.map _).nodup_iff, List.map_cons, List.nodup_cons]
    refine ⟨fun h => ?_, hI.nd⟩
    obtain ⟨m, h2, h3⟩ := List.mem_map.1 h
    exact findL_none hno m h2 h3
  · intro m hm; rcases hlv m hm with h | rfl
    · exact hI.lv m h
    · exact fun h => absurd (show (0 : Int) = 2 from h) (by decide)
  · intro m hm k hk; rcases hlv m hm with h | rfl
    · exact ⟨(hI.ci m h k hk).1, hup (hI.ci m h k hk).2⟩
    · cases hk
  · intro m hm k hk; rcases hlv m hm with h | rfl
    · exact ⟨(hI.co m h k hk).1, hup (hI.co m h k hk).2⟩
    · cases hk
  · intro m hm
    have : m ∈ g.nodes ∨ m = newN g tx ro := by
      rcases List.mem_append.1 hm with h | h
      · exact (hlv m h).imp (fun h => List.mem_append_left _ h) id
      · exact .inl (List.mem_append_right _ h)
    rcases this with h | rfl
    · have := hI.rg m h; omega
    · show 0 ≤ g.commits ∧ g.commits ≤ _ ∧ (0 : Int) ≤ 0 ∧ (0 : Int) ≤ _; omega
  · refine ⟨?_, hsz.2.1, ?_, hK⟩
    · show (g.live ++ [newN g tx ro]).length ≤ _; simp; omega
    · show g.commits ≤ _; omega
  · intro m hm k hk
    rcases hlv m hm with h | rfl
    · rcases hlv k hk with h2 | rfl
      · exact hS m h k h2
      · refine ⟨fun h3 => ?_, fun h3 => (by cases h3)⟩
        obtain ⟨x, h4, h5⟩ := (hI.ci m h _ h3).2
        exact absurd h5 (hnl x h4)
    · rcases hlv k hk with h2 | rfl
      · refine ⟨fun h3 => (by cases h3), fun h3 => ?_⟩
        obtain ⟨x, h4, h5⟩ := (hI.co k h2 _ h3).2
        exact absurd h5 (hnl x h4)
      · exact ⟨fun h3 => (by cases h3), fun h3 => (by cases h3)⟩
theorem keysL_tri {K : Nat} {g : Gr} {M : Mem} (hI : Inv K g M) : Tri Try.prog 31 #[.map (some M.lm)] [(M.lm, .map M.esl M.cl)] fun v L => ∃ B, SlI (sortI (g.live.map (·.id))) v B ∧ L = B ++ [(M.lm, .map M.esl M.cl)] := by
  have hsz := hI.n.sz
  have h := keys_tri hI.ml (by unfold mlist; rw [List.length_map]; omega) (m := M.lm)
  refine h.mono fun v L hp => ?_
  rcases hp with ⟨h1, h2, h3⟩ | ⟨nb, cap, zs, junk, h1, h2, h3, h4, h5, h6⟩
  · refine ⟨[], .inl ⟨?_, h2, rfl⟩, h3⟩
    have : g.live.map (·.id) = [] := by have := congrArg (List.map (·.1)) h1; rwa [mlist_keys] at this
    rw [this]; rfl
  · rw [mlist_keys] at h5
    have e := sortI_of h5 h6
    subst e
    refine ⟨[(nb, .cells ((sortI (g.live.map (·.id))).map (Value.int .i64) ++ junk).toArray 3)], .inr ⟨nb, cap, junk, ?_, h2, h4, rfl⟩, h3⟩
    intro h0
    have : g.live.map (·.id) = [] := by have := (sortI_perm (g.live.map (·.id))).symm; rw [h0] at this; exact List.Perm.eq_nil this
    exact h1 (by have := List.map_eq_nil_iff.1 this; unfold mlist; rw [this]; rfl)
/-- a graph in memory: with maps or without -/
def GRep (K : Nat) (g : Gr) (p : Nat) (L : List Blk) : Prop := (g = Gr.new g.most ∧ L = fblk p g.most) ∨ ∃ M, M.p = p ∧ L = blks g M ∧ Inv K g M ∧ SymG g
end Go.Proofs.Ytomgkmoecbnddaa
