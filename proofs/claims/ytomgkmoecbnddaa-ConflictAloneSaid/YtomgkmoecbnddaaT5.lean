/- Conflict: the store of ConflictAlone: moves of one transaction. -/
import Derived.Test.YtomgkmoecbnddaaT4
set_option linter.unusedVariables false
set_option linter.unusedSimpArgs false
set_option linter.unnecessarySimpa false
namespace Go.Proofs.Ytomgkmoecbnddaa
open Go.Sym

/-- a graph that nobody runs in -/
def gI (c : Int) : Gr := ⟨2, c, [], []⟩
def nR (c tx : Int) (ro : Bool) : Nd := ⟨tx, c, 0, 0, ro, false, [], [], 0, none_, []⟩
def gR (c tx : Int) (ro : Bool) : Gr := ⟨2, c, [nR c tx ro], []⟩
theorem gI_begin (c tx : Int) (ro : Bool) : (gI c).beginQ tx ro = gR c tx ro := rfl
theorem gR_find (c tx : Int) (ro : Bool) : findL (gR c tx ro).nodes tx = some (nR c tx ro) := by
  show List.find? _ [nR c tx ro] = _
  rw [List.find?_cons]
  simp [nR]
theorem gR_doomed (c tx : Int) (ro : Bool) : (gR c tx ro).isDoomed tx = false := by
  unfold Gr.isDoomed; rw [gR_find]; rfl
theorem gR_check (c tx : Int) (ro : Bool) : (gR c tx ro).checkQ tx = (0, ((gR c tx ro).doomV []).upd (at1 tx) setAsk) := by
  unfold Gr.checkQ
  rw [gR_find]
  dsimp only
  rw [if_neg (by simp [nR]), if_neg (by simp [nR])]
  have : chkL (gR c tx ro).nodes (nR c tx ro) = [] := rfl
  rw [this, if_neg (by simp)]
theorem gR_commit (c tx : Int) (ro : Bool) (h0 : 0 ≤ c ∧ c ≤ 1000) : ((gR c tx ro).checkQ tx).2.commitQ tx = gI (c + 1) := by
  rw [gR_check, doomV_nil]
  have e : (gR c tx ro).upd (at1 tx) setAsk = ⟨2, c, [{ nR c tx ro with state := 1 }], []⟩ := by
    unfold Gr.upd updL gR
    simp [at1, nR, setAsk]
  show Gr.commitQ ((gR c tx ro).upd (at1 tx) setAsk) tx = _
  rw [e]
  unfold Gr.commitQ
  have hf : findL (Gr.nodes ⟨2, c, [{ nR c tx ro with state := 1 }], []⟩) tx = some { nR c tx ro with state := 1 } := by
    show List.find? _ [({ nR c tx ro with state := 1 } : Nd)] = _
    rw [List.find?_cons]
    simp [nR]
  rw [hf]
  dsimp only
  rw [if_neg (by simp)]
  unfold Gr.doneG Gr.off Gr.forgetG leastB gI
  have e2 : restL [({ nR c tx ro with state := 1 } : Nd)] ({ nR c tx ro with state := 1 } : Nd).id = [] := by
    unfold restL; simp
  simp only [e2, List.map_nil, List.nil_append, List.foldl_nil, doneN, List.filter_cons, List.filter_nil]
  rw [if_neg]
  · unfold none_; simp; omega
theorem GRep.mono {K K' : Nat} {g : Gr} {p : Nat} {L : List Blk} (h : GRep K g p L) (hk : K ≤ K') (h4 : K' ≤ 4000) : GRep K' g p L := by
  rcases h with h | ⟨M, h1, h2, h3, h5⟩
  · exact .inl h
  · exact .inr ⟨M, h1, h2, ⟨invN_of ⟨h3.n.nd, h3.n.lv, h3.n.en, h3.n.ci, h3.n.co, h3.n.em, fun n hn => by have := h3.n.rg n hn; omega, by have := h3.n.sz; omega⟩ h3.n.linv, h3.ml, h3.me⟩, h5⟩
theorem SOk.mono {N N' : Nat} {F : Nat → Value} {st : Nat → Int} {od : List Int} {vz : Nat → List Int} {VB : Nat → List Blk} {rs : List (Int × Int × Int)} {RB OB : List Blk} (h : SOk N F st od vz VB rs RB OB) (hn : N ≤ N') : SOk N' F st od vz VB rs RB OB :=
  ⟨fun k hk => ⟨(h.v k hk).1, Nat.le_trans (h.v k hk).2 hn⟩, ⟨h.r.1, Nat.le_trans h.r.2.1 hn, h.r.2.2⟩, h.a, h.w, h.s, h.n, ⟨h.o.1, Nat.le_trans h.o.2 hn⟩⟩
def mvcells (ms : List (Int × Int × Int)) : List Value := ms.flatMap fun m => [.int .u8 m.1, .int .u8 m.2.1, .int .u8 m.2.2]
theorem mv_len (ms : List (Int × Int × Int)) : (mvcells ms).length = ms.length * 3 := by
  unfold mvcells
  induction ms with
  | nil => rfl
  | cons s S ih => simp only [List.flatMap_cons, List.length_append, ih, List.length_cons, List.length_nil]; omega
theorem mv_nth (junk : List Value) : ∀ {ms : List (Int × Int × Int)} {i : Nat} (h : i < ms.length), (mvcells ms ++ junk)[0 + i * 3 + 0]? = some (.int .u8 ms[i].1) ∧ (mvcells ms ++ junk)[0 + i * 3 + 1]? = some (.int .u8 ms[i].2.1) ∧ (mvcells ms ++ junk)[0 + i * 3 + 2]? = some (.int .u8 ms[i].2.2)
  | r :: rs, 0, _ => ⟨rfl, rfl, rfl⟩
  | r :: rs, i + 1, h => by
    have ih := mv_nth junk (ms := rs) (i := i) (by simpa using h)
    have e : ∀ j, (mvcells (r :: rs) ++ junk)[0 + (i + 1) * 3 + j]? = (mvcells rs ++ junk)[0 + i * 3 + j]? := fun j => by
      have e1 : mvcells (r :: rs) ++ junk = .int .u8 r.1 :: .int .u8 r.2.1 :: .int .u8 r.2.2 :: (mvcells rs ++ junk) := rfl
      rw [e1, show 0 + (i + 1) * 3 + j = (0 + i * 3 + j) + 1 + 1 + 1 by omega]
      rfl
    rw [e, e, e]
    exact ih
end Go.Proofs.Ytomgkmoecbnddaa
