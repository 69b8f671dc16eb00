/- Locks: slices.Sorted(maps.Keys(m)), as a contract over blocks. -/
import Derived.Test.YtbpioemenmahaaaQCb
import Derived.Test.YtbpioemenmahaaaQBa
set_option linter.unusedVariables false
set_option linter.unusedSimpArgs false
set_option linter.unnecessarySimpa false
namespace Go.Proofs.Ytbpioemenmahaaa
open Go.Sym

def fv (zs : List Int) : List (Int × Value) := zs.map fun z => (z, .bool true)
/-- a sorted list of these numbers, in a slice -/
def SortedL (zs : List Int) (pre : List Blk) (v : Value) (L : List Blk) : Prop :=
  ∃ ys : List Int, ys.Perm zs ∧ ys.Pairwise (· ≤ ·) ∧ ((ys = [] ∧ v = .slice none 0 0 ∧ L = pre) ∨ ∃ (g cap : Nat) (junk : List Value), v = .slice (some ⟨g, 0, none⟩) ys.length cap ∧ L = (g, .cells (ys.map (Value.int .i64) ++ junk).toArray 3) :: pre)
noncomputable abbrev RB4 : Value → Option (DataW Unit × List MemPlace) := Go.plainElem Try.prog 4
theorem hp_below {E : Env} {w w' : World} {L : List Blk} (h : HP E w L) (hb : RowKit.Below w.heap.size w w') : HP E w' L := ⟨by rw [hb.os, hb.output]; exact h.env, fun p hp => by rw [hb.block _ (h.lt hp)]; exact h.facts p hp, h.nodup⟩
theorem hp_new {E : Env} {w w' : World} {L : List Blk} (h : HP E w L) (hb : RowKit.Below w.heap.size w w') {g : Nat} {o : Obj} (hg : w.heap.size ≤ g) (ho : w'.heap[g]? = some o) : HP E w' ((g, o) :: L) := by
  have h1 := hp_below h hb
  refine ⟨h1.env, fun p hp => ?_, ?_⟩
  · rcases List.mem_cons.1 hp with rfl | hp
    · exact ho
    · exact h1.facts p hp
  · rw [List.map_cons, List.nodup_cons]
    refine ⟨fun hm => ?_, h1.nodup⟩
    obtain ⟨p, hp, e⟩ := List.mem_map.1 hm
    have := h.lt hp
    rw [e] at this
    omega
theorem ent_key {es : Array MapEntry} {c : Nat} {zs : List Int} (hM : MapOf (Value.int .i64) (fv zs) es c) : ∀ e ∈ es.toList, ∃ z ∈ zs, e.key = .int .i64 z ∧ e.val = .bool true := fun e he => by
  have h1 : (e.key, e.val) ∈ es.toList.map fun e => (e.key, e.val) := List.mem_map.2 ⟨e, he, rfl⟩
  rw [hM.ents] at h1
  unfold fv at h1
  rw [List.map_map] at h1
  obtain ⟨z, hz, hp⟩ := List.mem_map.1 h1
  injection hp with h2 h3
  exact ⟨z, hz, h2.symm, h3.symm⟩
theorem rg_ent {e : MapEntry} {z : Int} (hw : (Lit.int .i64 z).wf = true) (hk : e.key = .int .i64 z) (hv : e.val = .bool true) : WideElems.rd Try.prog 3 RB4 e = some (.int .i64 z, .lit (.bool true)) := by
  unfold WideElems.rd RB4
  rw [hk, hv, plainElem_bool Try.underlying4]
  simp [keyOf, Try.underlying3, mapKey, hw]
theorem map_inj : ∀ {l l' : List Int}, l.map (Value.int .i64) = l'.map (Value.int .i64) → l = l'
  | [], [], _ => rfl
  | [], _ :: _, h => by cases h
  | _ :: _, [], h => by cases h
  | a :: l, b :: l', h => by
    rw [List.map_cons, List.map_cons] at h
    injection h with h1 h2
    rw [ci_inj _ _ h1, map_inj h2]
theorem owns {w : World} {b : Nat} {es : Array MapEntry} {c : Nat} {zs : List Int} (hb : w.heap[b]? = some (.map es c)) (hM : MapOf (Value.int .i64) (fv zs) es c) (hw : ∀ z ∈ zs, (Lit.int .i64 z).wf = true) (hS : zs.length ≤ 1000000) :
    ∃ D, w.ownsMap Try.prog 3 RB4 b es.size D ∧ (intKeys D).Perm zs ∧ Maps.size D = zs.length := by
  have hsz : es.size = zs.length := by rw [hM.size]; simp [fv]
  have hrd : ∀ e ∈ es.toList, ∃ z, e.key = .int .i64 z ∧ WideElems.rd Try.prog 3 RB4 e = some (.int .i64 z, .lit (.bool true)) := fun e he => by
    obtain ⟨z, hz, h1, h2⟩ := ent_key hM e he
    exact ⟨z, h1, rg_ent (hw z hz) h1 h2⟩
  have hkeys : es.toList.map (·.key) = zs.map (Value.int .i64) := by
    rw [hM.keyMap]
    unfold fv
    rw [List.map_map]
    simp [Function.comp_def]
  have hn : zs.Nodup := by
    have := hM.keys
    unfold fv at this
    simpa [Function.comp_def] using this
  refine ⟨_, ⟨es, c, hb, ⟨by rw [hsz]; unfold maxLen; omega, ⟨hM.lt, hM.born, ?_⟩, fun x hx => ?_⟩, Nat.le_refl _, rfl⟩, ?_, ?_⟩
  · rw [hkeys]
    exact hn.map (Value.int .i64) fun a b hab e => hab (ci_inj _ _ e)
  · obtain ⟨z, _, h⟩ := hrd x hx
    exact ⟨_, h⟩
  · show (((es.toList.map (WideElems.rg Try.prog 3 RB4)).foldr DataW.insert []).map fun p => Go.intOf p.1).Perm zs
    have h1 := (WideShapes.sorted_perm (es.toList.map (WideElems.rg Try.prog 3 RB4))).map fun p => Go.intOf p.1
    refine h1.trans ?_
    rw [List.map_map]
    have h2 : es.toList.map ((fun p : Lit × DataW Unit => Go.intOf p.1) ∘ WideElems.rg Try.prog 3 RB4) = zs := by
      have h3 : (es.toList.map ((fun p : Lit × DataW Unit => Go.intOf p.1) ∘ WideElems.rg Try.prog 3 RB4)).map (Value.int .i64) = zs.map (Value.int .i64) := by
        rw [← hkeys, List.map_map]
        apply List.map_congr_left
        intro e he
        obtain ⟨z, hk, h⟩ := hrd e he
        simp [WideElems.rg, h, hk, Go.intOf]
      exact map_inj h3
    rw [h2]
  · show ((es.toList.map (WideElems.rg Try.prog 3 RB4)).foldr DataW.insert []).length = _
    rw [(WideShapes.sorted_perm (es.toList.map (WideElems.rg Try.prog 3 RB4))).length_eq]
    simp [hsz]
theorem sorted_tri {B b : Nat} {es : Array MapEntry} {c : Nat} {zs : List Int} (hM : MapOf (Value.int .i64) (fv zs) es c) (hw : ∀ z ∈ zs, (Lit.int .i64 z).wf = true) (hS : zs.length ≤ 1000000) :
    Tri Try.prog 50 #[.func (.func 69) #[] #[.pointer (some ⟨B, 0, none⟩)]] [(B, .cells [Value.map (some b)].toArray 88), (b, .map es c)] (SortedL zs [(B, .cells [Value.map (some b)].toArray 88), (b, .map es c)]) := .mk fun E R w hh => by
  have hB : w.heap[B]? = some (.cells [Value.map (some b)].toArray 88 (0, 0)) := hh.get (by simp)
  have hb : w.heap[b]? = some (.map es c) := hh.get (by simp)
  obtain ⟨D, hown, hperm, hsize⟩ := owns hb hM hw hS
  refine (Try.sortedKeys B b _ D RB4 w (Array.getElem?_eq_some_iff.1 hB).1 (by simp [World.cell?, hB]) hown (by rw [hsize]; unfold maxLen; omega) (by rw [hsize]; omega)).mono fun e w' ⟨v, ss, he, hss, hrow, hnil, hbel⟩ => ?_
  have hp2 : (ss.mergeSort fun x y => decide (x ≤ y)).Perm zs := (List.mergeSort_perm ss _).trans (hss.trans hperm)
  have hpw : (ss.mergeSort fun x y => decide (x ≤ y)).Pairwise (· ≤ ·) := by
    have := List.pairwise_mergeSort (le := fun (x y : Int) => decide (x ≤ y)) (fun a b c h1 h2 => by simp at *; omega) (fun a b => by simp; omega) ss
    exact this.imp fun h => by simpa using h
  obtain ⟨hlen, ⟨hv, h0⟩ | ⟨g, cap, cur, hv, hg, hgo, _, _, _, htake⟩⟩ := hrow
  · have hs : ss = [] := hnil.1 hv
    subst hs
    exact ⟨v, _, he, ⟨_, hp2, hpw, .inl ⟨by simp, hv, rfl⟩⟩, hp_below hh hbel⟩
  · refine ⟨v, _, he, ⟨_, hp2, hpw, .inr ⟨g, cap, cur.toList.drop (ss.length * 1), by rw [hv]; simp, rfl⟩⟩, ?_⟩
    refine hp_new hh hbel hg ?_
    have e1 : (ss.mergeSort fun x y => decide (x ≤ y)).map (Value.int .i64) ++ cur.toList.drop (ss.length * 1) = cur.toList := by
      have : (ss.mergeSort fun x y => decide (x ≤ y)).map (Value.int .i64) = cur.toList.take (ss.length * 1) := htake.symm
      rw [this, List.take_append_drop]
    rw [e1]
    simpa using hgo
end Go.Proofs.Ytbpioemenmahaaa
