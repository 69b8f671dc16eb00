/- RdE: an oracle: the keys of a map of ints, sorted, in a new slice. -/
import Derived.Test.YtomgkmoecbnddaaRdC
import Derived.Sort.Grow
set_option linter.unusedVariables false
set_option linter.unusedSimpArgs false
set_option linter.unnecessarySimpa false
namespace Go.Rc
open Go Go.Sym
section
variable {P : Program}
noncomputable def insK (a : Nat) (l : V) : (V → Bool) → Bool := @V.rec (fun _ => (V → Bool) → Bool) (fun k => k (vCons (vInt 3 a) .n)) (fun _ _ _ _ _ v r _ ih k => onInt 3 v fun b => bi (Nat.ble a b) (k (vCons (vInt 3 a) (vCons v r))) (ih fun q => k (vCons v q))) l
noncomputable def sortK (l : V) : (V → Bool) → Bool := @V.rec (fun _ => (V → Bool) → Bool) (fun k => k .n) (fun _ a _ _ _ _ _ _ ih k => bi (Nat.blt a 9223372036854775808) (fN a fun a' => ih fun q => insK a' q k) false) l
/-- the keys, sorted, in a new slice -/
noncomputable def keysOut (et : Nat) (es : V) (h : Hp) (k : K1) : Bool := sortK es fun ks => onL ks (k (vNil 1) h) fun _ _ => lenK ks 0 fun n => bi (Nat.ble n 4096) (hnew h (.o 2 et .h ks) fun nb h' => k (vSl nb 0 n 0) h') false
/-- g: given a pointer to a struct of sz cells with a map of ints at the cell off; element type et -/
noncomputable def orcKeys (p : Pos) (sz off et : Nat) : Orc := fun g args h k d => bi (g.eq p) (onL args d fun v r => onL r (onPtr v fun q o =>
  bi (Nat.beq o 0) (hget h q fun a => onO a fun t _ _ l => bi (Nat.beq t 1) (lenK l 0 fun s => bi (Nat.beq s sz) (nthK l off fun m => onMap 3 m h fun _ es => keysOut et es h k) false) false) false) fun _ _ => d) d
/-- g: given the map itself, or nil -/
noncomputable def orcMapKeys (p : Pos) (et : Nat) : Orc := fun g args h k d => bi (g.eq p) (onL args d fun v r => onL r (isNilV 2 v (k (vNil 1) h) (onMap 3 v h fun _ es => keysOut et es h k)) fun _ _ => d) d
def natV (a : Nat) : Value := .int .i64 (a : Int)
inductive NatL : V → List Nat → Prop
  | nil : NatL .n []
  | cons {t a b d p a' d' p' l' r' r l} (ha : a' < 9223372036854775808) (h : NatL r l) : NatL (.c t a b d p (.c 1 a' 3 d' p' l' r') r) (a' :: l)
theorem NatL.rel {l : V} {ns : List Nat} (h : NatL l ns) (σ : Sg) : RelL σ l (ns.map natV) := by
  induction h with
  | nil => exact .nil
  | cons ha _ ih => exact .cons (.int (q := .i64) rfl (by show _ < 18446744073709551616; omega) (wrap_small (q := .i64) ha).symm) ih
theorem insK_t {a : Nat} (ha : a < 9223372036854775808) : ∀ {l : V} {ns : List Nat}, NatL l ns → ns.Pairwise (· ≤ ·) → ∀ {k : V → Bool}, insK a l k = true → ∃ q zs, k q = true ∧ NatL q zs ∧ zs.Pairwise (· ≤ ·) ∧ zs.Perm (a :: ns) := by
  intro l ns h
  induction h with
  | nil => intro _ k e; exact ⟨_, [a], e, .cons ha .nil, by simp, .refl _⟩
  | cons hb hr ih =>
    intro hs k e
    obtain ⟨b2, d2, p2, l2, r2, hv, e1⟩ := onInt_t (q := 3) e
    injection hv with _ q1 _ _ _ _ _
    subst q1
    rw [List.pairwise_cons] at hs
    rcases bi_t e1 with ⟨h1, e2⟩ | ⟨h1, e2⟩
    · have h1 := ble_t h1
      refine ⟨_, _, e2, .cons ha (.cons hb hr), ?_, .refl _⟩
      rw [List.pairwise_cons]
      refine ⟨fun x hx => ?_, by rw [List.pairwise_cons]; exact hs⟩
      rcases List.mem_cons.1 hx with rfl | hx
      · exact h1
      · exact Nat.le_trans h1 (hs.1 x hx)
    · have h1 := ble_f h1
      obtain ⟨q, zs, e3, h3, h4, h5⟩ := ih hs.2 e2
      refine ⟨_, _, e3, .cons hb h3, ?_, (h5.cons _).trans (.swap _ _ _)⟩
      rw [List.pairwise_cons]
      refine ⟨fun x hx => ?_, h4⟩
      rcases List.mem_cons.1 (h5.mem_iff.1 hx) with rfl | hx
      · omega
      · exact hs.1 x hx
theorem sortK_t {σ : Sg} {l : V} {ml : List (Int × Value)} (h : RelM σ .i64 l ml) : ∀ {k : V → Bool}, sortK l k = true → ∃ q zs, k q = true ∧ NatL q zs ∧ zs.Pairwise (· ≤ ·) ∧ (zs.map fun a : Nat => (a : Int)).Perm (ml.map (·.1)) := by
  induction h with
  | nil => intro k e; exact ⟨_, [], e, .nil, .nil, .refl _⟩
  | cons hb ha hz hk hv _ ih =>
    rename_i a b d p kv v r z x l t' a' b' d' p' _
    intro k e
    have e : bi (Nat.blt a 9223372036854775808) (fN a fun a' => sortK r fun q => insK a' q k) false = true := e
    obtain ⟨h1, e1⟩ := bi_f e
    have h1 := blt_t h1
    rw [fN_eq] at e1
    obtain ⟨q, zs, e2, h2, h3, h4⟩ := ih e1
    obtain ⟨q', zs', e3, h5, h6, h7⟩ := insK_t h1 h2 h3 e2
    refine ⟨q', zs', e3, h5, h6, ?_⟩
    have h8 := h7.map fun a : Nat => (a : Int)
    simp only [List.map_cons] at h8 ⊢
    rw [hz, wrap_small (q := .i64) h1]
    exact h8.trans (h4.cons _)
theorem sorted_eq : ∀ {a b : List Int}, a.Perm b → a.Pairwise (· ≤ ·) → b.Pairwise (· ≤ ·) → a = b
  | [], b, h, _, _ => by rw [h.nil_eq]
  | x :: a, [], h, _, _ => by have := h.length_eq; simp at this
  | x :: a, y :: b, h, ha, hb => by
    rw [List.pairwise_cons] at ha hb
    have hxy : x = y := by
      have h1 : x ∈ y :: b := h.mem_iff.1 (List.mem_cons_self ..)
      have h2 : y ∈ x :: a := h.mem_iff.2 (List.mem_cons_self ..)
      rcases List.mem_cons.1 h1 with h1 | h1
      · exact h1
      · rcases List.mem_cons.1 h2 with h2 | h2
        · exact h2.symm
        · have := ha.1 y h2
          have := hb.1 x h1
          omega
    subst hxy
    rw [sorted_eq ((List.perm_cons _).1 h) ha.2 hb.2]
theorem keysOut_ok {E : Env} {R : List Blk} {σ : Sg} {h : Hp} {w : World} {k : K1} {et : Nat} {ag : Bool} (H : HR P E R σ h w) (hT : tyOf P et = some (ag, 1)) {l : V} {ml : List (Int × Value)} (hR : RelM σ .i64 l ml) (e7 : keysOut et l h k = true) :
    ml.length ≤ 4096 ∧ ∀ (e : Ending) (w' : World), Grew w w' → ((ml = [] ∧ e = .returned (.slice none 0 0)) ∨ ∃ (nb cap : Nat) (zs : List Int) (junk : List Value), ml ≠ [] ∧ e = .returned (.slice (some ⟨nb, 0, none⟩) zs.length cap) ∧ w.heap.size ≤ nb ∧
        w'.heap[nb]? = some (.cells (zs.map (Value.int .i64) ++ junk).toArray et (0, 0)) ∧ (zs.map (Value.int .i64) ++ junk).length = cap ∧ zs.Perm (ml.map (·.1)) ∧ zs.Pairwise (· ≤ ·)) → ∃ x, e = .returned x ∧ Good P E R σ h w k x w' := by
  have e7 : (sortK l fun ks => onL ks (k (vNil 1) h) fun _ _ => lenK ks 0 fun n => bi (Nat.ble n 4096) (hnew h (.o 2 et .h ks) fun nb h' => k (vSl nb 0 n 0) h') false) = true := e7
  obtain ⟨q2, zs, e8, h1, h2, h3⟩ := sortK_t hR e7
  have hlive : ∀ p c', Live h p → ∀ nb, w.heap.size ≤ nb → σ p ≠ some (nb, c') := fun p c' hl nb hnb e => by
    have := H.lt hl e
    omega
  have hml : ml.length ≤ 4096 := by
    have h5 := h3.length_eq
    simp only [List.length_map] at h5
    rcases onL_t e8 with ⟨rfl, _⟩ | ⟨_, _, _, _, _, _, _, rfl, e9⟩
    · cases h1
      simp at h5
      omega
    · obtain ⟨n, e10, hn2⟩ := lenK_t e9
      obtain ⟨h6, _⟩ := bi_f e10
      have h6 := ble_t h6
      have h7 := hn2 (fun _ => none) _ (h1.rel _)
      simp at h7
      omega
  refine ⟨hml, fun e w' g hres => ?_⟩
  rcases hres with ⟨rfl, rfl⟩ | ⟨nb, cap, zs', junk', hne, rfl, hnb, hblk, hlen, hperm, hsort⟩
  · have hz : zs = [] := by
      have := h3.length_eq
      simpa using this
    subst hz
    cases h1
    exact ⟨_, rfl, _, σ, h, e8, .nils, Step.grew H g⟩
  · have hs2 : (zs.map fun a : Nat => (a : Int)).Pairwise (· ≤ ·) := by
      rw [List.pairwise_map]
      exact h2.imp fun h => by omega
    have hzz := sorted_eq (hperm.trans h3.symm) hsort hs2
    subst hzz
    rcases onL_t e8 with ⟨rfl, _⟩ | ⟨_, _, _, _, _, _, _, rfl, e9⟩
    · cases h1
      exact absurd (by simpa using h3.symm.length_eq) (fun h => hne (List.eq_nil_of_length_eq_zero h))
    · obtain ⟨n, e10, hn2⟩ := lenK_t e9
      obtain ⟨_, e10⟩ := bi_f e10
      rw [hnew_eq] at e10
      have hn3 : n = zs.length := by
        have := hn2 (fun _ => none) _ (h1.rel _)
        simpa using this
      subst hn3
      have s1 := Step.grew H g
      have hrel : (zs.map fun a : Nat => (a : Int)).map (Value.int .i64) = zs.map natV := by simp [natV, Function.comp_def]
      have s2 := Step.adopt (w' := w') (b := nb) (c := .c cap) (ao := .o 2 et .h _) s1.hr hblk (fun _ _ => rfl) rfl (fun p c' hl => hlive p c' hl nb hnb) (fun x hx => by have := H.frame_lt hx; omega)
        (.opn (by rw [hrel]; exact h1.rel _) hT (by rw [hlen]; simp))
      have hcap : zs.length ≤ cap := by
        rw [← hlen]
        simp
      refine ⟨_, rfl, _, _, _, e10, ?_, s1.trans s2⟩
      have hl2 : (zs.map fun a : Nat => (a : Int)).length = zs.length := by simp
      rw [hl2]
      exact .sl (upS_self _ _ _) hcap (.inr ⟨rfl, fun _ => rfl⟩)
theorem orcKeys_ok {g sz off et : Nat} {fn : Func} {c : Code} {ag : Bool} (hf : P.funcs[g]? = some fn) (hb : fn.body = some c) (hn : (fn.name == "runtime.NumGoroutine") = false) (hT : tyOf P et = some (ag, 1))
    (hr : ∀ (tb mb : Nat) (cl : List Value) (t : TypeId) (es : Array MapEntry) (clock : Nat) (ml : List (Int × Value)) (w : World), w.heap[tb]? = some (.cells cl.toArray t (0, 0)) → cl.length = sz → cl[off]? = some (.map (some mb)) → w.heap[mb]? = some (.map es clock) → MapOf (Value.int .i64) ml es clock → ml.length ≤ 4096 →
      Calls P g #[.pointer (some ⟨tb, 0, none⟩)] w fun e w' => Grew w w' ∧ ((ml = [] ∧ e = .returned (.slice none 0 0)) ∨ ∃ (nb cap : Nat) (zs : List Int) (junk : List Value), ml ≠ [] ∧ e = .returned (.slice (some ⟨nb, 0, none⟩) zs.length cap) ∧ w.heap.size ≤ nb ∧
        w'.heap[nb]? = some (.cells (zs.map (Value.int .i64) ++ junk).toArray et (0, 0)) ∧ (zs.map (Value.int .i64) ++ junk).length = cap ∧ zs.Perm (ml.map (·.1)) ∧ zs.Pairwise (· ≤ ·))) : OrcOk P (orcKeys (posOf g) sz off et) := fun g' args h k d e => by
  rcases bi_t e with ⟨h0, e1⟩ | ⟨_, e1⟩
  case inr => exact .inl e1
  have h0 := (Pos.eq_iff _ _).1 h0
  subst h0
  rcases onL_t e1 with ⟨_, e2⟩ | ⟨_, _, _, _, _, v, r, rfl, e2⟩
  · exact .inl e2
  rcases onL_t e2 with ⟨rfl, e3⟩ | ⟨_, _, _, _, _, _, _, _, e3⟩
  case inr => exact .inl e3
  refine .inr ⟨g, rfl, run_enterF hf hb hn, fun E R σ w vals H hv => ?_⟩
  obtain ⟨x, xl, rfl, hx, hxl⟩ := hv.c
  rw [hxl.n]
  obtain ⟨o, _, _, q, _, _, rfl, e4⟩ := onPtr_t e3
  obtain ⟨tb, gc, rfl, hs⟩ := hx.c2
  obtain ⟨ho, e4⟩ := bi_f e4
  have ho := beq_t ho
  subst ho
  obtain ⟨ct, ce, cq, cl, hat, e4⟩ := onO_t (hget_t e4)
  obtain ⟨hct, e4⟩ := bi_f e4
  have hct := beq_t hct
  subst hct
  obtain ⟨sz', e4, hlen0⟩ := lenK_t e4
  obtain ⟨hsz, e5⟩ := bi_f e4
  have hsz := beq_t hsz
  subst hsz
  obtain ⟨m, e6, hm⟩ := nthK_t e5
  obtain ⟨_, _, _, pm, _, _, mk, es, rfl, hatm, e7⟩ := onMap_t e6
  obtain ⟨b1, c1, vl, junk, hl, hs1, hw, hrl, hj0, _⟩ := H.cells (.inl rfl) hat
  obtain rfl := hj0 rfl
  rw [List.append_nil] at hw
  rw [hs] at hs1
  injection hs1 with hs1
  injection hs1 with hs1 _
  subst hs1
  have hlen1 := hlen0 σ vl hrl
  obtain ⟨xm, hxm, hrm⟩ := hm σ vl hrl
  obtain ⟨mb, gm, rfl, hsm⟩ := hrm.c5
  obtain ⟨b2, c2, es2, clock, hl2, hs2, hw2, hdata⟩ := H.map hatm
  rw [hsm] at hs2
  injection hs2 with hs2
  injection hs2 with hs2 _
  subst hs2
  rcases hdata with ⟨qk, ml, hke, hM, hR⟩ | ⟨_, h8, _⟩
  case inr => exact absurd h8 (by decide)
  obtain rfl := kc_inj (q := .i64) (q' := qk) hke
  obtain ⟨hml, hout⟩ := keysOut_ok H hT hR e7
  exact (hr tb mb _ _ _ _ ml w hw (by omega) hxm hw2 hM hml).mono fun e w' ⟨g, hres⟩ => hout e w' g hres
theorem orcMapKeys_ok {g et : Nat} {fn : Func} {c : Code} {ag : Bool} (hf : P.funcs[g]? = some fn) (hb : fn.body = some c) (hn : (fn.name == "runtime.NumGoroutine") = false) (hT : tyOf P et = some (ag, 1))
    (hr0 : ∀ w : World, Calls P g #[.map none] w fun e w' => Grew w w' ∧ e = .returned (.slice none 0 0))
    (hr : ∀ (mb : Nat) (es : Array MapEntry) (clock : Nat) (ml : List (Int × Value)) (w : World), w.heap[mb]? = some (.map es clock) → MapOf (Value.int .i64) ml es clock → ml.length ≤ 4096 →
      Calls P g #[.map (some mb)] w fun e w' => Grew w w' ∧ ((ml = [] ∧ e = .returned (.slice none 0 0)) ∨ ∃ (nb cap : Nat) (zs : List Int) (junk : List Value), ml ≠ [] ∧ e = .returned (.slice (some ⟨nb, 0, none⟩) zs.length cap) ∧ w.heap.size ≤ nb ∧
        w'.heap[nb]? = some (.cells (zs.map (Value.int .i64) ++ junk).toArray et (0, 0)) ∧ (zs.map (Value.int .i64) ++ junk).length = cap ∧ zs.Perm (ml.map (·.1)) ∧ zs.Pairwise (· ≤ ·))) : OrcOk P (orcMapKeys (posOf g) et) := fun g' args h k d e => by
  rcases bi_t e with ⟨h0, e1⟩ | ⟨_, e1⟩
  case inr => exact .inl e1
  have h0 := (Pos.eq_iff _ _).1 h0
  subst h0
  rcases onL_t e1 with ⟨_, e2⟩ | ⟨_, _, _, _, _, v, r, rfl, e2⟩
  · exact .inl e2
  rcases onL_t e2 with ⟨rfl, e3⟩ | ⟨_, _, _, _, _, _, _, _, e3⟩
  case inr => exact .inl e3
  refine .inr ⟨g, rfl, run_enterF hf hb hn, fun E R σ w vals H hv => ?_⟩
  obtain ⟨x, xl, rfl, hx, hxl⟩ := hv.c
  rw [hxl.n]
  rcases isNil_t e3 with ⟨_, _, _, _, _, rfl, e4⟩ | ⟨_, _, _, _, _, _, _, _, _, e4⟩
  · obtain rfl : x = .map none := by simpa using hx.c3
    exact (hr0 w).mono fun e w' ⟨g, he⟩ => ⟨_, he, _, σ, h, e4, .nils, Step.grew H g⟩
  · obtain ⟨_, _, _, pm, _, _, mk, es, rfl, hatm, e7⟩ := onMap_t e4
    obtain ⟨mb, gm, rfl, hsm⟩ := hx.c5
    obtain ⟨b2, c2, es2, clock, hl2, hs2, hw2, hdata⟩ := H.map hatm
    rw [hsm] at hs2
    injection hs2 with hs2
    injection hs2 with hs2 _
    subst hs2
    rcases hdata with ⟨qk, ml, hke, hM, hR⟩ | ⟨_, h8, _⟩
    case inr => exact absurd h8 (by decide)
    obtain rfl := kc_inj (q := .i64) (q' := qk) hke
    obtain ⟨hml, hout⟩ := keysOut_ok H hT hR e7
    exact (hr mb _ _ ml w hw2 hM hml).mono fun e w' ⟨g, hres⟩ => hout e w' g hres
end
/-! ### from a triple over all blocks of a world -/
theorem allB_nodup (w : World) : ((allB w).map (·.1)).Nodup := by
  have h : (allB w).map (·.1) = (List.range w.heap.size).filter fun i => (w.heap[i]?).isSome := by
    unfold allB
    generalize List.range w.heap.size = l
    induction l with
    | nil => rfl
    | cons a l ih =>
      rw [List.filterMap_cons, List.filter_cons]
      cases w.heap[a]? with
      | none => simpa using ih
      | some o => simpa using ih
  rw [h]
  exact List.Pairwise.filter _ List.nodup_range
theorem hp_allB {w : World} : HP (w.os, w.output) w (allB w) := ⟨rfl, fun p hp => mem_allB.1 hp, allB_nodup w⟩
theorem allB_two {w : World} {a b : Nat} {oa ob : Obj} (ha : w.heap[a]? = some oa) (hb : w.heap[b]? = some ob) (hne : a ≠ b) : ∃ R, (allB w).Perm ([(a, oa), (b, ob)] ++ R) := by
  have h1 : (a, oa) ∈ allB w := mem_allB.2 ha
  have h2 : (b, ob) ∈ allB w := mem_allB.2 hb
  obtain ⟨s, t, e⟩ := List.append_of_mem h1
  have hp1 : (allB w).Perm ((a, oa) :: (s ++ t)) := by rw [e]; exact List.perm_middle
  have h3 : (b, ob) ∈ s ++ t := by
    rcases List.mem_cons.1 (hp1.mem_iff.1 h2) with h | h
    · injection h with h _
      exact absurd h.symm hne
    · exact h
  obtain ⟨s2, t2, e2⟩ := List.append_of_mem h3
  refine ⟨s2 ++ t2, hp1.trans (List.Perm.cons _ ?_)⟩
  rw [e2]
  exact List.perm_middle
theorem allB_one {w : World} {a : Nat} {oa : Obj} (ha : w.heap[a]? = some oa) : ∃ R, (allB w).Perm ([(a, oa)] ++ R) := by
  obtain ⟨s, t, e⟩ := List.append_of_mem (mem_allB.2 ha : (a, oa) ∈ allB w)
  exact ⟨s ++ t, by rw [e]; exact List.perm_middle⟩
theorem grew_of_hp {w w' : World} {pre R L : List Blk} (hR : (allB w).Perm (pre ++ R)) (hh : HP (w.os, w.output) w' (L ++ R)) (hs : ∀ x ∈ pre, x ∈ L) : Grew w w' :=
  ⟨hh.env, fun i o ho => by
    rcases List.mem_append.1 (hR.mem_iff.1 (mem_allB.2 ho : (i, o) ∈ allB w)) with h | h
    · exact hh.get (List.mem_append_left _ (hs _ h))
    · exact hh.get (List.mem_append_right _ h)⟩
theorem new_of_hp {w w' : World} {pre R : List Blk} {nb : Nat} {o : Obj} (hR : (allB w).Perm (pre ++ R)) (hh : HP (w.os, w.output) w' (((nb, o) :: pre) ++ R)) : w.heap.size ≤ nb := by
  rcases Nat.lt_or_ge nb w.heap.size with h | h
  · have hn := hh.nodup
    rw [List.cons_append, List.map_cons, List.nodup_cons] at hn
    refine absurd ?_ hn.1
    have h1 : (nb, w.heap[nb]) ∈ allB w := mem_allB.2 (Array.getElem?_eq_getElem h)
    exact List.mem_map.2 ⟨_, hR.mem_iff.1 h1, rfl⟩
  · exact h
/-! ### slices.Sort over ints: from the library's contract -/
section
open Go.Sort
theorem sort_tri {P : Program} {f : FuncId} (hsort : ∀ (blk off cap : Nat) (zs : List Int) (w : World), Holds (Value.int .i64) w blk off zs.toArray → blk < w.heap.size → zs.length < 4611686018427387904 →
      Calls P f #[.slice (some ⟨blk, off, none⟩) zs.length cap] w fun e w' => e = .returned (.tuple #[]) ∧ ∃ n os, w' = grow (putRow (Value.int .i64) (Sort.ahead w n) blk off (zs.mergeSort fun x y => decide (x ≤ y)).toArray) os)
    {b cap : Nat} {et : TypeId} {zs : List Int} {junk : List Value} (hz : zs.length < 4611686018427387904) :
    Tri P f #[.slice (some ⟨b, 0, none⟩) zs.length cap] [(b, .cells (zs.map (Value.int .i64) ++ junk).toArray et)] fun v L => v = .tuple #[] ∧ L = [(b, .cells ((zs.mergeSort fun x y => decide (x ≤ y)).map (Value.int .i64) ++ junk).toArray et)] := .mk fun E R w hh => by
  have hb : w.heap[b]? = some (.cells (zs.map (Value.int .i64) ++ junk).toArray et (0, 0)) := hh.get (by simp)
  have hlt := (Array.getElem?_eq_some_iff.1 hb).1
  have hH : Holds (Value.int .i64) w b 0 zs.toArray := fun j hj => by
    have hj : j < zs.length := by simpa using hj
    refine ⟨?_, ?_⟩
    · rw [Nat.zero_add, cell_of hb, List.getElem?_append_left (by simpa using hj), List.getElem?_map, List.getElem?_eq_getElem hj]
      simp [hj]
    · simp [World.frozen?, hb]
  refine (hsort b 0 cap zs w hH hlt hz).mono fun e w' ⟨he, n, os, hw⟩ => ⟨_, _, he, ⟨rfl, rfl⟩, ?_⟩
  subst hw
  have hlen : (zs.mergeSort fun x y => decide (x ≤ y)).length = zs.length := by simp
  generalize hm : (zs.mergeSort fun x y => decide (x ≤ y)) = ms at hlen ⊢
  have hput : putCells (Value.int .i64) 0 ms.toArray (zs.map (Value.int .i64) ++ junk).toArray = (ms.map (Value.int .i64) ++ junk).toArray := by
    apply Array.ext_getElem?
    intro k
    simp only [putCells, Array.getElem?_mapIdx, List.getElem?_toArray, List.size_toArray, Nat.zero_le, true_and, Nat.zero_add, Nat.sub_zero]
    by_cases hk : k < zs.length
    · rw [List.getElem?_append_left (by simpa using hk), List.getElem?_append_left (by simp; omega), List.getElem?_map, List.getElem?_map, List.getElem?_eq_getElem hk, List.getElem?_eq_getElem (by omega)]
      simp only [Option.map_some]
      rw [if_pos (by omega)]
      congr 1
      simp [show k < ms.length by omega]
    · rw [List.getElem?_append_right (by simp; omega), List.getElem?_append_right (by simp; omega)]
      simp only [List.length_map, hlen]
      cases junk[k - zs.length]? with
      | none => rfl
      | some y => simp only [Option.map_some]; rw [if_neg (by omega)]
  have hnew : (grow (putRow (Value.int .i64) (Sort.ahead w n) b 0 ms.toArray) os).heap[b]? = some (.cells (ms.map (Value.int .i64) ++ junk).toArray et (0, 0)) := by
    rw [heap_grow_old _ _ (by simpa [putRow, mapBlock, Sort.ahead] using hlt)]
    simp only [putRow, mapBlock, Sort.ahead, Array.getElem?_modify, if_true, hb, Option.map_some, onCells]
    rw [hput]
  refine hh.turn Turn.here rfl hnew fun k hk hks => ?_
  rw [heap_grow_old _ _ (by simpa [putRow, mapBlock, Sort.ahead] using hks)]
  simp only [putRow, mapBlock, Sort.ahead, Array.getElem?_modify]
  rw [if_neg (Ne.symm hk)]
end
end Go.Rc
