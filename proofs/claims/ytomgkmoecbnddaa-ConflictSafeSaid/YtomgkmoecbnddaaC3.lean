/- Conflict: forget, an oracle. -/
import Derived.Test.YtomgkmoecbnddaaC2
set_option linter.unusedVariables false
set_option linter.unusedSimpArgs false
set_option linter.unnecessarySimpa false
namespace Go.Proofs.Ytomgkmoecbnddaa
open Go.Rc Go.Sym

/-- a node: when it began (cell 1), its number (cell 3) -/
noncomputable def nodeK (h : Hp) (v : V) (c : Nat → Nat → Bool) : Bool := onPtr v fun q o => bi (Nat.beq o 0) (hget h q fun a => onO a fun t _ _ l => bi (Nat.beq t 1) (lenK l 0 fun n => bi (Nat.beq n 11) (nthK l 1 fun b => onInt 3 b fun b => nthK l 3 fun s => onInt 3 s fun s => bi (Nat.blt b 9223372036854775808) (bi (Nat.blt s 9223372036854775808) (c b s) false) false) false) false) false
noncomputable def leastK (h : Hp) (es : V) : Nat → (Nat → Bool) → Bool := @V.rec (fun _ => Nat → (Nat → Bool) → Bool) (fun o k => k o) (fun _ _ _ _ _ e _ _ ih o k => onC e fun _ _ _ _ _ _ v => nodeK h v fun b _ => bi (Nat.blt b o) (ih b k) (ih o k)) es
noncomputable def keepK (h : Hp) (o : Nat) (es : V) : (V → Bool) → Bool := @V.rec (fun _ => (V → Bool) → Bool) (fun k => k .n) (fun t a b d p e _ _ ih k => onC e fun _ _ _ _ _ _ v => nodeK h v fun _ s => bi (Nat.ble s o) (ih k) (ih fun q => k (.c t a b d p e q))) es
noncomputable def orcForget (p : Pos) : Orc := fun g args h k d => bi (g.eq p) (onL args d fun v r => onL r (onPtr v fun q o => bi (Nat.beq o 0) (hget h q fun a => onO a fun t _ _ l => bi (Nat.beq t 1) (lenK l 0 fun n => bi (Nat.beq n 4) (nthK l 2 fun m1 => nthK l 3 fun m2 => onMap 3 m1 h fun p1 es1 => onMap 3 m2 h fun p2 es2 =>
  bi (p1.eq p2) false (leastK h es1 4611686018427387903 fun o => keepK h o es2 fun es3 => hput h p2 (.o 3 3 .h es3) fun h' => k (vTup .n) h')) false) false) false) fun _ _ => d) d
/-- a node in a world -/
def NodeW (w : World) (v : Value) (bg sq : Int) : Prop := ∃ nb T a0 a2 a4 a5 a6 a7 a8 a9 a10, v = .pointer (some ⟨nb, 0, none⟩) ∧ w.heap[nb]? = some (.cells [a0, .int .i64 bg, a2, .int .i64 sq, a4, a5, a6, a7, a8, a9, a10].toArray T (0, 0))
theorem NodeW.fn {w : World} {v : Value} {b s b' s' : Int} (h : NodeW w v b s) (h' : NodeW w v b' s') : b = b' ∧ s = s' := by
  obtain ⟨nb, T, a0, a2, a4, a5, a6, a7, a8, a9, a10, rfl, h1⟩ := h
  obtain ⟨nb', T', c0, c2, c4, c5, c6, c7, c8, c9, c10, e, h2⟩ := h'
  injection e with e
  injection e with e
  injection e with e
  subst e
  rw [h1] at h2
  simp only [Option.some.injEq, Obj.cells.injEq, List.toArray_inj, Array.mk.injEq, List.cons.injEq, Value.int.injEq] at h2
  exact ⟨h2.1.2.1.2, h2.1.2.2.2.1.2⟩
section
variable {E : Go.Sym.Env} {R : List Blk} {σ : Sg} {h : Hp} {w : World}
theorem nodeK_t (H : HR Try.prog E R σ h w) {v : V} {x : Value} (hr : Rel σ v x) {c : Nat → Nat → Bool} (e : nodeK h v c = true) : ∃ b s : Nat, c b s = true ∧ NodeW w x b s := by
  obtain ⟨o, _, _, q, _, _, rfl, e1⟩ := onPtr_t e
  obtain ⟨nb, gc, rfl, hs⟩ := hr.c2
  obtain ⟨ho, e2⟩ := bi_f e1
  have ho := beq_t ho
  subst ho
  obtain ⟨t, et, cq, l, hat, e3⟩ := onO_t (hget_t e2)
  obtain ⟨ht, e4⟩ := bi_f e3
  have ht := beq_t ht
  subst ht
  obtain ⟨n, e5, hn⟩ := lenK_t e4
  obtain ⟨h11, e6⟩ := bi_f e5
  have h11 := beq_t h11
  obtain ⟨v1, e7, hv1⟩ := nthK_t e6
  obtain ⟨b, _, _, _, _, rfl, e8⟩ := onInt_t e7
  obtain ⟨v3, e9, hv3⟩ := nthK_t e8
  obtain ⟨s, _, _, _, _, rfl, e10⟩ := onInt_t e9
  obtain ⟨hb, e11⟩ := bi_f e10
  obtain ⟨hsl, e12⟩ := bi_f e11
  have hb := blt_t hb
  have hsl := blt_t hsl
  obtain ⟨b1, c1, vl, junk, _, hs1, hw, hrl, hj0, _⟩ := H.cells (.inl rfl) hat
  obtain rfl := hj0 rfl
  rw [List.append_nil] at hw
  rw [hs] at hs1
  injection hs1 with hs1
  injection hs1 with hs1 _
  subst hs1
  have hlen := hn σ vl hrl
  obtain ⟨x1, hx1, hr1⟩ := hv1 σ vl hrl
  obtain ⟨x3, hx3, hr3⟩ := hv3 σ vl hrl
  obtain ⟨q1, rfl, hq1, _⟩ := hr1.c1
  obtain ⟨q3, rfl, hq3, _⟩ := hr3.c1
  obtain rfl := kc_inj (q := q1) (q' := .i64) hq1.symm
  obtain rfl := kc_inj (q := q3) (q' := .i64) hq3.symm
  rw [Go.Rc.wrap_small (q := .i64) hb] at hx1
  rw [Go.Rc.wrap_small (q := .i64) hsl] at hx3
  have hlen : vl.length = 11 := by omega
  match vl, hlen, hx1, hx3, hw with
  | [a0, a1, a2, a3, a4, a5, a6, a7, a8, a9, a10], _, hx1, hx3, hw =>
    have e1 : a1 = .int .i64 b := by simpa using hx1
    have e3 : a3 = .int .i64 s := by simpa using hx3
    subst e1 e3
    exact ⟨b, s, e12, nb, et, a0, a2, a4, a5, a6, a7, a8, a9, a10, rfl, hw⟩
theorem leastK_t (H : HR Try.prog E R σ h w) {es : V} {ml : List (Int × Value)} (hM : RelM σ .i64 es ml) : ∀ {o : Nat} {k : Nat → Bool}, leastK h es o k = true → ∃ o' : Nat, k o' = true ∧ o' ≤ o ∧ (∀ q ∈ ml, ∃ b s : Nat, NodeW w q.2 b s ∧ o' ≤ b) ∧ (o' = o ∨ ∃ q ∈ ml, ∃ s : Nat, NodeW w q.2 o' s) := by
  induction hM with
  | nil => intro o k e; exact ⟨o, e, Nat.le_refl _, fun q hq => (by cases hq), .inl rfl⟩
  | cons hb ha hz hk hv _ ih =>
    rename_i a b d p kv v r z x l t' a' b' d' p' _
    intro o k e
    have e : nodeK h v (fun b _ => bi (Nat.blt b o) (leastK h r b k) (leastK h r o k)) = true := e
    obtain ⟨bb, ss, e1, hn⟩ := nodeK_t H hv e
    rcases bi_t e1 with ⟨h1, e2⟩ | ⟨h1, e2⟩
    · have h1 := blt_t h1
      obtain ⟨o', e3, h3, h4, h5⟩ := ih e2
      refine ⟨o', e3, by omega, fun q hq => ?_, ?_⟩
      · rcases List.mem_cons.1 hq with rfl | hq
        · exact ⟨bb, ss, hn, h3⟩
        · exact h4 q hq
      · rcases h5 with rfl | ⟨q, hq, s, h6⟩
        · exact .inr ⟨_, List.mem_cons_self .., ss, hn⟩
        · exact .inr ⟨q, List.mem_cons_of_mem _ hq, s, h6⟩
    · have h1 := blt_f h1
      obtain ⟨o', e3, h3, h4, h5⟩ := ih e2
      refine ⟨o', e3, h3, fun q hq => ?_, h5.imp id fun ⟨q, hq, s, h6⟩ => ⟨q, List.mem_cons_of_mem _ hq, s, h6⟩⟩
      rcases List.mem_cons.1 hq with rfl | hq
      · exact ⟨bb, ss, hn, by omega⟩
      · exact h4 q hq
theorem keepK_t (H : HR Try.prog E R σ h w) {o : Nat} {es : V} {ml : List (Int × Value)} (hM : RelM σ .i64 es ml) : ∀ {k : V → Bool}, keepK h o es k = true → (∀ q ∈ ml, ∃ b s : Nat, NodeW w q.2 b s) ∧ ∃ es', k es' = true ∧ ∀ f : Int × Value → Bool, (∀ q ∈ ml, ∀ b s : Nat, NodeW w q.2 b s → f q = !decide (s ≤ o)) → RelM σ .i64 es' (ml.filter f) := by
  induction hM with
  | nil => intro k e; exact ⟨fun q hq => (by cases hq), .n, e, fun _ _ => .nil⟩
  | cons hb ha hz hk hv _ ih =>
    rename_i a b d p kv v r z x l t' a' b' d' p' _
    intro k e
    have e : nodeK h v (fun _ s => bi (Nat.ble s o) (keepK h o r k) (keepK h o r fun q => k (.c 13 a b d p (.c t' a' b' d' p' kv v) q))) = true := e
    obtain ⟨bb, ss, e1, hn⟩ := nodeK_t H hv e
    rcases bi_t e1 with ⟨h1, e2⟩ | ⟨h1, e2⟩
    · obtain ⟨h2, es', e3, h3⟩ := ih e2
      refine ⟨fun q hq => ?_, es', e3, fun f hf => ?_⟩
      · rcases List.mem_cons.1 hq with rfl | hq
        · exact ⟨bb, ss, hn⟩
        · exact h2 q hq
      · have := hf _ (List.mem_cons_self ..) bb ss hn
        rw [List.filter_cons, this]
        simp only [ble_t h1, decide_true, Bool.not_true, Bool.false_eq_true, if_false]
        exact h3 f fun q hq => hf q (List.mem_cons_of_mem _ hq)
    · obtain ⟨h2, es', e3, h3⟩ := ih e2
      refine ⟨fun q hq => ?_, _, e3, fun f hf => ?_⟩
      · rcases List.mem_cons.1 hq with rfl | hq
        · exact ⟨bb, ss, hn⟩
        · exact h2 q hq
      · have := hf _ (List.mem_cons_self ..) bb ss hn
        have h1 := ble_f h1
        rw [List.filter_cons, this]
        have hd : decide (ss ≤ o) = false := decide_eq_false (by omega)
        rw [hd]
        simp only [Bool.not_false, if_true]
        exact .cons hb ha hz hk hv (h3 f fun q hq => hf q (List.mem_cons_of_mem _ hq))
theorem lookV_mem {ml : List (Int × Value)} (hn : (ml.map (·.1)).Nodup) {q : Int × Value} (hq : q ∈ ml) : lookV ml q.1 = some q.2 := by
  induction ml with
  | nil => cases hq
  | cons a ml ih =>
    rw [List.map_cons, List.nodup_cons] at hn
    rw [lookV_cons]
    rcases List.mem_cons.1 hq with rfl | hq
    · rw [if_pos rfl]
    · rw [if_neg, ih hn.2 hq]
      intro e
      exact hn.1 (List.mem_map.2 ⟨q, hq, e.symm⟩)
theorem least_uniq {bg : Int → Int} {l : List Int} {o o' : Int} (h : LeastOf bg l o) (h' : LeastOf bg l o') : o = o' := by
  obtain ⟨h1, h2, h3⟩ := h
  obtain ⟨h4, h5, h6⟩ := h'
  rcases h3 with rfl | ⟨k, hk, rfl⟩
  · rcases h6 with rfl | ⟨k', hk', rfl⟩
    · rfl
    · have := h2 k' hk'; omega
  · rcases h6 with rfl | ⟨k', hk', rfl⟩
    · have := h5 k hk; omega
    · have := h2 k' hk'
      have := h5 k hk
      omega
theorem allB_three {w : World} {a b c : Nat} {oa ob oc : Obj} (ha : w.heap[a]? = some oa) (hb : w.heap[b]? = some ob) (hc : w.heap[c]? = some oc) (hab : a ≠ b) (hac : a ≠ c) (hbc : b ≠ c) : ∃ R, (allB w).Perm ([(a, oa), (b, ob), (c, oc)] ++ R) := by
  obtain ⟨R, hR⟩ := allB_two ha hb hab
  have h : (c, oc) ∈ R := by
    have := hR.mem_iff.1 (mem_allB.2 hc : (c, oc) ∈ allB w)
    simp only [List.cons_append, List.nil_append, List.mem_cons] at this
    rcases this with h | h | h
    · injection h with h _; exact absurd h.symm hac
    · injection h with h _; exact absurd h.symm hbc
    · exact h
  obtain ⟨s, t, rfl⟩ := List.append_of_mem h
  refine ⟨s ++ t, hR.trans ?_⟩
  exact (List.perm_middle (l₁ := s)).append_left [(a, oa), (b, ob)]
theorem forget_name : (Try.f36.name == "runtime.NumGoroutine") = false := by kernel_rfl
open Classical in
theorem orcForget_ok : OrcOk Try.prog (orcForget (posOf 36)) := fun g' args h k d e => by
  rcases bi_t e with ⟨h0, e1⟩ | ⟨_, e1⟩
  case inr => exact .inl e1
  have h0 := (Pos.eq_iff _ _).1 h0
  subst h0
  rcases onL_t e1 with ⟨_, e2⟩ | ⟨_, _, _, _, _, v, r, rfl, e2⟩
  · exact .inl e2
  rcases onL_t e2 with ⟨rfl, e3⟩ | ⟨_, _, _, _, _, _, _, _, e3⟩
  case inr => exact .inl e3
  refine .inr ⟨36, rfl, run_enterF Try.func36 rfl forget_name, fun E R σ w vals H hv => ?_⟩
  obtain ⟨x, xl, rfl, hx, hxl⟩ := hv.c
  rw [hxl.n]
  obtain ⟨o, _, _, q, _, _, rfl, e4⟩ := onPtr_t e3
  obtain ⟨tb, gc, rfl, hs⟩ := hx.c2
  obtain ⟨ho, e4⟩ := bi_f e4
  have ho := beq_t ho
  subst ho
  obtain ⟨ct, ce, cq, cl, hat, e4⟩ := onO_t (hget_t e4)
  obtain ⟨hct, e4⟩ := bi_f e4
  have hct := beq_t hct
  subst hct
  obtain ⟨sz, e4, hlen0⟩ := lenK_t e4
  obtain ⟨hsz, e5⟩ := bi_f e4
  have hsz := beq_t hsz
  obtain ⟨m1, e6, hm1⟩ := nthK_t e5
  obtain ⟨m2, e7, hm2⟩ := nthK_t e6
  obtain ⟨_, _, _, p1, _, _, mk1, es1, rfl, hat1, e8⟩ := onMap_t e7
  obtain ⟨_, _, _, p2, _, _, mk2, es2, rfl, hat2, e9⟩ := onMap_t e8
  obtain ⟨hp12, e10⟩ := bi_g e9
  obtain ⟨b1, c1, vl, junk, hl, hs1, hw, hrl, hj0, _⟩ := H.cells (.inl rfl) hat
  obtain rfl := hj0 rfl
  rw [List.append_nil] at hw
  rw [hs] at hs1
  injection hs1 with hs1
  injection hs1 with hs1 _
  subst hs1
  have hlen1 := hlen0 σ vl hrl
  obtain ⟨x1, hx1, hr1⟩ := hm1 σ vl hrl
  obtain ⟨x2, hx2, hr2⟩ := hm2 σ vl hrl
  obtain ⟨mb1, g1, rfl, hsm1⟩ := hr1.c5
  obtain ⟨mb2, g2, rfl, hsm2⟩ := hr2.c5
  obtain ⟨b3, c3, es3, cl1, hl1, hs3, hw1, hd1⟩ := H.map hat1
  obtain ⟨b4, c4, es4, cl2, hl2, hs4, hw2, hd2⟩ := H.map hat2
  rw [hsm1] at hs3
  injection hs3 with hs3
  injection hs3 with hs3 _
  subst hs3
  rw [hsm2] at hs4
  injection hs4 with hs4
  injection hs4 with hs4 hg2
  subst hs4 hg2
  rcases hd1 with ⟨q1, live, hk1, hM1, hR1⟩ | ⟨_, h8, _⟩
  case inr => exact absurd h8 (by decide)
  rcases hd2 with ⟨q2, ended, hk2, hM2, hR2⟩ | ⟨_, h8, _⟩
  case inr => exact absurd h8 (by decide)
  obtain rfl := kc_inj (q := .i64) (q' := q1) hk1
  obtain rfl := kc_inj (q := .i64) (q' := q2) hk2
  obtain ⟨on, e11, ho1, ho2, ho3⟩ := leastK_t H hR1 e10
  obtain ⟨hn2, es5, e12, hk5⟩ := keepK_t H hR2 e11
  rw [hput_eq] at e12
  have hne12 : mb1 ≠ mb2 := fun e => Pos.eq_f hp12 (H.inj p1 p2 mb1 _ _ hl1 hl2 hsm1 (by rw [hsm2, e]))
  have hne1 : tb ≠ mb1 := fun e => by rw [e, hw1] at hw; cases hw
  have hne2 : tb ≠ mb2 := fun e => by rw [e, hw2] at hw; cases hw
  obtain ⟨R0, hR0⟩ := allB_three hw hw1 hw2 hne1 hne2 hne12
  let bgV : Value → Int := fun v => if h : ∃ b s, NodeW w v b s then h.choose else 0
  let sqV : Value → Int := fun v => if h : ∃ b s, NodeW w v b s then h.choose_spec.choose else 0
  have hval : ∀ v b s, NodeW w v b s → bgV v = b ∧ sqV v = s := fun v b s hnv => by
    have hex : ∃ b s, NodeW w v b s := ⟨b, s, hnv⟩
    have h1 : bgV v = hex.choose := dif_pos hex
    have h2 : sqV v = hex.choose_spec.choose := dif_pos hex
    rw [h1, h2]
    exact hex.choose_spec.choose_spec.fn hnv
  let bg1 : Int → Int := fun k => bgV ((lookV live k).getD undef)
  let sq1 : Int → Int := fun k => sqV ((lookV live k).getD undef)
  let bg2 : Int → Int := fun k => bgV ((lookV ended k).getD undef)
  let sq2 : Int → Int := fun k => sqV ((lookV ended k).getD undef)
  have hnode : ∀ v b s, NodeW w v b s → NodeAt R0 v b s := fun v b s hnv => by
    obtain ⟨nb, T, a0, a2, a4, a5, a6, a7, a8, a9, a10, rfl, hnb⟩ := hnv
    refine ⟨nb, T, a0, a2, a4, a5, a6, a7, a8, a9, a10, rfl, ?_⟩
    have := hR0.mem_iff.1 (mem_allB.2 hnb : (nb, _) ∈ allB w)
    simp only [List.cons_append, List.nil_append, List.mem_cons, Prod.mk.injEq] at this
    rcases this with ⟨_, h⟩ | ⟨_, h⟩ | ⟨_, h⟩ | h
    · injection h with h
      have := congrArg Array.size h
      simp at this
      omega
    · cases h
    · cases h
    · exact h
  have hl1' : ∀ q ∈ live, NodeAt R0 q.2 (bg1 q.1) (sq1 q.1) := fun q hq => by
    obtain ⟨b, s, hnv, _⟩ := ho2 q hq
    obtain ⟨h1, h2⟩ := hval _ _ _ hnv
    have h3 := lookV_mem hM1.keys hq
    simp only [bg1, sq1, h3, Option.getD_some, h1, h2]
    exact hnode _ _ _ hnv
  have hl2' : ∀ q ∈ ended, NodeAt R0 q.2 (bg2 q.1) (sq2 q.1) := fun q hq => by
    obtain ⟨b, s, hnv⟩ := hn2 q hq
    obtain ⟨h1, h2⟩ := hval _ _ _ hnv
    have h3 := lookV_mem hM2.keys hq
    simp only [bg2, sq2, h3, Option.getD_some, h1, h2]
    exact hnode _ _ _ hnv
  have hleast : LeastOf bg1 (live.map (·.1)) on := by
    refine ⟨by omega, fun k hk => ?_, ?_⟩
    · obtain ⟨q, hq, rfl⟩ := List.mem_map.1 hk
      obtain ⟨b, s, hnv, hb⟩ := ho2 q hq
      have h3 := lookV_mem hM1.keys hq
      simp only [bg1, h3, Option.getD_some, (hval _ _ _ hnv).1]
      omega
    · rcases ho3 with rfl | ⟨q, hq, s, hnv⟩
      · exact .inl rfl
      · refine .inr ⟨q.1, List.mem_map.2 ⟨q, hq, rfl⟩, ?_⟩
        have h3 := lookV_mem hM1.keys hq
        simp only [bg1, h3, Option.getD_some, (hval _ _ _ hnv).1]
  have hlen : vl.length = 4 := by omega
  match vl, hlen, hx1, hx2, hw, hR0 with
  | [a0, a1, a2, a3], _, hx1, hx2, hw, hR0 =>
    obtain rfl : a2 = .map (some mb1) := by simpa using hx1
    obtain rfl : a3 = .map (some mb2) := by simpa using hx2
    have hall : HP (w.os, w.output) w (((tb, .cells [a0, a1, .map (some mb1), .map (some mb2)].toArray ce) :: (mb1, .map es3 cl1) :: (mb2, .map es4 cl2) :: R0) ++ []) := by
      rw [List.append_nil]
      exact hp_allB.perm hR0
    refine ((forget_tri (NB := R0) hM1 hM2 hl1' hl2').out _ [] w hall).mono fun e w' ⟨v, L, he, ⟨hv0, o', es', hlo, hL, hM'⟩, hh⟩ => ?_
    subst hv0 hL
    obtain rfl := least_uniq hleast hlo
    rw [List.append_nil] at hh
    have hl5 := hk5 (fun q => !decide (sq2 q.1 ≤ (on : Int))) fun q hq b s hnv => by
      have h3 := lookV_mem hM2.keys hq
      have h4 : sq2 q.1 = (s : Int) := by
        simp only [sq2, h3, Option.getD_some]
        exact (hval _ _ _ hnv).2
      simp only [h4]
      congr 1
      exact decide_eq_decide.2 (by omega)
    have hmb2 : w'.heap[mb2]? = some (.map es' cl2) := hh.get (by simp)
    have hlt := (Array.getElem?_eq_some_iff.1 hmb2).1
    have g : Grew w { w' with heap := w'.heap.setIfInBounds mb2 (.map es4 cl2) } := ⟨hh.env, fun i ob hob => by
      show (w'.heap.setIfInBounds mb2 (.map es4 cl2))[i]? = some ob
      by_cases hi : i = mb2
      · subst hi
        rw [hw2] at hob
        injection hob with hob
        subst hob
        simp [hlt]
      · rw [Array.getElem?_setIfInBounds_ne (Ne.symm hi)]
        have := hR0.mem_iff.1 (mem_allB.2 hob : (i, ob) ∈ allB w)
        simp only [List.cons_append, List.nil_append, List.mem_cons] at this
        rcases this with h | h | h | h
        · exact hh.get (by rw [h]; simp)
        · exact hh.get (by rw [h]; simp)
        · injection h with h _; exact absurd h hi
        · exact hh.get (by simp [h])⟩
    have s1 := Step.grew H g
    have s2 := Step.put (w' := w') (ao := .o 3 3 .h es5) s1.hr hl2 hsm2 hmb2 (fun j hj => (Array.getElem?_setIfInBounds_ne (Ne.symm hj)).symm) rfl (.inr (.mapI (q := .i64) rfl hM' hl5 (.inl rfl)))
    exact ⟨_, he, _, σ, _, e12, .tup .nil, s1.trans s2⟩
end
end Go.Proofs.Ytomgkmoecbnddaa
