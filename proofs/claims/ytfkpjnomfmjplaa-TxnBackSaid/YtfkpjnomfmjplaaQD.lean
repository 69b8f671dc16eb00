/- Txn: sorted; the sort over strings. Txn: Named, Names, may. Txn: what TxnApart says, in plain words. Txn: what is done keeps what TxnBack wants. Txn: Of; TxnApart: the walk. -/
import Derived.Test.YtfkpjnomfmjplaaQC
import Derived.Test.YtfkpjnomfmjplaaShelf
import Derived.Test.YtfkpjnomfmjplaaQA
set_option linter.unusedVariables false
set_option linter.unusedSimpArgs false
set_option linter.unnecessarySimpa false
namespace Go.Sym
open Go
end Go.Sym
namespace Go.Proofs.Ytfkpjnomfmjplaa
open Go.Sym
theorem ci_inj : ∀ a b : Int, Value.int .i64 a = .int .i64 b → a = b := fun a b h => by injection h
theorem sortNone_tri : Tri Try.prog 79 #[.slice none 0 0] [] fun v L => v = .tuple #[] ∧ L = [] := .mk fun E R w hh => (Try.slices_Sort_int_none none 0 w).mono fun e w' ⟨he, hw⟩ => ⟨_, _, he, ⟨rfl, rfl⟩, by rw [hw]; exact hh⟩
theorem unseen_lt {S vis : List Int} {k : Int} (hk : k ∈ S) (hv : k ∉ vis) : (S.filter fun x => decide (x ∉ k :: vis)).length < (S.filter fun x => decide (x ∉ vis)).length := by
  have h1 : (S.filter fun x => decide (x ∉ k :: vis)) = (S.filter fun x => decide (x ∉ vis)).filter fun x => decide (x ≠ k) := by
    rw [List.filter_filter]
    apply List.filter_congr
    intro x _
    simp only [List.mem_cons, not_or, Bool.decide_and]
  rw [h1]
  have hm : k ∈ S.filter fun x => decide (x ∉ vis) := List.mem_filter.2 ⟨hk, by simpa using hv⟩
  generalize (S.filter fun x => decide (x ∉ vis)) = T at hm
  clear h1 hk hv
  induction T with
  | nil => simp at hm
  | cons a T ih =>
    rw [List.filter_cons]
    by_cases ha : a = k
    · subst ha
      simp only [ne_eq, not_true, decide_false, Bool.false_eq_true, if_false, List.length_cons]
      exact Nat.lt_succ_of_le (List.length_filter_le _ _)
    · have : k ∈ T := by
        rcases List.mem_cons.1 hm with h | h
        · exact absurd h.symm ha
        · exact h
      simp only [ne_eq, ha, not_false_iff, decide_true, if_true, List.length_cons]
      exact Nat.succ_lt_succ (ih this)
theorem nodup_len : ∀ (vis S : List Int), vis.Nodup → (∀ x ∈ vis, x ∈ S) → vis.length ≤ S.length
  | [], _, _, _ => Nat.zero_le _
  | a :: vis, S, hn, hs => by
    rw [List.nodup_cons] at hn
    have ha := hs a (List.mem_cons_self ..)
    obtain ⟨s, t, rfl⟩ := List.append_of_mem ha
    have := nodup_len vis (s ++ t) hn.2 fun x hx => by
      have h1 := hs x (List.mem_cons_of_mem _ hx)
      have hne : x ≠ a := fun e => hn.1 (e ▸ hx)
      simp only [List.mem_append, List.mem_cons] at h1 ⊢
      rcases h1 with h1 | h1 | h1
      · exact .inl h1
      · exact absurd h1 hne
      · exact .inr h1
    simp only [List.length_append, List.length_cons] at this ⊢
    omega
/-- what 'sorted' hands back -/
def SortedPost (ml : List (Int × Value)) (pre : List Blk) (v : Value) (L : List Blk) : Prop :=
  (ml = [] ∧ v = .slice none 0 0 ∧ L = pre) ∨ ∃ (nb cap : Nat) (zs : List Int) (junk : List Value), ml ≠ [] ∧ v = .slice (some ⟨nb, 0, none⟩) zs.length cap ∧ L = (nb, .cells (zs.map (Value.int .i64) ++ junk).toArray 3) :: pre ∧ (zs.map (Value.int .i64) ++ junk).length = cap ∧ zs.Perm (ml.map (·.1)) ∧ zs.Pairwise (· ≤ ·)
theorem sorted_tri {p m : Nat} {T : TypeId} {c0 c2 : Value} {es : Array MapEntry} {c : Nat} {ml : List (Int × Value)} (hM : MapOf (Value.int .i64) ml es c) (hS : ml.length ≤ 4096) :
    Tri Try.prog 63 #[.pointer (some ⟨p, 0, none⟩)] [(p, .cells [c0, .map (some m), c2].toArray T), (m, .map es c)] (SortedPost ml [(p, .cells [c0, .map (some m), c2].toArray T), (m, .map es c)]) := by
  have f_mixed := mixed; have f_by3 := by3; have f_en79 := en79; have f_fo74_1 := fo74_1; have f_ty3 := ty3; have f_ty36 := ty36; have f_ty76 := ty76; have f_ty72 := ty72; have f_un_23 : Und Try.prog 23 _ := ⟨Try.underlying23⟩; have f_un_36 : Und Try.prog 36 _ := ⟨Try.underlying36⟩; have f_un_72 : Und Try.prog 72 _ := ⟨Try.underlying72⟩; have f_zero3 := zero3; have f_zero76 := zero76; have f_zv3 := zv3; have f_zv76 := zv76
  have f_kl := KL3
  refine tri_intro (args := [_]) Try.func63 rfl Try.ntmps63 rfl (rs := _) rfl rfl fun E R => ?_
  simp only [fr, List.cons_append, List.nil_append]
  (refine sr_ ?_; (refine ac_ ?_); refine sn_ ?_; (apply sc_seq); refine sr_ ?_; (refine mv_ ?_); (refine se_ (ex_eqp_f ev_ .const asm_) ?_); refine sn_ ?_; (refine cf_ ?_); (apply sc_skip); (apply nm_then); refine sr_ ?_; (refine ac_ ?_); refine sn_ ?_; (apply sc_seq); refine sr_ ?_; (refine mv_ ?_); (refine se_ (ex_nilCheck ev_) ?_); (refine se_ (ex_fieldAddr ev_ asm_) ?_); (refine se_ (ex_load1 ev_ asm_ mem_ nth_) ?_); (apply so_range; (exact ev_); (exact mem_); assumption; exact rfl; intro _); refine sn_ ?_; (apply sc_block))
  rename_i r
  refine sc_loop (fun k f L => ∃ seen vis zs, At f 11 (.pointer (some ⟨r, 0, none⟩)) ∧ zs = vis.reverse ∧ Iter (Value.int .i64) es c seen vis ∧ vis.Nodup ∧ (∀ x ∈ vis, x ∈ ml.map (·.1)) ∧ k = ((ml.map (·.1)).filter fun x => decide (x ∉ vis)).length ∧
    ((zs = [] ∧ At f 3 (.slice none 0 0) ∧ Held L [(r, .mapIter (some m) c seen c), (p, .cells [c0, .map (some m), c2].toArray T), (m, .map es c)] R) ∨
     ∃ b cap junk, zs ≠ [] ∧ At f 3 (.slice (some ⟨b, 0, none⟩) zs.length cap) ∧ (zs.map (Value.int .i64) ++ junk).length = cap * 1 ∧ Held L [(r, .mapIter (some m) c seen c), (b, .cells (zs.map (Value.int .i64) ++ junk).toArray 3), (p, .cells [c0, .map (some m), c2].toArray T), (m, .map es c)] R))
    _ ⟨#[], [], [], at_, rfl, Iter.start hM, by simp, by simp, rfl, .inl ⟨rfl, at_, held_⟩⟩ ?_
  rintro k f L ⟨seen, vis, zs, a11, hzs, hI, hnd, hsub, hk, ⟨hz0, a3, ⟨G, hG⟩⟩ | ⟨b, cap, junk, hz0, a3, hjl, ⟨G, hG⟩⟩⟩
  · refine sc_perm hG ?_
    simp only [List.cons_append, List.nil_append]
    ((apply sc_seq); (apply sc_region))
    apply so_nxt; (exact ev_); (intro _; (focus (repeat (first | exact Turn.here | apply Turn.there | apply Turn.pre)))); (exact mem_); assumption; assumption; (exact Nat.le_refl _); (exact ci_inj); exact rfl
    · intro hall
      have hml : ml = [] := by
        cases ml with
        | nil => rfl
        | cons q ml =>
          have := hall q (List.mem_cons_self ..)
          have hv : vis = [] := by rw [hz0] at hzs; exact List.reverse_eq_nil_iff.1 hzs.symm
          rw [hv] at this
          cases this
      ((refine se_ (ex_extract ev_ nth_) ?_); refine sn_ ?_; (apply sc_seq); (refine cf_ ?_); (apply sc_exit); (apply et_then); (apply et_then); (apply et_hit); (apply nm_then); refine sr_ ?_; (refine mv_ ?_); (apply so_callq; (exact Ev.func); (focus ((apply EvL.cons; (exact ev_)); exact EvL.nil)); (focus (repeat (first | exact App.nil | apply App.cons))); assumption; exact sortNone_tri; (exact sel_); exact rfl); refine sn_ ?_; refine sr_ ?_; (refine mv_ ?_); (refine asg_ ?_); refine sn_ ?_; (apply sc_ret))
      (apply ret_ok; (focus ((apply Res.tmp; (exact ev_)); exact Res.nil)); (exact .inl ⟨hml, rfl, rfl⟩); (exact sel_); (exact appb_))
    · rintro ⟨k1, v1⟩ seen' hp hnv hI' hcur
      simp only at hnv hI' hcur
      ((refine se_ (ex_extract ev_ nth_) ?_); refine sn_ ?_; (apply sc_seq); (refine ct_ ?_); (apply sc_skip); (apply nm_then); (apply sc_block); refine sr_ ?_; (refine se_ (ex_ent ev_ mem_ mem_ asm_ asm_) ?_); (refine se_ (ex_extract ev_ nth_) ?_); (refine asg_ ?_); refine sn_ ?_; (apply sc_region); (refine mv_ ?_); (refine mv_ ?_); (apply so_buildS; (focus ((apply EvP.cons; (exact ev_)); exact EvP.nil)); assumption; assumption; assumption; (focus (repeat (first | exact SeqP.nil | (apply SeqP.cons; exact rfl; exact rfl) | exact App.nil | apply App.cons))); exact rfl; exact rfl; exact rfl; intro _); (apply so_app0; (exact ev_); (exact ev_); (exact mem_); assumption; assumption; assumption; exact rfl; assumption; exact rfl; exact rfl; (first | assumption | omega | decide); (first | assumption | omega | decide); exact rfl; exact rfl; exact rfl; intro _ _ _ _); (refine asg_ ?_); (apply so_nil); (apply nm_block); (apply nm_then))
      rename_i b2 cap2 junk2 h2
      have hkm : k1 ∈ ml.map (·.1) := List.mem_map.2 ⟨_, hp, rfl⟩
      have hv : vis = [] := by rw [hz0] at hzs; exact List.reverse_eq_nil_iff.1 hzs.symm
      subst hv
      refine ⟨_, by rw [hk]; exact unseen_lt hkm hnv, seen', [k1], [k1], at_, rfl, hI', by simp, fun x hx => by rw [List.mem_singleton.1 hx]; exact hkm, rfl, .inr ⟨b2, cap2, junk2, by simp, at_, h2, held_⟩⟩
  · refine sc_perm hG ?_
    simp only [List.cons_append, List.nil_append]
    have hxl : (zs.map (Value.int .i64)).length = zs.length * 1 := by simp
    have hbz : zs.length ≤ 4096 := by
      have := nodup_len vis _ hnd hsub
      rw [hzs]
      simp at this ⊢
      omega
    have hz2 : zs.length < 4611686018427387904 := by omega
    ((apply sc_seq); (apply sc_region))
    apply so_nxt; (exact ev_); (intro _; (focus (repeat (first | exact Turn.here | apply Turn.there | apply Turn.pre)))); (exact mem_); assumption; assumption; (exact Nat.le_refl _); (exact ci_inj); exact rfl
    · intro hall
      ((refine se_ (ex_extract ev_ nth_) ?_); refine sn_ ?_; (apply sc_seq); (refine cf_ ?_); (apply sc_exit); (apply et_then); (apply et_then); (apply et_hit); (apply nm_then); refine sr_ ?_; (refine mv_ ?_))
      (apply so_call; (exact Ev.func); (focus ((apply EvL.cons; (exact ev_)); exact EvL.nil)); (focus (repeat (first | exact App.nil | apply App.cons))); assumption; (exact sort_tri Try.slices_Sort_int hz2 (b := b) (cap := cap) (junk := junk) (et := 3)); (exact sel_); exact rfl)
      rintro v L' ⟨rfl, rfl⟩
      simp only [List.cons_append, List.nil_append]
      (refine sn_ ?_; refine sr_ ?_; (refine mv_ ?_); (refine asg_ ?_); refine sn_ ?_; (apply sc_ret))
      have hne : ml ≠ [] := fun e => hz0 (by
        cases hv : vis with
        | nil => rw [hzs, hv]; rfl
        | cons x t => have := hsub x (by rw [hv]; exact List.mem_cons_self ..); rw [e] at this; cases this)
      have hl : (zs.mergeSort fun x y => decide (x ≤ y)).length = zs.length := by simp
      have hperm : (zs.mergeSort fun x y => decide (x ≤ y)).Perm (ml.map (·.1)) := by
        refine (List.mergeSort_perm zs _).trans ?_
        rw [hzs]
        refine (List.reverse_perm vis).trans ((List.perm_ext_iff_of_nodup hnd hM.keys).2 fun x => ⟨hsub x, fun hx => ?_⟩)
        obtain ⟨q, hq, rfl⟩ := List.mem_map.1 hx
        exact hall q hq
      have hpw : (zs.mergeSort fun x y => decide (x ≤ y)).Pairwise (· ≤ ·) := by
        have := List.pairwise_mergeSort (le := fun (x y : Int) => decide (x ≤ y)) (fun a b c h1 h2 => by simp at *; omega) (fun a b => by simp; omega) zs
        exact this.imp fun h => by simpa using h
      have hlj : ((zs.mergeSort fun x y => decide (x ≤ y)).map (Value.int .i64) ++ junk).length = cap := by
        simp at hjl ⊢
        omega
      (apply ret_ok; (focus ((apply Res.tmp; (exact ev_)); exact Res.nil)); (exact .inr ⟨b, cap, zs.mergeSort fun x y => decide (x ≤ y), junk, hne, by rw [hl]; rfl, rfl, hlj, hperm, hpw⟩); (exact sel_); (exact appb_))
    · rintro ⟨k1, v1⟩ seen' hp hnv hI' hcur
      simp only at hnv hI' hcur
      ((refine se_ (ex_extract ev_ nth_) ?_); refine sn_ ?_; (apply sc_seq); (refine ct_ ?_); (apply sc_skip); (apply nm_then); (apply sc_block); refine sr_ ?_; (refine se_ (ex_ent ev_ mem_ mem_ asm_ asm_) ?_); (refine se_ (ex_extract ev_ nth_) ?_); (refine asg_ ?_); refine sn_ ?_; (apply sc_region); (refine mv_ ?_); (refine mv_ ?_); (apply so_buildS; (focus ((apply EvP.cons; (exact ev_)); exact EvP.nil)); assumption; assumption; assumption; (focus (repeat (first | exact SeqP.nil | (apply SeqP.cons; exact rfl; exact rfl) | exact App.nil | apply App.cons))); exact rfl; exact rfl; exact rfl; intro _); (apply so_app1; (exact ev_); (exact ev_); (exact pick_); (exact mem_); assumption; assumption; assumption; assumption; assumption; exact rfl; assumption; exact rfl; exact rfl; (first | assumption | omega | decide); (first | assumption | omega | decide); exact rfl; exact rfl; exact rfl; intro _ _ _ _ _); (refine asg_ ?_); (apply so_nil); (apply nm_block); (apply nm_then))
      rename_i b2 cap2 junk2 h2 h3
      have hkm : k1 ∈ ml.map (·.1) := List.mem_map.2 ⟨_, hp, rfl⟩
      have e1 : (zs ++ [k1]).length = zs.length + 1 := by simp
      have e2 : (zs ++ [k1]).map (Value.int .i64) = zs.map (Value.int .i64) ++ [Value.int .i64 k1] := by simp
      refine ⟨_, by rw [hk]; exact unseen_lt hkm hnv, seen', k1 :: vis, zs ++ [k1], at_, by rw [hzs]; simp, hI', List.nodup_cons.2 ⟨hnv, hnd⟩, List.forall_mem_cons.2 ⟨hkm, hsub⟩, rfl, .inr ⟨b2, cap2, junk2, by simp, by rw [e1]; exact at_, by rw [e2]; exact h2, by rw [e2]; exact held_⟩⟩
end Go.Proofs.Ytfkpjnomfmjplaa
namespace Go.Proofs.Ytfkpjnomfmjplaa
open Go.Sym
theorem sorted_all {ρ : Int → TM} {T : Ts} {zs : List Int} (h : zs.Perm ((tml ρ T.l).map (·.1))) : zs.Perm (T.l.map (·.id)) := by
  unfold tml at h; rw [List.map_map] at h; exact h
theorem sorted_mem {T : Ts} {zs : List Int} (h : zs.Perm (T.l.map (·.id))) {id : Int} (hm : id ∈ zs) : ∃ t ∈ T.l, t.id = id := by
  obtain ⟨t, ht, h1⟩ := List.mem_map.1 (h.mem_iff.1 hm); exact ⟨t, ht, h1⟩
theorem sorted_ts {K : Nat} {T : Ts} {es : Array MapEntry} {cl : Nat} {ρ : Int → TM} (h : TsOk K T es cl ρ) (tb cb mm : Nat) : Tri Try.prog 63 #[tP tb] [hdr T tb cb mm, (mm, .map es cl)] fun v L => ∃ zs B, SlI zs v B ∧ zs.Perm (T.l.map (·.id)) ∧ L = B ++ [hdr T tb cb mm, (mm, .map es cl)] ∧ zs.Pairwise (· ≤ ·) := by
  refine (sorted_tri h.map (by have := h.len; unfold tml; rw [List.length_map]; omega)).mono ?_
  rintro v L (⟨h1, rfl, rfl⟩ | ⟨nb, cap, zs, junk, h1, rfl, rfl, h2, h3, h4⟩)
  · refine ⟨[], [], .empty, ?_, rfl, .nil⟩
    have : T.l = [] := by unfold tml at h1; exact List.map_eq_nil_iff.1 h1
    rw [this]; exact .refl _
  · refine ⟨zs, [_], ⟨_, _, rfl, Row.row (by simp) (by rw [h2, Nat.mul_one])⟩, sorted_all h3, rfl, h4⟩
theorem look_at {K : Nat} {T : Ts} {es : Array MapEntry} {cl : Nat} {ρ : Int → TM} (h : TsOk K T es cl ρ) {t : Tx} (ht : t ∈ T.l) : (lookV (tml ρ T.l) t.id).getD (.pointer none) = tP (ρ t.id).b := by
  rw [lookV_tml, findT_mem h.nd ht]; rfl
end Go.Proofs.Ytfkpjnomfmjplaa
namespace Go.Proofs.Ytfkpjnomfmjplaa
open Go.Sym
/-- each of the list is the child of the one before it, the first of p -/
def Chain (ab : Int → Int) : Int → List Int → Prop
  | _, [] => True
  | p, x :: r => ab x = p ∧ Chain ab x r
theorem chain_congr {ab ab' : Int → Int} : ∀ {l : List Int} {p : Int}, (∀ x ∈ l, ab' x = ab x) → Chain ab p l → Chain ab' p l
  | [], _, _, _ => trivial
  | x :: r, _, h, hc => ⟨(h x (List.mem_cons_self ..)).trans hc.1, chain_congr (fun y hy => h y (List.mem_cons_of_mem _ hy)) hc.2⟩
theorem chain_app {ab : Int → Int} : ∀ {a b : List Int} {p : Int}, Chain ab p (a ++ b) ↔ Chain ab p a ∧ Chain ab (a.getLastD p) b
  | [], b, p => by simp [Chain]
  | x :: a, b, p => by
    have := chain_app (ab := ab) (a := a) (b := b) (p := x)
    rw [List.cons_append]
    show (ab x = p ∧ Chain ab x (a ++ b)) ↔ (ab x = p ∧ Chain ab x a) ∧ _
    rw [this, and_assoc, List.getLastD_cons]
structure AOk (c : Clk) (t : Tx) : Prop where
  pre : ∃ k, t.lvs.map (·.2) = t.own ++ List.replicate k 0
  kn : ∀ x ∈ t.own, c.knows x = true
  st : ∀ x ∈ t.own, c.st x = if t.prepared then 4 else 1
  ch : Chain c.ab 0 t.own
  so : t.own.Pairwise fun a b => c.d a < c.d b
  go : ∀ g ∈ t.gone, c.knows g = true ∧ c.live g = false ∧ ∃ y, t.own.head? = some y ∧ c.d y < c.d g
def Has (t : Tx) (x : Int) : Prop := x ∈ t.own ∨ x ∈ t.gone
structure InvA (c : Clk) (l : List Tx) : Prop where
  ck : CkOk c
  tx : ∀ t ∈ l, AOk c t
  nd : (l.map (·.id)).Nodup
  dj : ∀ t ∈ l, ∀ u ∈ l, ∀ x, Has t x → Has u x → t.id = u.id
  lv : ∀ x, c.knows x = true → c.live x = true → ∃ t ∈ l, x ∈ t.own
theorem AOk.live {c : Clk} {t : Tx} (h : AOk c t) {x : Int} (hx : x ∈ t.own) : c.live x = true := by
  unfold Clk.live
  rw [h.st x hx]
  split <;> decide
theorem AOk.known {c : Clk} {t : Tx} (h : AOk c t) {x : Int} (hx : Has t x) : c.knows x = true := hx.elim (h.kn x) fun hg => (h.go x hg).1
theorem AOk.nodup {c : Clk} {t : Tx} (h : AOk c t) : t.own.Nodup := h.so.imp fun hlt e => by rw [e] at hlt; omega
theorem nd_eq {l : List Tx} (hn : (l.map (·.id)).Nodup) {t u : Tx} (ht : t ∈ l) (hu : u ∈ l) (e : t.id = u.id) : t = u := by
  induction l with
  | nil => cases ht
  | cons a l ih =>
    rw [List.map_cons, List.nodup_cons] at hn
    rcases List.mem_cons.1 ht with e1 | h1 <;> rcases List.mem_cons.1 hu with e2 | h2
    · rw [e1, e2]
    · rw [e1] at e
      exact (hn.1 (List.mem_map.2 ⟨u, h2, e.symm⟩)).elim
    · rw [e2] at e
      exact (hn.1 (List.mem_map.2 ⟨t, h1, e⟩)).elim
    · exact ih hn.2 h1 h2
theorem InvA.same {c : Clk} {l : List Tx} (h : InvA c l) {t u : Tx} (ht : t ∈ l) (hu : u ∈ l) {x : Int} (h1 : Has t x) (h2 : Has u x) : t = u := nd_eq h.nd ht hu (h.dj t ht u hu x h1 h2)
theorem no0 {c : Clk} : c.knows 0 = false := by
  cases h : c.knows 0 with
  | false => rfl
  | true => have := (knows_iff.1 h).1; rw [onR_iff] at this; omega
/-! ### End reaches just what is below -/
theorem fold_mono (c : Clk) (x : Int) : ∀ (l out : List Int), ∀ y ∈ out, y ∈ l.foldl (c.belowStep x) out
  | [], _, y, h => h
  | z :: l, out, y, h => by
    rw [List.foldl_cons]
    refine fold_mono c x l _ y ?_
    unfold Clk.belowStep; split
    · exact List.mem_append_left _ h
    · exact h
theorem fold_sound {c : Clk} {l : List Tx} (hI : InvA c l) {t : Tx} (ht : t ∈ l) {pre suf : List Int} {x : Int} (ho : t.own = pre ++ x :: suf) : ∀ (p out : List Int), (∀ z ∈ p, c.knows z = true) → (∀ y ∈ out, c.knows y = true ∧ (c.live y = true → y ∈ suf)) →
    ∀ y ∈ p.foldl (c.belowStep x) out, c.knows y = true ∧ (c.live y = true → y ∈ suf)
  | [], out, _, h2, y, hy => h2 y hy
  | z :: p, out, h1, h2, y, hy => by
    rw [List.foldl_cons] at hy
    refine fold_sound hI ht ho p (c.belowStep x out z) (fun w hw => h1 w (List.mem_cons_of_mem _ hw)) (fun w hw => ?_) y hy
    have hxo : x ∈ t.own := by rw [ho]; simp
    unfold Clk.belowStep at hw
    split at hw
    · rename_i hc
      rcases List.mem_append.1 hw with hw | hw
      · exact h2 w hw
      · rw [List.mem_singleton.1 hw]
        have hkz := h1 z (List.mem_cons_self ..)
        refine ⟨hkz, fun hl => ?_⟩
        obtain ⟨t', ht', hz⟩ := hI.lv z hkz hl
        have hA := hI.tx t' ht'
        obtain ⟨A, B, hAB⟩ := List.append_of_mem hz
        have hch := hA.ch
        rw [hAB, chain_app] at hch
        obtain ⟨hcA, hcz, _⟩ := hch
        rcases List.eq_nil_or_concat A with rfl | ⟨A', w', rfl⟩
        · have h0 : c.above z = 0 := by unfold Clk.above; rw [show c.ab z = 0 from hcz, no0]; rfl
          rw [h0] at hc
          exfalso
          rcases List.mem_cons.1 hc.2 with h | h
          · have := hI.tx t ht |>.kn x hxo
            rw [← h, no0] at this; cases this
          · have := (h2 0 h).1
            rw [no0] at this; cases this
        · have hw' : w' ∈ t'.own := by rw [hAB]; simp
          have hab : c.ab z = w' := by simpa using hcz
          have h0 : c.above z = w' := by unfold Clk.above; rw [hab, hA.kn w' hw']; rfl
          rw [h0] at hc
          -- w' is x, or stands behind it
          have hws : w' ∈ x :: suf := by
            rcases List.mem_cons.1 hc.2 with h | h
            · rw [h]; exact List.mem_cons_self ..
            · exact List.mem_cons_of_mem _ ((h2 w' h).2 (hA.live hw'))
          have hwt : w' ∈ t.own := by rw [ho]; exact List.mem_append_right _ hws
          have := hI.same ht ht' (.inl hwt) (.inl hw')
          subst this
          have hso := hA.so
          have hd1 : c.d w' < c.d z := by
            rw [hAB, List.pairwise_append] at hso
            exact hso.2.2 w' (by simp) z (List.mem_cons_self ..)
          have hso2 := hA.so
          rw [ho, List.pairwise_append, List.pairwise_cons] at hso2
          have hd2 : c.d x ≤ c.d w' := by
            rcases List.mem_cons.1 hws with h | h
            · rw [h]; exact Int.le_refl _
            · exact Int.le_of_lt (hso2.2.1.1 w' h)
          rw [ho] at hz
          rcases List.mem_append.1 hz with h | h
          · have := hso2.2.2 z h x (List.mem_cons_self ..); omega
          · rcases List.mem_cons.1 h with h | h
            · rw [h] at hd1; omega
            · exact h
    · exact h2 w hw
/-- all that come behind p in the chain are gathered -/
theorem fold_all {c : Clk} (hc : ClkOk c) {x : Int} : ∀ (suf : List Int) (p : Int), c.knows p = true → (p = x ∨ ∀ P Q, c.all = P ++ Q → p ∈ P → p ∈ P.foldl (c.belowStep x) []) → Chain c.ab p suf → (p :: suf).Pairwise (fun a b => c.d a < c.d b) → (∀ z ∈ suf, c.knows z = true ∧ z ≠ x) →
    ∀ z ∈ suf, ∀ P Q, c.all = P ++ Q → z ∈ P → z ∈ P.foldl (c.belowStep x) []
  | [], _, _, _, _, _, _, z, hz => by cases hz
  | w :: suf, p, hp, hC, hch, hso, hkn, z, hz => by
    have hw : ∀ P Q, c.all = P ++ Q → w ∈ P → w ∈ P.foldl (c.belowStep x) [] := fun P Q hPQ hwP => by
      obtain ⟨P1, P2, rfl⟩ := List.append_of_mem hwP
      have hpa : p ∈ c.all := (mem_all hc).2 hp
      have hs := all_sorted hc
      have hdw : c.d p < c.d w := (List.pairwise_cons.1 hso).1 w (List.mem_cons_self ..)
      rw [hPQ, List.append_assoc, List.cons_append, List.pairwise_append, List.pairwise_cons] at hs
      have hp1 : p ∈ P1 := by
        rw [hPQ, List.append_assoc, List.cons_append] at hpa
        rcases List.mem_append.1 hpa with h | h
        · exact h
        · rcases List.mem_cons.1 h with h | h
          · rw [h] at hdw; omega
          · have := hs.2.1.1 p h; omega
      have habv : c.above w = p := by unfold Clk.above; rw [hch.1, hp]; rfl
      rw [List.foldl_append, List.foldl_cons]
      refine fold_mono c x P2 _ w ?_
      unfold Clk.belowStep
      rw [if_pos]
      · simp
      · refine ⟨(hkn w (List.mem_cons_self ..)).2, ?_⟩
        rw [habv]
        rcases hC with h | h
        · rw [h]; exact List.mem_cons_self ..
        · exact List.mem_cons_of_mem _ (h P1 (w :: P2 ++ Q) (by rw [hPQ]; simp) hp1)
    rcases List.mem_cons.1 hz with rfl | hz
    · exact hw
    · exact fold_all hc suf w (hkn w (List.mem_cons_self ..)).1 (.inr hw) hch.2 (List.pairwise_cons.1 hso).2 (fun y hy => hkn y (List.mem_cons_of_mem _ hy)) z hz
theorem endAt_exact {c : Clk} {l : List Tx} (hI : InvA c l) {t : Tx} (ht : t ∈ l) {pre suf : List Int} {x e : Int} (ho : t.own = pre ++ x :: suf) (he : e = 2 ∨ e = 3 ∨ e = 4) (hne : c.st x ≠ e) (y : Int) : (c.endAt x e).st y = if y ∈ x :: suf then e else c.st y := by
  have hA := hI.tx t ht
  have hc := hI.ck.toClkOk
  have hxo : x ∈ t.own := by rw [ho]; simp
  have hkx := hA.kn x hxo
  have hends : c.ends x e = true := by
    unfold Clk.ends
    simp only [Bool.and_eq_true, decide_eq_true_eq]
    exact ⟨⟨⟨⟨by omega, by omega⟩, hkx⟩, hA.live hxo⟩, hne⟩
  have hbel : c.below x = c.all.foldl (c.belowStep x) [] := by unfold Clk.below; rw [if_pos hkx]
  have hso := hA.so
  rw [ho, List.pairwise_append] at hso
  have hch := hA.ch
  rw [ho, chain_app] at hch
  rw [endAt_st]
  have hiff : ((y ∈ c.below x ∨ y = x) ∧ c.live y = true) ↔ y ∈ x :: suf := by
    constructor
    · rintro ⟨h | h, hl⟩
      · rw [hbel] at h
        exact List.mem_cons_of_mem _ ((fold_sound hI ht ho c.all [] (fun z hz => (mem_all hc).1 hz) (fun _ h => by cases h) y h).2 hl)
      · rw [h]; exact List.mem_cons_self ..
    · intro h
      rcases List.mem_cons.1 h with rfl | h
      · exact ⟨.inr rfl, hA.live hxo⟩
      · have hyo : y ∈ t.own := by rw [ho]; simp [h]
        refine ⟨.inl ?_, hA.live hyo⟩
        rw [hbel]
        refine fold_all hc suf x hkx (.inl rfl) hch.2.2 hso.2.1 (fun z hz => ⟨hA.kn z (by rw [ho]; simp [hz]), fun e => ?_⟩) y h c.all [] (by simp) ((mem_all hc).2 (hA.kn y hyo))
        have := (List.pairwise_cons.1 hso.2.1).1 z hz
        rw [e] at this; omega
  by_cases h : y ∈ x :: suf
  · rw [if_pos h, if_pos ⟨hends, hiff.2 h⟩]
  · rw [if_neg h, if_neg fun h' => h (hiff.1 h'.2)]
/-! ### one transaction changes -/
theorem InvA.one {c c' : Clk} {s u : List Tx} {t t' : Tx} (h : InvA c (s ++ t :: u)) (hid : t'.id = t.id) (hck : CkOk c') (hlow : c'.low = c.low) (hkn : ∀ x, c.knows x = true → c'.knows x = true)
    (hoth : ∀ v ∈ s ++ t :: u, v.id ≠ t.id → ∀ x, Has v x → c'.st x = c.st x ∧ c'.ab x = c.ab x) (hA : AOk c' t') (hel : ∀ x, Has t' x → Has t x ∨ c.knows x = false) (hlv : ∀ x, c'.knows x = true → c'.live x = true → x ∈ t'.own ∨ (c.knows x = true ∧ c.live x = true ∧ x ∉ t.own)) : InvA c' (s ++ t' :: u) := by
  have hnd := h.nd
  rw [List.map_append, List.map_cons, List.nodup_append, List.nodup_cons] at hnd
  have hs : ∀ v ∈ s, v.id ≠ t.id := fun v hv e => hnd.2.2 v.id (List.mem_map.2 ⟨v, hv, rfl⟩) t.id (List.mem_cons_self ..) e
  have hu : ∀ v ∈ u, v.id ≠ t.id := fun v hv e => hnd.2.1.1 (List.mem_map.2 ⟨v, hv, e⟩)
  have hcase : ∀ v ∈ s ++ t' :: u, v = t' ∨ (v ∈ s ++ t :: u ∧ v.id ≠ t.id) := fun v hv => by
    rcases List.mem_append.1 hv with h | h
    · exact .inr ⟨List.mem_append_left _ h, hs v h⟩
    · rcases List.mem_cons.1 h with h | h
      · exact .inl h
      · exact .inr ⟨List.mem_append_right _ (List.mem_cons_of_mem _ h), hu v h⟩
  have hd : ∀ x, c'.d x = c.d x := fun x => by unfold Clk.d; rw [hlow]
  have htm : t ∈ s ++ t :: u := by simp
  refine ⟨hck, fun v hv => ?_, ?_, fun v hv w hw x hx1 hx2 => ?_, fun x h1 h2 => ?_⟩
  · rcases hcase v hv with rfl | ⟨hv, hne⟩
    · exact hA
    · have hB := h.tx v hv
      have hO := hoth v hv hne
      refine ⟨hB.pre, fun x hx => hkn x (hB.kn x hx), fun x hx => (hO x (.inl hx)).1.trans (hB.st x hx), chain_congr (fun x hx => (hO x (.inl hx)).2) hB.ch, by simp only [hd]; exact hB.so, fun g hg => ?_⟩
      obtain ⟨g1, g2, y, g3, g4⟩ := hB.go g hg
      exact ⟨hkn g g1, by rw [live_st (hO g (.inr hg)).1]; exact g2, y, g3, by rw [hd, hd]; exact g4⟩
  · rw [List.map_append, List.map_cons, hid, ← List.map_cons, ← List.map_append]; exact h.nd
  · rcases hcase v hv with e1 | ⟨hv2, hne⟩ <;> rcases hcase w hw with e2 | ⟨hw2, hne2⟩
    · rw [e1, e2]
    · rw [e1] at hx1 ⊢
      rcases hel x hx1 with h1 | h1
      · rw [hid]; exact h.dj t htm w hw2 x h1 hx2
      · rw [(h.tx w hw2).known hx2] at h1; cases h1
    · rw [e2] at hx2 ⊢
      rcases hel x hx2 with h1 | h1
      · rw [hid]; exact h.dj v hv2 t htm x hx1 h1
      · rw [(h.tx v hv2).known hx1] at h1; cases h1
    · exact h.dj v hv2 w hw2 x hx1 hx2
  · rcases hlv x h1 h2 with h3 | ⟨h3, h4, h5⟩
    · exact ⟨t', by simp, h3⟩
    · obtain ⟨v, hv, hx⟩ := h.lv x h3 h4
      rcases List.mem_append.1 hv with hv | hv
      · exact ⟨v, List.mem_append_left _ hv, hx⟩
      · rcases List.mem_cons.1 hv with rfl | hv
        · exact absurd hx h5
        · exact ⟨v, List.mem_append_right _ (List.mem_cons_of_mem _ hv), hx⟩
/-- what neither touches the xids nor the state -/
theorem InvA.flat {c : Clk} {s u : List Tx} {t t' : Tx} (h : InvA c (s ++ t :: u)) (hid : t'.id = t.id) (ho : t'.own = t.own) (hg : t'.gone = t.gone) (hp : t'.prepared = t.prepared) (hpre : ∃ k, t'.lvs.map (·.2) = t'.own ++ List.replicate k 0) : InvA c (s ++ t' :: u) := by
  have hA := h.tx t (by simp)
  refine h.one hid h.ck rfl (fun _ h => h) (fun _ _ _ _ _ => ⟨rfl, rfl⟩) ⟨hpre, by rw [ho]; exact hA.kn, by rw [ho, hp]; exact hA.st, by rw [ho]; exact hA.ch, by rw [ho]; exact hA.so, by rw [ho, hg]; exact hA.go⟩ (fun x hx => .inl (by unfold Has at *; rwa [ho, hg] at hx)) fun x h1 h2 => ?_
  by_cases hx : x ∈ t.own
  · exact .inl (by rw [ho]; exact hx)
  · exact .inr ⟨h1, h2, hx⟩
end Go.Proofs.Ytfkpjnomfmjplaa
namespace Go.Proofs.Ytfkpjnomfmjplaa
open Go.Sym
def nz (l : List Int) : List Int := l.filter fun x => decide (x ≠ 0)
theorem nz_all {l : List Int} (h : ∀ x ∈ l, x ≠ 0) : nz l = l := List.filter_eq_self.2 fun x hx => by simpa using h x hx
theorem nz_rep (k : Nat) : nz (List.replicate k 0) = [] := by
  unfold nz; rw [List.filter_eq_nil_iff]; intro x hx; rw [(List.mem_replicate.1 hx).2]; simp
theorem nz_app (a b : List Int) : nz (a ++ b) = nz a ++ nz b := List.filter_append ..
theorem xids_nz (l : List (ByteArray × Int)) : xidsOf l = nz (l.map (·.2)) := rfl
theorem own_ne {t : Tx} : ∀ x ∈ t.own, x ≠ 0 := fun x hx => by simpa using (List.mem_filter.1 hx).2
theorem pre_take {l : List (ByteArray × Int)} {k : Nat} (h : l.map (·.2) = xidsOf l ++ List.replicate k 0) (n : Nat) : (∃ k', (l.take n).map (·.2) = (xidsOf l).take n ++ List.replicate k' 0) ∧ xidsOf (l.take n) = (xidsOf l).take n ∧ xidsOf (l.drop n) = (xidsOf l).drop n := by
  have hO : ∀ x ∈ xidsOf l, x ≠ 0 := fun x hx => by simpa using (List.mem_filter.1 hx).2
  have h1 : (l.take n).map (·.2) = (xidsOf l).take n ++ List.replicate (min (n - (xidsOf l).length) k) 0 := by
    rw [List.map_take, h, List.take_append, List.take_replicate]
  have h2 : (l.drop n).map (·.2) = (xidsOf l).drop n ++ List.replicate (k - (n - (xidsOf l).length)) 0 := by
    rw [List.map_drop, h, List.drop_append, List.drop_replicate]
  refine ⟨⟨_, h1⟩, ?_, ?_⟩
  · rw [xids_nz (l.take n), h1, nz_app, nz_rep, List.append_nil, nz_all fun x hx => hO x (List.mem_of_mem_take hx)]
  · rw [xids_nz (l.drop n), h2, nz_app, nz_rep, List.append_nil, nz_all fun x hx => hO x (List.mem_of_mem_drop hx)]
theorem suf_out {c : Clk} {s u : List Tx} {t : Tx} (h : InvA c (s ++ t :: u)) {l : List Int} (hl : ∀ y ∈ l, Has t y) {v : Tx} (hv : v ∈ s ++ t :: u) (hne : v.id ≠ t.id) {x : Int} (hx : Has v x) : x ∉ l := fun hm => hne (h.dj v hv t (by simp) x hx (hl x hm))
theorem endAt_knows {c : Clk} (x e y : Int) : (c.endAt x e).knows y = c.knows y := knows_same (endAt_same c x e).1 (endAt_same c x e).2.1 y
theorem endAt_d {c : Clk} (x e y : Int) : (c.endAt x e).d y = c.d y := by unfold Clk.d; rw [(endAt_same c x e).1]
theorem live_of {c : Clk} {y e : Int} (h : c.st y = e) (he : e = 2 ∨ e = 3) : c.live y = false := by
  unfold Clk.live; rw [h]; rcases he with rfl | rfl <;> rfl
/-- going back -/
theorem InvA.back {c : Clk} {s u : List Tx} {t t' : Tx} (h : InvA c (s ++ t :: u)) (hp : t.prepared = false) {n : Nat} (hid : t'.id = t.id) (hown : t'.own = t.own.take (n + 1)) (hgone : t'.gone = t.gone ++ t.own.drop (n + 1)) (hpr : t'.prepared = false) (hpre : ∃ k, t'.lvs.map (·.2) = t'.own ++ List.replicate k 0) : InvA (c.endHd (t.own.drop (n + 1)) 3) (s ++ t' :: u) := by
  have htm : t ∈ s ++ t :: u := by simp
  have hA := h.tx t htm
  have hsp : t.own = t.own.take (n + 1) ++ t.own.drop (n + 1) := (List.take_append_drop _ _).symm
  cases hg : t.own.drop (n + 1) with
  | nil =>
    rw [hg, List.append_nil] at hgone hsp
    show InvA c _
    exact h.flat hid (hown.trans hsp.symm) hgone (hpr.trans hp.symm) hpre
  | cons x suf =>
    rw [hg] at hgone hsp
    have hp0 : t.own.take (n + 1) ≠ [] := by
      intro h0
      have h1 : (t.own.take (n + 1)).length = 0 := by rw [h0]; rfl
      have h2 : 0 < t.own.length := by have h3 := congrArg List.length hg; rw [List.length_drop, List.length_cons] at h3; omega
      rw [List.length_take] at h1
      omega
    generalize t.own.take (n + 1) = pre' at hown hsp hp0
    show InvA (c.endAt x 3) _
    have hst := endAt_exact h htm (e := 3) hsp (by omega) (by rw [hA.st x (by rw [hsp]; simp), hp]; decide)
    have hso := hA.so
    rw [hsp, List.pairwise_append] at hso
    have hno : ∀ y ∈ pre', y ∉ x :: suf := fun y hy hm => by have := hso.2.2 y hy y hm; omega
    have hin : ∀ y ∈ x :: suf, y ∈ t.own := fun y hy => by rw [hsp]; exact List.mem_append_right _ hy
    have hgo : ∀ g ∈ t.gone, g ∉ x :: suf := fun g hg hm => by
      have h1 := (hA.go g hg).2.1
      rw [hA.live (hin g hm)] at h1; cases h1
    refine h.one hid (ckOk_end h.ck x 3) (endAt_same c x 3).1 (fun y hy => by rw [endAt_knows]; exact hy) (fun v hv hne y hy => ?_) ⟨hpre, ?_, ?_, ?_, ?_, ?_⟩ (fun y hy => ?_) (fun y h1 h2 => ?_)
    · have := suf_out h (l := x :: suf) (fun z hz => .inl (hin z hz)) hv hne hy
      rw [hst, if_neg this]
      exact ⟨rfl, congrFun (endAt_same c x 3).2.2 y⟩
    · intro y hy
      rw [hown] at hy
      rw [endAt_knows]; exact hA.kn y (by rw [hsp]; exact List.mem_append_left _ hy)
    · intro y hy
      rw [hown] at hy
      rw [hst, if_neg (hno y hy), hA.st y (by rw [hsp]; exact List.mem_append_left _ hy), hp, hpr]
    · rw [hown]
      have hch := hA.ch
      rw [hsp, chain_app] at hch
      exact chain_congr (fun y _ => congrFun (endAt_same c x 3).2.2 y) hch.1
    · rw [hown]; simp only [endAt_d]; exact hso.1
    · intro g hgm
      rw [hgone] at hgm
      rw [endAt_knows]
      simp only [endAt_d]
      obtain ⟨y0, pr, hpr0⟩ : ∃ y0 pr, pre' = y0 :: pr := by
        cases pre' with
        | nil => exact absurd rfl hp0
        | cons a b => exact ⟨a, b, rfl⟩
      have hhd : t'.own.head? = some y0 := by rw [hown, hpr0]; rfl
      rcases List.mem_append.1 hgm with hgm | hgm
      · obtain ⟨g1, g2, y, g3, g4⟩ := hA.go g hgm
        refine ⟨g1, by rw [live_st ((hst g).trans (if_neg (hgo g hgm)))]; exact g2, y, ?_, g4⟩
        rw [hhd, ← g3, hsp, hpr0]; rfl
      · refine ⟨hA.kn g (hin g hgm), live_of ((hst g).trans (if_pos hgm)) (.inr rfl), y0, hhd, hso.2.2 y0 (by rw [hpr0]; exact List.mem_cons_self ..) g hgm⟩
    · rcases hy with hy | hy
      · rw [hown] at hy; exact .inl (.inl (by rw [hsp]; exact List.mem_append_left _ hy))
      · rw [hgone] at hy
        rcases List.mem_append.1 hy with hy | hy
        · exact .inl (.inr hy)
        · exact .inl (.inl (hin y hy))
    · rw [endAt_knows] at h1
      have hy : y ∉ x :: suf := fun hm => by rw [live_of ((hst y).trans (if_pos hm)) (.inr rfl)] at h2; cases h2
      rw [live_st ((hst y).trans (if_neg hy))] at h2
      by_cases hyo : y ∈ t.own
      · left
        rw [hown]
        rw [hsp] at hyo
        exact (List.mem_append.1 hyo).resolve_right hy
      · exact .inr ⟨h1, h2, hyo⟩
/-- ending -/
theorem InvA.del {c : Clk} {s u : List Tx} {t : Tx} (h : InvA c (s ++ t :: u)) {e : Int} (he : e = 2 ∨ e = 3) : InvA (c.endHd t.own e) (s ++ u) := by
  have htm : t ∈ s ++ t :: u := by simp
  have hA := h.tx t htm
  have hnd := h.nd
  rw [List.map_append, List.map_cons, List.nodup_append, List.nodup_cons] at hnd
  have hsub : ∀ v ∈ s ++ u, v ∈ s ++ t :: u ∧ v.id ≠ t.id := fun v hv => by
    rcases List.mem_append.1 hv with hv | hv
    · exact ⟨List.mem_append_left _ hv, fun e => hnd.2.2 v.id (List.mem_map.2 ⟨v, hv, rfl⟩) t.id (List.mem_cons_self ..) e⟩
    · exact ⟨List.mem_append_right _ (List.mem_cons_of_mem _ hv), fun e => hnd.2.1.1 (List.mem_map.2 ⟨v, hv, e⟩)⟩
  have hnd2 : ((s ++ u).map (·.id)).Nodup := by
    rw [List.map_append, List.nodup_append]
    exact ⟨hnd.1, hnd.2.1.2, fun a ha b hb => hnd.2.2 a ha b (List.mem_cons_of_mem _ hb)⟩
  have hdj : ∀ v ∈ s ++ u, ∀ w ∈ s ++ u, ∀ x, Has v x → Has w x → v.id = w.id := fun v hv w hw => h.dj v (hsub v hv).1 w (hsub w hw).1
  have hback : ∀ v ∈ s ++ t :: u, v ≠ t → v ∈ s ++ u := fun v hv hne => by
    rcases List.mem_append.1 hv with hv | hv
    · exact List.mem_append_left _ hv
    · exact List.mem_append_right _ ((List.mem_cons.1 hv).resolve_left hne)
  cases ho : t.own with
  | nil =>
    show InvA c _
    refine ⟨h.ck, fun v hv => h.tx v (hsub v hv).1, hnd2, hdj, fun y h1 h2 => ?_⟩
    obtain ⟨v, hv, hy⟩ := h.lv y h1 h2
    exact ⟨v, hback v hv (fun e => by rw [e, ho] at hy; cases hy), hy⟩
  | cons x suf =>
    show InvA (c.endAt x e) _
    have hst := endAt_exact h htm (e := e) (pre := []) ho (by omega) (by rw [hA.st x (by rw [ho]; simp)]; split <;> omega)
    rw [← ho] at hst
    refine ⟨ckOk_end h.ck x e, fun v hv => ?_, hnd2, hdj, fun y h1 h2 => ?_⟩
    · obtain ⟨hvm, hne⟩ := hsub v hv
      have hB := h.tx v hvm
      have hO : ∀ y, Has v y → (c.endAt x e).st y = c.st y ∧ (c.endAt x e).ab y = c.ab y := fun y hy => by
        rw [hst, if_neg (suf_out h (l := t.own) (fun z hz => .inl hz) hvm hne hy)]
        exact ⟨rfl, congrFun (endAt_same c x e).2.2 y⟩
      refine ⟨hB.pre, fun y hy => by rw [endAt_knows]; exact hB.kn y hy, fun y hy => (hO y (.inl hy)).1.trans (hB.st y hy), chain_congr (fun y hy => (hO y (.inl hy)).2) hB.ch, by simp only [endAt_d]; exact hB.so, fun g hg => ?_⟩
      obtain ⟨g1, g2, y, g3, g4⟩ := hB.go g hg
      rw [endAt_knows]
      simp only [endAt_d]
      exact ⟨g1, by rw [live_st (hO g (.inr hg)).1]; exact g2, y, g3, g4⟩
    · rw [endAt_knows] at h1
      have hy : y ∉ t.own := fun hm => by rw [live_of ((hst y).trans (if_pos hm)) he] at h2; cases h2
      rw [live_st ((hst y).trans (if_neg hy))] at h2
      obtain ⟨v, hv, hyv⟩ := h.lv y h1 h2
      exact ⟨v, hback v hv (fun e => hy (e ▸ hyv)), hyv⟩
/-- one more xid -/
theorem own_at {t : Tx} {done r : List (ByteArray × Int)} {nm : ByteArray} (hpre : ∃ k, t.lvs.map (·.2) = t.own ++ List.replicate k 0) (hl : t.lvs = done ++ (nm, 0) :: r) (hd : ∀ p ∈ done, p.2 ≠ 0) : t.own = done.map (·.2) ∧ nz (r.map (·.2)) = [] ∧ ∃ k, r.map (·.2) = List.replicate k 0 := by
  obtain ⟨k, hk⟩ := hpre
  have hdn : ∀ x ∈ done.map (·.2), x ≠ 0 := fun x hx => by obtain ⟨p, hp, rfl⟩ := List.mem_map.1 hx; exact hd p hp
  have ho : t.own = done.map (·.2) ++ nz (r.map (·.2)) := by
    show nz (t.lvs.map (·.2)) = _
    rw [hl, List.map_append, List.map_cons, nz_app, nz_all hdn]; rfl
  rw [hl, ho, List.map_append, List.map_cons, List.append_assoc] at hk
  have hk2 := List.append_cancel_left hk
  dsimp only at hk2
  cases hz : nz (r.map (·.2)) with
  | cons z zs =>
    rw [hz] at hk2
    injection hk2 with h1 _
    have : z ∈ nz (r.map (·.2)) := by rw [hz]; exact List.mem_cons_self ..
    have : z ≠ 0 := by simpa using (List.mem_filter.1 this).2
    exact absurd h1.symm this
  | nil =>
    rw [hz] at hk2 ho
    refine ⟨by rw [ho, List.append_nil], rfl, ?_⟩
    cases k with
    | zero => cases hk2
    | succ k => rw [List.nil_append, List.replicate_succ] at hk2; injection hk2 with _ h2; exact ⟨k, h2⟩
theorem InvA.begin1 {c : Clk} {s u : List Tx} {t : Tx} (h : InvA c (s ++ t :: u)) (hp : t.prepared = false) {done r : List (ByteArray × Int)} {nm : ByteArray} (hl : t.lvs = done ++ (nm, 0) :: r) (hd : ∀ p ∈ done, p.2 ≠ 0) (hb : c.beginE ((done.map (·.2)).getLastD 0) = 0) :
    c.beginX ((done.map (·.2)).getLastD 0) = c.next ∧ InvA (c.beginAt ((done.map (·.2)).getLastD 0)) (s ++ { t with lvs := done ++ (nm, c.next) :: r } :: u) := by
  have htm : t ∈ s ++ t :: u := by simp
  have hA := h.tx t htm
  have hc := h.ck.toClkOk
  obtain ⟨ho, hz, kr, hr⟩ := own_at hA.pre hl hd
  generalize hn : (done.map (·.2)).getLastD 0 = n at *
  unfold Clk.beginE at hb
  have hb1 : ¬ c.bad n = true := fun h' => by rw [if_pos h'] at hb; cases hb
  rw [if_neg hb1] at hb
  have hb2 : ¬ c.full = true := fun h' => by rw [if_pos h'] at hb; cases hb
  refine ⟨by unfold Clk.beginX; rw [if_neg hb1, if_neg hb2], ?_⟩
  have hck := ckOk_begin h.ck n
  have e3 : c.beginAt n = { low := c.low, next := nextR c.next, st := fun y => if y = c.next then 1 else c.st y, ab := fun y => if y = c.next then n else c.ab y } := by unfold Clk.beginAt; rw [if_neg hb1, if_neg hb2]
  rw [e3] at hck ⊢
  have hf' : c.len < 60 := by simpa [Clk.full, Clk.len] using hb2
  have hnx := d_next hc (by omega)
  have hny : c.knows c.next = false := by
    cases hk : c.knows c.next with
    | false => rfl
    | true => have := (knows_iff.1 hk).2; unfold Clk.d Clk.len at this; omega
  have hne : ∀ x, c.knows x = true → x ≠ c.next := fun x hx e => by rw [e, hny] at hx; cases hx
  have hkn : ∀ x, c.knows x = true → Clk.knows { low := c.low, next := nextR c.next, st := fun y => if y = c.next then 1 else c.st y, ab := fun y => if y = c.next then n else c.ab y } x = true := fun x hx => by
    rw [knows_iff] at hx ⊢
    exact ⟨hx.1, by show c.d x < stepsR c.low (nextR c.next); omega⟩
  have hkn2 : ∀ x, Clk.knows { low := c.low, next := nextR c.next, st := fun y => if y = c.next then 1 else c.st y, ab := fun y => if y = c.next then n else c.ab y } x = true → x = c.next ∨ c.knows x = true := fun x hx => by
    rw [knows_iff] at hx
    have h1 : c.d x < stepsR c.low (nextR c.next) := hx.2
    by_cases he : x = c.next
    · exact .inl he
    · right
      rw [knows_iff]
      have : c.d x ≠ c.len := fun e => he (d_inj hc hx.1 hc.next e)
      exact ⟨hx.1, by omega⟩
  have hy0 : c.next ≠ 0 := by have := hc.next; rw [onR_iff] at this; omega
  have hown : Tx.own { t with lvs := done ++ (nm, c.next) :: r } = t.own ++ [c.next] := by
    show nz ((done ++ (nm, c.next) :: r).map (·.2)) = _
    rw [List.map_append, List.map_cons, nz_app, ← ho, nz_all own_ne]
    congr 1
    show nz (c.next :: r.map (·.2)) = _
    unfold nz at hz ⊢
    rw [List.filter_cons, hz, if_pos (by simpa using hy0)]
  refine h.one rfl hck rfl hkn (fun v hv hvn x hx => ?_) ⟨⟨kr, ?_⟩, ?_, ?_, ?_, ?_, ?_⟩ (fun x hx => ?_) (fun x h1 h2 => ?_)
  · have := hne x ((h.tx v hv).known hx)
    exact ⟨if_neg this, if_neg this⟩
  · rw [hown, List.map_append, List.map_cons, hr, ← ho, List.append_assoc]; rfl
  · intro x hx
    rw [hown] at hx
    rcases List.mem_append.1 hx with hx | hx
    · exact hkn x (hA.kn x hx)
    · rw [List.mem_singleton.1 hx, knows_iff]
      exact ⟨hc.next, by show c.len < stepsR c.low (nextR c.next); omega⟩
  · intro x hx
    rw [hown] at hx
    show (if x = c.next then 1 else c.st x) = if t.prepared then 4 else 1
    rw [hp]
    rcases List.mem_append.1 hx with hx | hx
    · rw [if_neg (hne x (hA.kn x hx)), hA.st x hx, hp]
    · rw [if_pos (List.mem_singleton.1 hx)]; rfl
  · rw [hown, chain_app]
    refine ⟨chain_congr (fun x hx => if_neg (hne x (hA.kn x hx))) hA.ch, ?_, trivial⟩
    show (if c.next = c.next then n else _) = _
    rw [if_pos rfl, ho, hn]
  · rw [hown]
    show List.Pairwise (fun a b => c.d a < c.d b) _
    rw [List.pairwise_append]
    refine ⟨hA.so, by simp, fun a ha b hb => ?_⟩
    rw [List.mem_singleton.1 hb]
    exact (knows_iff.1 (hA.kn a ha)).2
  · intro g hg
    obtain ⟨g1, g2, y, g3, g4⟩ := hA.go g hg
    refine ⟨hkn g g1, ?_, y, ?_, g4⟩
    · rw [live_st (c' := { low := c.low, next := nextR c.next, st := fun y => if y = c.next then 1 else c.st y, ab := fun y => if y = c.next then n else c.ab y }) (c := c) (if_neg (hne g g1))]; exact g2
    · rw [hown, List.head?_append, g3]; rfl
  · rcases hx with hx | hx
    · rw [hown] at hx
      rcases List.mem_append.1 hx with hx | hx
      · exact .inl (.inl hx)
      · right; rw [List.mem_singleton.1 hx]; exact hny
    · exact .inl (.inr hx)
  · rcases hkn2 x h1 with rfl | hk
    · left; rw [hown]; simp
    · have hxn := hne x hk
      rw [live_st (c' := { low := c.low, next := nextR c.next, st := fun y => if y = c.next then 1 else c.st y, ab := fun y => if y = c.next then n else c.ab y }) (c := c) (if_neg hxn)] at h2
      by_cases hx : x ∈ t.own
      · left; rw [hown]; exact List.mem_append_left _ hx
      · exact .inr ⟨hk, h2, hx⟩
theorem InvA.xids : ∀ (rest : List (ByteArray × Int)) {c : Clk} {s u : List Tx} {t : Tx} {done : List (ByteArray × Int)}, (∀ p ∈ done, p.2 ≠ 0) → t.lvs = done ++ rest → t.prepared = false → InvA c (s ++ t :: u) →
    InvA (xidL c ((done.map (·.2)).getLastD 0) rest).1 (s ++ { t with lvs := done ++ (xidL c ((done.map (·.2)).getLastD 0) rest).2 } :: u)
  | [], c, s, u, t, done, _, hl, _, h => by
    have : { t with lvs := done ++ (xidL c ((done.map (·.2)).getLastD 0) []).2 } = t := by
      show { t with lvs := done ++ [] } = t
      rw [← hl]
    rw [this]; exact h
  | (nm, x) :: r, c, s, u, t, done, hd, hl, hp, h => by
    have hlast : ∀ y : Int, ((done ++ [((nm, y) : ByteArray × Int)]).map (·.2)).getLastD 0 = y := fun y => by simp
    by_cases hx : x = 0
    · subst hx
      by_cases hb : c.beginE ((done.map (·.2)).getLastD 0) = 0
      · obtain ⟨h1, h2⟩ := h.begin1 hp hl hd hb
        have e : xidL c ((done.map (·.2)).getLastD 0) ((nm, 0) :: r) = ((xidL (c.beginAt ((done.map (·.2)).getLastD 0)) c.next r).1, (nm, c.next) :: (xidL (c.beginAt ((done.map (·.2)).getLastD 0)) c.next r).2) := by
          conv => lhs; simp only [xidL]
          rw [if_pos trivial, if_neg (fun h => h hb), h1]
        rw [e]
        have hy0 : c.next ≠ 0 := by have := h.ck.next; rw [onR_iff] at this; omega
        have := InvA.xids r (done := done ++ [(nm, c.next)]) (t := { t with lvs := done ++ (nm, c.next) :: r }) (fun p hpm => by
          rcases List.mem_append.1 hpm with hpm | hpm
          · exact hd p hpm
          · rw [List.mem_singleton.1 hpm]; exact hy0) (by simp) hp h2
        rw [hlast] at this
        simpa using this
      · have e : xidL c ((done.map (·.2)).getLastD 0) ((nm, 0) :: r) = (c, (nm, 0) :: r) := by
          conv => lhs; simp only [xidL]
          rw [if_pos trivial, if_pos hb]
        rw [e]
        have : { t with lvs := done ++ (nm, (0 : Int)) :: r } = t := by rw [← hl]
        rw [this]; exact h
    · have e : xidL c ((done.map (·.2)).getLastD 0) ((nm, x) :: r) = ((xidL c x r).1, (nm, x) :: (xidL c x r).2) := by
        conv => lhs; simp only [xidL]
        rw [if_neg hx]
      rw [e]
      have := InvA.xids r (done := done ++ [(nm, x)]) (t := t) (fun p hpm => by
        rcases List.mem_append.1 hpm with hpm | hpm
        · exact hd p hpm
        · rw [List.mem_singleton.1 hpm]; exact hx) (by rw [hl]; simp) hp h
      rw [hlast] at this
      simpa using this
theorem InvA.add {c : Clk} {l : List Tx} (h : InvA c l) {t : Tx} (ho : t.own = []) (hg : t.gone = []) (hpre : ∃ k, t.lvs.map (·.2) = t.own ++ List.replicate k 0) (hid : ∀ u ∈ l, u.id ≠ t.id) : InvA c (l ++ [t]) := by
  have hno : ∀ x, ¬ Has t x := fun x hx => by unfold Has at hx; rw [ho, hg] at hx; simp at hx
  refine ⟨h.ck, fun u hu => ?_, ?_, fun u hu v hv x h1 h2 => ?_, fun x h1 h2 => ?_⟩
  · rcases List.mem_append.1 hu with hu | hu
    · exact h.tx u hu
    · rw [List.mem_singleton.1 hu]
      exact ⟨hpre, fun x hx => absurd (.inl hx) (hno x), fun x hx => absurd (.inl hx) (hno x), by rw [ho]; trivial, by rw [ho]; exact .nil, fun x hx => absurd (.inr hx) (hno x)⟩
  · rw [List.map_append, List.nodup_append]
    refine ⟨h.nd, by simp, fun a ha b hb => ?_⟩
    obtain ⟨u, hu, rfl⟩ := List.mem_map.1 ha
    have hb : b ∈ [t.id] := hb
    rw [List.mem_singleton.1 hb]; exact hid u hu
  · rcases List.mem_append.1 hu with hu | hu <;> rcases List.mem_append.1 hv with hv | hv
    · exact h.dj u hu v hv x h1 h2
    · rw [List.mem_singleton.1 hv] at h2; exact absurd h2 (hno x)
    · rw [List.mem_singleton.1 hu] at h1; exact absurd h1 (hno x)
    · rw [List.mem_singleton.1 hu] at h1; exact absurd h1 (hno x)
  · obtain ⟨u, hu, hx⟩ := h.lv x h1 h2
    exact ⟨u, List.mem_append_left _ hu, hx⟩
/-! ### the calls -/
structure InvT (T : Ts) : Prop where
  inv : InvA T.c T.l
  id : ∀ t ∈ T.l, 1 ≤ t.id ∧ t.id ≤ T.last
  last : 0 ≤ T.last
theorem runs_some {T : Ts} {id : Int} {t : Tx} (h : T.runs id = some t) : findT T.l id = some t ∧ t.prepared = false := by
  unfold Ts.runs at h
  cases hf : findT T.l id with
  | none => rw [hf] at h; cases h
  | some u =>
    rw [hf] at h
    cases hu : u.prepared with
    | true => simp [hu] at h
    | false => simp [hu] at h; subst h; exact ⟨rfl, hu⟩
theorem invT_upd {T : Ts} (h : InvT T) {id : Int} {t : Tx} (hf : findT T.l id = some t) {f : Tx → Tx} (hfid : ∀ t, (f t).id = t.id) {c : Clk} (hs : ∀ s u, InvA T.c (s ++ t :: u) → InvA c (s ++ f t :: u)) : InvT { T.upd id f with c := c } := by
  obtain ⟨s, u, hl, hid, _, _, h3, _⟩ := split_at h.inv.nd hf
  refine ⟨?_, fun v hv => ?_, h.last⟩
  · show InvA c (setT T.l id f)
    rw [h3]
    have := h.inv
    rw [hl] at this
    exact hs s u this
  · rcases mem_setT hv with hv | ⟨w, hw, _, rfl⟩
    · exact h.id v hv
    · rw [hfid]; exact h.id w hw
theorem invT_flat {T : Ts} (h : InvT T) {id : Int} {t : Tx} (hf : findT T.l id = some t) {f : Tx → Tx} (hfid : ∀ t, (f t).id = t.id) (ho : (f t).own = t.own) (hg : (f t).gone = t.gone) (hp : (f t).prepared = t.prepared) (hpre : (∃ k, t.lvs.map (·.2) = t.own ++ List.replicate k 0) → ∃ k, (f t).lvs.map (·.2) = (f t).own ++ List.replicate k 0) : InvT (T.upd id f) :=
  invT_upd (c := T.c) h hf hfid fun s u hi => hi.flat (hfid t) ho hg hp (hpre (hi.tx t (by simp)).pre)
inductive Do (T : Ts) : Ts → Prop
  | begin (m : Int) : Do T (T.begin m)
  | xid (id : Int) : Do T (T.xid id)
  | save (id : Int) (s : ByteArray) : Do T (T.save id s)
  | back (id : Int) (s : ByteArray) : Do T (T.back id s)
  | fail (id : Int) (b : Bool) : Do T (T.fail id b)
  | done (id : Int) (b : Bool) : Do T (T.done id b)
theorem invT_do {T T' : Ts} (h : InvT T) (hd : Do T T') : InvT T' := by
  cases hd with
  | begin m =>
    unfold Ts.begin
    split
    · refine ⟨h.inv.add rfl rfl ⟨1, rfl⟩ (fun u hu => ?_), fun t ht => ?_, ?_⟩
      · have := h.id u hu; show u.id ≠ T.last + 1; omega
      · show 1 ≤ t.id ∧ t.id ≤ T.last + 1
        have hl := h.last
        rcases List.mem_append.1 ht with ht | ht
        · have := h.id t ht; omega
        · rw [List.mem_singleton.1 ht]
          show 1 ≤ T.last + 1 ∧ T.last + 1 ≤ T.last + 1
          omega
      · show 0 ≤ T.last + 1
        have := h.last; omega
    · exact h
  | xid id =>
    unfold Ts.xid
    split
    · exact h
    · rename_i t hr
      obtain ⟨hf, hp⟩ := runs_some hr
      split
      · exact h
      · exact invT_upd h hf (f := fun u => { u with lvs := (xidL T.c 0 t.lvs).2 }) (fun _ => rfl) fun s u hi => by
          have := InvA.xids t.lvs (done := []) (by simp) rfl hp hi
          exact this
  | save id s =>
    unfold Ts.save
    split
    · exact h
    · rename_i t hr
      split
      · exact h
      · have ho : Tx.own { t with lvs := t.lvs ++ [(s, 0)] } = t.own := by
          show xidsOf (t.lvs ++ [(s, 0)]) = xidsOf t.lvs
          rw [xids_nz, List.map_append, nz_app]
          show nz (t.lvs.map (·.2)) ++ nz [0] = _
          rw [show nz [(0 : Int)] = [] from nz_rep 1, List.append_nil]; rfl
        exact invT_flat h (runs_some hr).1 (f := fun t => { t with lvs := t.lvs ++ [(s, 0)] }) (fun _ => rfl) ho rfl rfl fun ⟨k, hk⟩ => ⟨k + 1, by
          rw [ho, List.map_append, hk, List.append_assoc, show List.map (fun x : ByteArray × Int => x.2) [(s, (0 : Int))] = [0] from rfl, ← List.replicate_succ']⟩
  | back id s =>
    unfold Ts.back
    split
    · exact h
    · rename_i t hr
      obtain ⟨hf, hp⟩ := runs_some hr
      split
      · exact h
      · rename_i k hk
        refine invT_upd h hf (f := fun u => { u with lvs := t.lvs.take (k + 1) ++ [(s, 0)], gone := t.gone ++ xidsOf (t.lvs.drop (k + 1)), failed := false }) (fun _ => rfl) fun s' u hi => ?_
        obtain ⟨kk, hkk⟩ := (hi.tx t (by simp)).pre
        obtain ⟨⟨k2, h2⟩, h3, h4⟩ := pre_take hkk (k + 1)
        have ho : xidsOf (t.lvs.take (k + 1) ++ [(s, 0)]) = t.own.take (k + 1) := by
          rw [xids_nz, List.map_append, nz_app]
          show nz ((t.lvs.take (k + 1)).map (·.2)) ++ nz [0] = _
          rw [show nz [(0 : Int)] = [] from nz_rep 1, List.append_nil, ← xids_nz, h3]; rfl
        rw [h4]
        exact hi.back (t' := { t with lvs := t.lvs.take (k + 1) ++ [(s, 0)], gone := t.gone ++ (xidsOf t.lvs).drop (k + 1), failed := false }) hp rfl ho rfl hp ⟨k2 + 1, by
          show (t.lvs.take (k + 1) ++ [(s, 0)]).map (fun p : ByteArray × Int => p.2) = xidsOf (t.lvs.take (k + 1) ++ [(s, 0)]) ++ _
          rw [ho, List.map_append, h2, List.append_assoc, show List.map (fun x : ByteArray × Int => x.2) [(s, (0 : Int))] = [0] from rfl, ← List.replicate_succ']; rfl⟩
  | fail id b =>
    unfold Ts.fail
    split
    · exact h
    · rename_i t hr
      exact invT_flat h (runs_some hr).1 (fun _ => rfl) rfl rfl rfl fun h => h
  | done id b =>
    unfold Ts.done
    split
    · exact h
    · rename_i t hf
      split
      · exact h
      · obtain ⟨s, u, hl, hid, _, _, _, h4⟩ := split_at h.inv.nd hf
        refine ⟨?_, fun v hv => h.id v (List.mem_filter.1 hv).1, h.last⟩
        show InvA (T.c.endHd t.own (if b then 2 else 3)) (delT T.l id)
        rw [h4]
        have := h.inv
        rw [hl] at this
        exact this.del (by cases b <;> simp)
theorem invT_T0 (nx : Int) : InvT ⟨Clk.new (3 + nx % 125), [], 0⟩ := by
  have hon : onR (3 + nx % 125) = true := by rw [onR_iff]; omega
  have e1 : Clk.new (3 + nx % 125) = ⟨3 + nx % 125, 3 + nx % 125, fun _ => 0, fun _ => 0⟩ := by unfold Clk.new; rw [if_pos hon]
  have hno : ∀ x, (Clk.new (3 + nx % 125)).knows x = true → False := fun x hx => by
    have h1 := (knows_iff.1 hx).2
    have h2 : (Clk.new (3 + nx % 125)).len = 0 := by rw [e1]; exact stepsR_self _
    have := d_range (Clk.new (3 + nx % 125)) x
    omega
  refine ⟨⟨⟨⟨?_, ?_⟩, ?_, fun x hx => (hno x hx).elim⟩, fun _ h => (by cases h), List.Pairwise.nil, fun _ h => (by cases h), fun x hx => (hno x hx).elim⟩, fun _ h => (by cases h), Int.le_refl _⟩
  · show onR (Clk.new _).low = true; rw [e1]; exact hon
  · show onR (Clk.new _).next = true; rw [e1]; exact hon
  · show (Clk.new _).len ≤ 60; rw [e1]; unfold Clk.len; rw [stepsR_self]; omega
end Go.Proofs.Ytfkpjnomfmjplaa
namespace Go.Sym
open Go
theorem held_perm {L ps ps' R : List Blk} (h : Held L ps R) (hp : ps.Perm ps') : Held L ps' R := by
  obtain ⟨G, hG⟩ := h
  exact ⟨G, hG.trans (hp.append_right _)⟩
end Go.Sym
namespace Go.Proofs.Ytfkpjnomfmjplaa
open Go.Sym
set_option maxHeartbeats 8000000 in
theorem of_tri {K : Nat} {T : Ts} {tb cb mm : Nat} {es : Array MapEntry} {cl : Nat} {ρ : Int → TM} (h : TsOk K T es cl ρ) (hK : K ≤ 1000000) {t : Tx} (ht : t ∈ T.l) {x : Int} (hx : Has t x) (h2 : x ≠ 2) (h0 : T.c.state x ≠ 0) (hu : ∀ u ∈ T.l, Has u x → u = t) : TriQ Try.prog 32 #[tP tb, .int .i64 x] (TsB T tb cb mm es cl ρ) (.int .i64 t.id) := by
  have f_mixed := mixed; have f_by3 := by3; have f_en31 := en31; have f_en42 := en42; have f_en44 := en44; have f_en56 := en56; have f_en63 := en63; have f_fo74_0 := fo74_0; have f_fo74_1 := fo74_1; have f_fo80_2 := fo80_2; have f_fo80_3 := fo80_3; have f_ty3 := ty3; have f_ty36 := ty36; have f_ty53 := ty53; have f_ty72 := ty72; have f_ty76 := ty76; have f_ty77 := ty77; have f_un_23 : Und Try.prog 23 _ := ⟨Try.underlying23⟩; have f_un_36 : Und Try.prog 36 _ := ⟨Try.underlying36⟩; have f_un_72 : Und Try.prog 72 _ := ⟨Try.underlying72⟩; have f_zero3 := zero3; have f_zero76 := zero76; have f_zv3 := zv3; have f_zv76 := zv76
  have f_kl := KL3
  have f_M := h.map
  have c1 := sorted_ts h tb cb mm
  have c2 := state_tri h.ck cb x
  have h2' : ¬ x = 2 := h2
  unfold TriQ TsB
  refine tri_perm' ?_
  refine tri_intro (args := [_, _]) Try.func32 rfl Try.ntmps32 rfl (rs := _) rfl rfl fun E R => ?_
  simp only [fr, List.cons_append, List.nil_append]
  (refine sr_ ?_; (refine ac_ ?_); refine sn_ ?_; (apply sc_seq); refine sr_ ?_; (refine mv_ ?_); (refine se_ (ex_eqp_f ev_ .const asm_) ?_); (refine mv_ ?_); (refine wt_ ?_); (refine mv_ ?_); (refine wt_ ?_); (refine se_ (ex_eql_f ev_ .const om_) ?_); (refine se_ (ex_pick_f ev_ ev_) ?_); (refine mv_ ?_); (refine wt_ ?_); (refine mv_ ?_); (refine wt_ ?_); (refine se_ (ex_nilCheck ev_) ?_); (refine wt_ ?_); (refine se_ (ex_fieldAddr ev_ asm_) ?_); (refine wt_ ?_); (refine se_ (ex_load1 ev_ asm_ mem_ nth_) ?_); (refine wt_ ?_); (refine mv_ ?_); (refine wt_ ?_); (apply so_callq; (exact Ev.func); (focus ((apply EvL.cons; (exact ev_)); (apply EvL.cons; (exact ev_)); exact EvL.nil)); (focus (repeat (first | exact App.nil | apply App.cons))); assumption; exact c2; (exact sel_); exact rfl); (refine wt_ ?_); (refine se_ (ex_eql_f ev_ .const om_) ?_); (refine se_ (ex_pick_f ev_ ev_) ?_); refine sn_ ?_; (refine cf_ ?_); (apply sc_skip); (apply nm_then); (apply sc_seq); refine sr_ ?_; (refine mv_ ?_))
  (apply so_call; (exact Ev.func); (focus ((apply EvL.cons; (exact ev_)); exact EvL.nil)); (focus (repeat (first | exact App.nil | apply App.cons))); assumption; (exact c1); (exact sel_); exact rfl)
  rintro v L ⟨zs, B, hB, hzp, rfl, _⟩
  have hzl : zs.length ≤ 16 := by rw [hzp.length_eq, List.length_map]; exact h.len
  have hmt : t.id ∈ zs := hzp.mem_iff.2 (List.mem_map.2 ⟨t, ht, rfl⟩)
  rcases hB.cases with ⟨rfl, rfl, rfl⟩ | ⟨b5, cap5, junk5, rfl, hj5, rfl⟩
  · cases hmt
  simp only [List.append_assoc, List.cons_append, List.nil_append]
  ((refine se_ (ex_len_slice ev_ asm_) ?_); (refine se_ (ex_move .const) ?_); refine sn_ ?_; (apply sc_block))
  refine sc_loop (fun k f L => ∃ i : Nat, k = zs.length - i ∧ i ≤ zs.length ∧ t.id ∉ zs.take i ∧ At f 0 (tP tb) ∧ At f 1 (.int .i64 x) ∧ At f 24 (.slice (some ⟨b5, 0, none⟩) zs.length cap5) ∧ At f 25 (.int .i64 (zs.length : Int)) ∧ At f 26 (.int .i64 (i : Int)) ∧ Held L ((b5, .cells (zs.map (Value.int .i64) ++ junk5).toArray 3) :: hdr T tb cb mm :: (mm, .map es cl) :: cB cb T.c :: PB ρ T.l) R) _ ⟨0, rfl, Nat.zero_le _, by simp, at_, at_, at_, at_, at_, held_⟩ ?_
  rintro k f L ⟨i, hk, hi, hni, a0, a1, a24, a25, a26, ⟨G, hG⟩⟩
  refine sc_perm hG ?_
  clear hG
  by_cases hlt : i < zs.length
  · have hlt' : (i : Int) < (zs.length : Int) := by omega
    have e1 : ((i + 1 : Nat) : Int) = (i : Int) + 1 := by omega
    have hz := zs_nth (junk := junk5) hlt
    obtain ⟨u, hum, hid⟩ := sorted_mem hzp (List.getElem_mem hlt)
    have hlk := look_at h hum
    have htk : zs.take (i + 1) = zs.take i ++ [u.id] := by rw [List.take_succ_eq_append_getElem hlt, hid]
    have hni2 : u ≠ t → t.id ∉ zs.take (i + 1) := fun hne hm => by
      rw [htk] at hm
      rcases List.mem_append.1 hm with hm | hm
      · exact hni hm
      · exact hne (nd_eq h.nd hum ht (List.mem_singleton.1 hm).symm)
    rw [← hid] at hz
    have hf := findT_mem h.nd hum
    obtain ⟨PO, h1, _, _⟩ := pb_split (ρ := ρ) h.nd hf
    obtain ⟨b, lb, cap, junk, sp, SB, gv, GB, hm, hj, hne, hle⟩ := (h.tx u hum).open
    have hgo := (h.tx u hum).go
    have hgl := h.gone u hum
    unfold tblks thdr at h1
    rw [hm] at h1 hlk hgo
    dsimp only at hgo
    simp only [List.append_assoc, List.cons_append, List.nil_append] at h1 ⊢
    refine sc_perm (((((h1.append_right (G ++ R)).cons _).cons _).cons _).cons _) ?_
    have hback := (((h1.symm.cons (cB cb T.c)).cons (mm, .map es cl)).cons (hdr T tb cb mm)).cons (b5, Obj.cells (zs.map (Value.int .i64) ++ junk5).toArray 3)
    simp only [List.append_assoc, List.cons_append, List.nil_append]
    have cg := contains_tri hgo (by omega) x
    obtain ⟨gp, gcap, rfl, hgrow⟩ := hgo
    have c3 := fun bx => xids_tri (bx := bx) (cap := cap) (T := 91) (fz := (0, 0)) (lvAt_mk u.lvs junk) (by omega) (lb := lb)
    by_cases hg : x ∈ u.gone
    · rw [decide_eq_true hg] at cg
      have : u = t := hu u hum (.inr hg)
      subst this
      (refine sr_ ?_; (refine se_ (ex_lss_t ev_ ev_ om_) ?_); refine sn_ ?_; (apply sc_seq); (refine ct_ ?_); (apply sc_skip); (apply nm_then); (apply sc_seq); (apply sc_block); refine sr_ ?_; (refine se_ (ex_indexAddr ev_ ev_ asm_ asm_ lit_ lt_) ?_); (apply so_ex; (apply ex_load1r; (exact ev_); assumption; (exact mem_); exact hz); exact rfl); (refine asg_ ?_); refine sn_ ?_; refine sr_ ?_; (refine mv_ ?_); (refine se_ (ex_nilCheck ev_) ?_); (refine se_ (ex_fieldAddr ev_ asm_) ?_); (refine se_ (ex_load1 ev_ asm_ mem_ nth_) ?_); (refine mv_ ?_); (apply so_ex; (apply ex_look; (exact ev_); (exact mem_); assumption; (exact ev_); (first | exact keyEq .. | exact rfl); assumption; assumption; assumption; (first | exact lookEq .. | exact lookEq3 .. | exact lookEq4 .. | assumption | exact rfl)); exact rfl); (refine asg_ ?_); refine sn_ ?_; refine sr_ ?_; (refine mv_ ?_); (refine se_ (ex_nilCheck ev_) ?_); (refine se_ (ex_fieldAddr ev_ asm_) ?_); (refine se_ (ex_load1 ev_ asm_ mem_ nth_) ?_); (refine mv_ ?_); (apply so_callq; (exact Ev.func); (focus ((apply EvL.cons; (exact ev_)); (apply EvL.cons; (exact ev_)); exact EvL.nil)); (focus (repeat (first | exact App.nil | apply App.cons))); assumption; exact cg; (exact sel_); exact rfl); (refine mv_ ?_); (refine sk_ ?_); (refine sk_ ?_); (refine sk_ ?_); (refine sk_ ?_); (refine sk_ ?_); (refine sk_ ?_); (refine sk_ ?_); (refine sk_ ?_); (refine se_ (ex_pick_t ev_ .const) ?_); refine sn_ ?_; (refine ct_ ?_); refine sr_ ?_; (refine mv_ ?_); (refine asg_ ?_); refine sn_ ?_; (apply sc_ret); (apply rt_block); (apply rt_then); (apply rt_then); (apply rt_block); (apply rt_then))
      (apply ret_ok; (focus ((apply Res.tmp; (exact ev_)); exact Res.nil)); (exact ⟨_, ((h1.symm.cons _).cons _).cons _, rfl, rfl⟩); (exact sel_); (exact appb_))
    · rw [decide_eq_false hg] at cg
      (refine sr_ ?_; (refine se_ (ex_lss_t ev_ ev_ om_) ?_); refine sn_ ?_; (apply sc_seq); (refine ct_ ?_); (apply sc_skip); (apply nm_then); (apply sc_seq); (apply sc_block); refine sr_ ?_; (refine se_ (ex_indexAddr ev_ ev_ asm_ asm_ lit_ lt_) ?_); (apply so_ex; (apply ex_load1r; (exact ev_); assumption; (exact mem_); exact hz); exact rfl); (refine asg_ ?_); refine sn_ ?_; refine sr_ ?_; (refine mv_ ?_); (refine se_ (ex_nilCheck ev_) ?_); (refine se_ (ex_fieldAddr ev_ asm_) ?_); (refine se_ (ex_load1 ev_ asm_ mem_ nth_) ?_); (refine mv_ ?_); (apply so_ex; (apply ex_look; (exact ev_); (exact mem_); assumption; (exact ev_); (first | exact keyEq .. | exact rfl); assumption; assumption; assumption; (first | exact lookEq .. | exact lookEq3 .. | exact lookEq4 .. | assumption | exact rfl)); exact rfl); (refine asg_ ?_); refine sn_ ?_; refine sr_ ?_; (refine mv_ ?_); (refine se_ (ex_nilCheck ev_) ?_); (refine se_ (ex_fieldAddr ev_ asm_) ?_); (refine se_ (ex_load1 ev_ asm_ mem_ nth_) ?_); (refine mv_ ?_); (apply so_callq; (exact Ev.func); (focus ((apply EvL.cons; (exact ev_)); (apply EvL.cons; (exact ev_)); exact EvL.nil)); (focus (repeat (first | exact App.nil | apply App.cons))); assumption; exact cg; (exact sel_); exact rfl); (refine mv_ ?_); (refine wt_ ?_); (refine mv_ ?_); (refine wt_ ?_); (refine se_ (ex_nilCheck ev_) ?_); (refine wt_ ?_); (refine se_ (ex_fieldAddr ev_ asm_) ?_); (refine wt_ ?_); (refine se_ (ex_load1 ev_ asm_ mem_ nth_) ?_); (refine wt_ ?_); (apply so_call; (exact Ev.func); (focus ((apply EvL.cons; (exact ev_)); exact EvL.nil)); (focus (repeat (first | exact App.nil | apply App.cons))); assumption; exact numbers_tri _ _ _; (exact sel_); exact rfl; rintro _ _ ⟨bx, rfl, rfl⟩; simp only [List.append_assoc, List.cons_append, List.nil_append]); (refine wt_ ?_))
      (apply so_call; (exact Ev.func); (focus ((apply EvL.cons; (exact ev_)); exact EvL.nil)); (focus (repeat (first | exact App.nil | apply App.cons))); assumption; (exact c3 bx); (exact sel_); exact rfl)
      rintro v L ⟨B6, ⟨hB6, _⟩, rfl⟩
      have cown := contains_tri hB6 (by have := xids_len u.lvs; omega) x
      obtain ⟨p6, cap6, rfl, hrow6⟩ := hB6
      simp only [List.append_assoc, List.cons_append, List.nil_append]
      by_cases ho : x ∈ xidsOf u.lvs
      · rw [decide_eq_true ho] at cown
        have : u = t := hu u hum (.inl ho)
        subst this
        ((refine wt_ ?_); (refine mv_ ?_); (refine wt_ ?_); (apply so_callq; (exact Ev.func); (focus ((apply EvL.cons; (exact ev_)); (apply EvL.cons; (exact ev_)); exact EvL.nil)); (focus (repeat (first | exact App.nil | apply App.cons))); assumption; exact cown; (exact sel_); exact rfl); (refine se_ (ex_pick_f ev_ ev_) ?_); refine sn_ ?_; (refine ct_ ?_); refine sr_ ?_; (refine mv_ ?_); (refine asg_ ?_); refine sn_ ?_; (apply sc_ret); (apply rt_block); (apply rt_then); (apply rt_then); (apply rt_block); (apply rt_then))
        (apply ret_ok; (focus ((apply Res.tmp; (exact ev_)); exact Res.nil)); (exact ⟨_, ((h1.symm.cons _).cons _).cons _, rfl, rfl⟩); (exact sel_); (exact appb_))
      · rw [decide_eq_false ho] at cown
        have hne2 : u ≠ t := fun e => by
          subst e
          exact hx.elim ho hg
        ((refine wt_ ?_); (refine mv_ ?_); (refine wt_ ?_); (apply so_callq; (exact Ev.func); (focus ((apply EvL.cons; (exact ev_)); (apply EvL.cons; (exact ev_)); exact EvL.nil)); (focus (repeat (first | exact App.nil | apply App.cons))); assumption; exact cown; (exact sel_); exact rfl); (refine se_ (ex_pick_f ev_ ev_) ?_); refine sn_ ?_; (refine cf_ ?_); (apply sc_skip); (apply nm_block); (apply nm_then); (apply sc_region); (refine se_ (ex_add ev_ .const wr_) ?_); (refine mv_ ?_); (apply so_nil); (apply nm_then))
        exact ⟨zs.length - (i + 1), by omega, i + 1, rfl, by omega, hni2 hne2, at_, at_, at_, at_, by rw [e1]; exact at_, held_perm held_ hback⟩
  · have hlt' : ¬ (i : Int) < (zs.length : Int) := by omega
    obtain rfl : i = zs.length := by omega
    rw [List.take_length] at hni
    exact absurd hmt hni
end Go.Proofs.Ytfkpjnomfmjplaa
