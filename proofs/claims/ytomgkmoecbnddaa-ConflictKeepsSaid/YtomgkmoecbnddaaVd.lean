/- Conflict: the reference: Begin. -/
import Derived.Test.YtomgkmoecbnddaaVb
set_option linter.unusedVariables false
set_option linter.unusedSimpArgs false
set_option linter.unnecessarySimpa false
namespace Go.Proofs.Ytomgkmoecbnddaa
open Go.Sym
def besP (tx : Int) (y : RT) : Bool := !decide (y.id = tx) && !y.ro && !decide (y.st = 3)
theorem besR_eq (l : List RT) (tx : Int) : besR l tx = (l.filter (besP tx)).map (·.id) := rfl
theorem besR_take {l : List RT} {tx : Int} {j : Nat} (h : j < l.length) : besR (l.take (j + 1)) tx = besR (l.take j) tx ++ (if besP tx l[j] then [l[j].id] else []) := by
  rw [besR_eq, besR_eq, List.take_succ_eq_append_getElem h, List.filter_append, List.map_append]
  by_cases hb : besP tx l[j] = true
  · rw [if_pos hb]; simp [hb]
  · rw [if_neg hb]; simp [hb]
theorem besR_len (l : List RT) (tx : Int) : (besR l tx).length ≤ l.length := by
  rw [besR_eq, List.length_map]; exact List.length_filter_le _ _
theorem row_sl {zs : List Int} {o : Option Addr} {c : Nat} {B : List Blk} (h : Row 3 1 (.slice o zs.length c) (zs.map (Value.int .i64)) B) (X : List Blk) : SlM zs o (B ++ X) := fun hp => by
  obtain ⟨b, junk, ho, rfl, _, _⟩ := row_open h hp
  exact ⟨b, junk, ho, List.mem_append_left _ (List.mem_cons_self ..)⟩
theorem SlM.right {zs : List Int} {o : Option Addr} {B : List Blk} (h : SlM zs o B) (X : List Blk) : SlM zs o (X ++ B) := fun hp => by
  obtain ⟨b, junk, ho, hm⟩ := h hp
  exact ⟨b, junk, ho, List.mem_append_right _ hm⟩
def putS (sv : Sv) (k : Int) (v : Option Addr × Nat × Nat) : Sv := fun x => if x = k then v else sv x
theorem tcells_congr {sv sv' : Sv} {l : List RT} (h : ∀ x ∈ l, sv' x.id = sv x.id) : tcells sv' l = tcells sv l := by
  unfold tcells
  induction l with
  | nil => rfl
  | cons a l ih =>
    rw [List.flatMap_cons, List.flatMap_cons, ih fun x hx => h x (List.mem_cons_of_mem _ hx)]
    congr 1
    unfold RT.cells; rw [h a (List.mem_cons_self ..)]
theorem splice {α : Type} {A C C' D J : List α} {n m : Nat} (hA : A.length = n) (hC : C.length = m) (hC' : C'.length = m) : A ++ (C' ++ D) ++ J = (A ++ (C ++ D) ++ J).take n ++ C' ++ (A ++ (C ++ D) ++ J).drop (n + m) := by
  have e1 : A ++ (C ++ D) ++ J = A ++ (C ++ (D ++ J)) := by simp only [List.append_assoc]
  have e2 : A ++ (C ++ (D ++ J)) = (A ++ C) ++ (D ++ J) := by simp only [List.append_assoc]
  rw [e1, List.take_left' hA, e2, List.drop_left' (by rw [List.length_append, hA, hC])]
  simp only [List.append_assoc]
theorem t_store2 {sv sv' : Sv} {l : List RT} (junk : List Value) {i : Nat} (hi : i < l.length) (y : RT) (hs : ∀ x ∈ l, x.id ≠ y.id → sv' x.id = sv x.id) (hn : (l.map (·.id)).Nodup) (hy : l[i].id = y.id) :
    tcells sv' (l.set i y) ++ junk = (tcells sv l ++ junk).take (0 + i * 7) ++ y.cells sv' ++ (tcells sv l ++ junk).drop (0 + i * 7 + (y.cells sv').length) ∧ 0 + i * 7 + (y.cells sv').length ≤ (tcells sv l ++ junk).length := by
  have e : l = l.take i ++ l[i] :: l.drop (i + 1) := by rw [List.getElem_cons_drop, List.take_append_drop]
  have e2 : l.set i y = l.take i ++ y :: l.drop (i + 1) := by rw [List.set_eq_take_append_cons_drop, if_pos hi]
  have hn2 := hn
  rw [e, List.map_append, List.map_cons, List.nodup_append, List.nodup_cons] at hn2
  have h1 : ∀ x ∈ l.take i, sv' x.id = sv x.id := fun x hx => hs x (List.mem_of_mem_take hx) fun e => hn2.2.2 _ (List.mem_map.2 ⟨x, hx, rfl⟩) _ (List.mem_cons_self ..) (e.trans hy.symm)
  have h2 : ∀ x ∈ l.drop (i + 1), sv' x.id = sv x.id := fun x hx => hs x (List.mem_of_mem_drop hx) fun e => hn2.2.1.1 (List.mem_map.2 ⟨x, hx, e.trans hy.symm⟩)
  have k1 : (tcells sv (l.take i)).length = i * 7 := by unfold tcells; rw [rows_len (tlen sv), List.length_take, Nat.min_eq_left (by omega)]
  have k2 : tcells sv l = tcells sv (l.take i) ++ (l[i].cells sv ++ tcells sv (l.drop (i + 1))) := by
    conv => lhs; rw [e]
    unfold tcells; rw [List.flatMap_append, List.flatMap_cons]
  have k3 : tcells sv' (l.set i y) = tcells sv (l.take i) ++ (y.cells sv' ++ tcells sv (l.drop (i + 1))) := by
    rw [e2, ← tcells_congr h1, ← tcells_congr h2]
    unfold tcells; rw [List.flatMap_append, List.flatMap_cons]
  have k4 : (y.cells sv').length = 7 := rfl
  have k5 : (l[i].cells sv).length = 7 := rfl
  rw [k3, k2, k4, Nat.zero_add]
  refine ⟨splice k1 k5 k4, ?_⟩
  simp only [List.length_append, k1, k5]; omega
theorem nx_cells (sv : Sv) (g : RG) (tx : Int) (ro : Bool) (o : Option Addr) (c : Nat) : RT.cells (putS sv tx (o, (besR g.L tx).length, c)) (newR g tx ro) = [Value.int .i64 tx, .int .i64 g.n, .int .i64 1, .int .i64 0, .bool ro, .bool false, .slice o (besR g.L tx).length c] := by
  unfold RT.cells newR putS
  simp only [if_true]
set_option maxHeartbeats 8000000 in
theorem beginR2_tri {K : Nat} {g : RG} {p : Nat} {Lb : List Blk} (hR : RRep K g p Lb) (hok : ROk g) (hK : K + 1 ≤ 500) (tx : Int) (ro : Bool) :
    Tri Try.prog 39 #[.pointer (some ⟨p, 0, none⟩), .int .i64 tx, .bool ro] Lb fun v L' => v = .tuple #[] ∧ RRep (K + 1) (g.begin tx ro) p L' := by
  have f_mixed := mixed; have f_by3 := by3; have f_by85 := by85; have f_en44 := en44; have f_en53 := en53; have f_fo59_0 := fo59_0; have f_fo59_2 := fo59_2; have f_fo85_0 := fo85_0; have f_fo85_2 := fo85_2; have f_fo85_4 := fo85_4; have f_fo85_6 := fo85_6; have f_pl85_0 := pl85_0; have f_pl85_1 := pl85_1; have f_pl85_2 := pl85_2; have f_pl85_4 := pl85_4; have f_st85 := st85; have f_ty25 := ty25; have f_ty3 := ty3; have f_ty4 := ty4; have f_ty56 := ty56; have f_ty85 := ty85; have f_un_25 : Und Try.prog 25 _ := ⟨Try.underlying25⟩; have f_un_56 : Und Try.prog 56 _ := ⟨Try.underlying56⟩; have f_zero3 := zero3; have f_zero85 := zero85; have f_zv3 := zv3; have f_zv85 := zv85
  obtain ⟨ol, cl, oe, ce, sv, BL, BE, BB, rfl, h⟩ := hR
  have hk := h.k
  have hsl := h.sl
  have hse := h.se
  have hn := h.n
  have hat := at_tri (p := p) (cl := cl) (ve := .slice oe g.E.length ce) (n := g.n) (row_tx h.l (BE ++ BB)) (show g.L.length ≤ 1000000 by omega) tx
  refine tri_intro (args := [_, _, _]) Try.func39 rfl Try.ntmps39 rfl (rs := []) rfl rfl fun E R => ?_
  simp only [fr, hdr, List.cons_append, List.append_assoc] at hat ⊢
  ((apply sc_seq); ((fail_if_success (apply sc_region (id := 1))); apply sc_region); (refine mv_ ?_); (refine mv_ ?_); (apply so_callq; (exact Ev.func); (focus ((apply EvL.cons; (exact ev_)); (apply EvL.cons; (exact ev_)); exact EvL.nil)); (focus (repeat (first | exact App.nil | apply App.cons))); assumption; exact hat; (exact sel_); exact rfl); (refine asg_ ?_); refine sn_ ?_; (apply sc_seq); (apply sc_seq))
  refine SC.mono (Q := fun u f L' => u = .normal ∧ ∃ s : Bool, (s = true ↔ ∃ x, findR g.L tx = some x ∧ (x.st ≠ 1 ∨ x.ro = false ∨ ro = false)) ∧ At f 40 (.bool s) ∧ At f 0 (.pointer (some ⟨p, 0, none⟩)) ∧ At f 1 (.int .i64 tx) ∧ At f 2 (.bool ro) ∧ At f 6 (.int .i64 (atV g.L tx)) ∧ Held L' ((p, Obj.cells [Value.slice ol g.L.length cl, .slice oe g.E.length ce, .int .i64 g.n].toArray 59) :: (BL ++ (BE ++ BB))) R) ?_ ?_
  · cases hf : findR g.L tx with
    | none =>
      rw [atV_none hf]
      ((apply sc_region); (refine mv_ ?_); (refine se_ (ex_geq_f ev_ .const om_) ?_); (refine mv_ ?_); (refine sk_ ?_); (refine sk_ ?_); (refine sk_ ?_); (refine sk_ ?_); (refine sk_ ?_); (refine sk_ ?_); (refine sk_ ?_); (refine sk_ ?_); (refine sk_ ?_); (refine sk_ ?_); (refine su_ ?_); (refine su_ ?_); (refine su_ ?_); (refine su_ ?_); (refine su_ ?_); (refine su_ ?_); (refine su_ ?_); (refine su_ ?_); (refine su_ ?_); (refine sk_ ?_); (refine sk_ ?_); (refine su_ ?_); (refine su_ ?_); (refine sk_ ?_); (refine se_ (ex_pick_f ev_ .const) ?_); (apply so_nil))
      exact ⟨rfl, false, ⟨fun e => (by cases e), fun ⟨x, e, _⟩ => (by cases e)⟩, at_, at_, at_, at_, at_, held_⟩
    | some x =>
      obtain ⟨i, hi, hx, hv⟩ := atV_some hf
      rw [hv]
      obtain ⟨b, junk, ho, hBL, hl, hj⟩ := row_open h.l (by omega)
      have hgm : ((b, Obj.cells (tcells sv g.L ++ junk).toArray 85) : Blk) ∈ BL := by rw [hBL]; exact List.mem_cons_self ..
      subst ho
      obtain ⟨_, _, x2, _, x4, _⟩ := t_cells (sv := sv) junk hi hx
      by_cases h1 : x.st = 1
      · cases h2 : x.ro with
        | true =>
          rw [h2] at x4
          cases ro with
          | true =>
            ((apply sc_region); (refine mv_ ?_); (refine se_ (ex_geq_t ev_ .const om_) ?_); (refine mv_ ?_); (refine wt_ ?_); (refine mv_ ?_); (refine wt_ ?_); (refine se_ (ex_nilCheck ev_) ?_); (refine wt_ ?_); (refine se_ (ex_fieldAddr ev_ asm_) ?_); (refine wt_ ?_); (refine se_ (ex_load1 ev_ asm_ mem_ nth_) ?_); (refine wt_ ?_); (refine mv_ ?_); (refine wt_ ?_); (refine se_ (ex_indexAddr ev_ ev_ asm_ asm_ lit_ lt_) ?_); (refine wt_ ?_); (refine se_ (ex_fieldAddr ev_ asm_) ?_); (refine wt_ ?_); (apply so_ex; (apply ex_load1r; (exact ev_); assumption; (exact mem_); (first | exact x2 | exact x4)); exact rfl); (refine wt_ ?_); (refine se_ (ex_neq_f ev_ .const om_) ?_); (refine wt_ ?_); (refine mv_ ?_); (refine wt_ ?_); (refine mv_ ?_); (refine wt_ ?_); (refine se_ (ex_nilCheck ev_) ?_); (refine wt_ ?_); (refine se_ (ex_fieldAddr ev_ asm_) ?_); (refine wt_ ?_); (refine se_ (ex_load1 ev_ asm_ mem_ nth_) ?_); (refine wt_ ?_); (refine mv_ ?_); (refine wt_ ?_); (refine se_ (ex_indexAddr ev_ ev_ asm_ asm_ lit_ lt_) ?_); (refine wt_ ?_); (refine se_ (ex_fieldAddr ev_ asm_) ?_); (refine wt_ ?_); (apply so_ex; (apply ex_load1r; (exact ev_); assumption; (exact mem_); (first | exact x2 | exact x4)); exact rfl); (refine wt_ ?_); (refine se_ (ex_not ev_) ?_); (refine wt_ ?_); (refine se_ (ex_pick_f ev_ ev_) ?_); (refine wt_ ?_); (refine mv_ ?_); (refine wt_ ?_); (refine mv_ ?_); (refine wt_ ?_); (refine se_ (ex_not ev_) ?_); (refine wt_ ?_); (refine se_ (ex_pick_f ev_ ev_) ?_); (refine se_ (ex_pick_t ev_ ev_) ?_); (apply so_nil))
            exact ⟨rfl, false, ⟨fun e => (by cases e), fun ⟨y, e, h⟩ => by injection e with e; subst e; rcases h with h | h | h; exact absurd h1 h; rw [h2] at h; cases h; cases h⟩, at_, at_, at_, at_, at_, held_⟩
          | false =>
            ((apply sc_region); (refine mv_ ?_); (refine se_ (ex_geq_t ev_ .const om_) ?_); (refine mv_ ?_); (refine wt_ ?_); (refine mv_ ?_); (refine wt_ ?_); (refine se_ (ex_nilCheck ev_) ?_); (refine wt_ ?_); (refine se_ (ex_fieldAddr ev_ asm_) ?_); (refine wt_ ?_); (refine se_ (ex_load1 ev_ asm_ mem_ nth_) ?_); (refine wt_ ?_); (refine mv_ ?_); (refine wt_ ?_); (refine se_ (ex_indexAddr ev_ ev_ asm_ asm_ lit_ lt_) ?_); (refine wt_ ?_); (refine se_ (ex_fieldAddr ev_ asm_) ?_); (refine wt_ ?_); (apply so_ex; (apply ex_load1r; (exact ev_); assumption; (exact mem_); (first | exact x2 | exact x4)); exact rfl); (refine wt_ ?_); (refine se_ (ex_neq_f ev_ .const om_) ?_); (refine wt_ ?_); (refine mv_ ?_); (refine wt_ ?_); (refine mv_ ?_); (refine wt_ ?_); (refine se_ (ex_nilCheck ev_) ?_); (refine wt_ ?_); (refine se_ (ex_fieldAddr ev_ asm_) ?_); (refine wt_ ?_); (refine se_ (ex_load1 ev_ asm_ mem_ nth_) ?_); (refine wt_ ?_); (refine mv_ ?_); (refine wt_ ?_); (refine se_ (ex_indexAddr ev_ ev_ asm_ asm_ lit_ lt_) ?_); (refine wt_ ?_); (refine se_ (ex_fieldAddr ev_ asm_) ?_); (refine wt_ ?_); (apply so_ex; (apply ex_load1r; (exact ev_); assumption; (exact mem_); (first | exact x2 | exact x4)); exact rfl); (refine wt_ ?_); (refine se_ (ex_not ev_) ?_); (refine wt_ ?_); (refine se_ (ex_pick_f ev_ ev_) ?_); (refine wt_ ?_); (refine mv_ ?_); (refine wt_ ?_); (refine mv_ ?_); (refine wt_ ?_); (refine se_ (ex_not ev_) ?_); (refine wt_ ?_); (refine se_ (ex_pick_f ev_ ev_) ?_); (refine se_ (ex_pick_t ev_ ev_) ?_); (apply so_nil))
            exact ⟨rfl, true, ⟨fun _ => ⟨x, rfl, .inr (.inr rfl)⟩, fun _ => rfl⟩, at_, at_, at_, at_, at_, held_⟩
        | false =>
          rw [h2] at x4
          ((apply sc_region); (refine mv_ ?_); (refine se_ (ex_geq_t ev_ .const om_) ?_); (refine mv_ ?_); (refine wt_ ?_); (refine mv_ ?_); (refine wt_ ?_); (refine se_ (ex_nilCheck ev_) ?_); (refine wt_ ?_); (refine se_ (ex_fieldAddr ev_ asm_) ?_); (refine wt_ ?_); (refine se_ (ex_load1 ev_ asm_ mem_ nth_) ?_); (refine wt_ ?_); (refine mv_ ?_); (refine wt_ ?_); (refine se_ (ex_indexAddr ev_ ev_ asm_ asm_ lit_ lt_) ?_); (refine wt_ ?_); (refine se_ (ex_fieldAddr ev_ asm_) ?_); (refine wt_ ?_); (apply so_ex; (apply ex_load1r; (exact ev_); assumption; (exact mem_); (first | exact x2 | exact x4)); exact rfl); (refine wt_ ?_); (refine se_ (ex_neq_f ev_ .const om_) ?_); (refine wt_ ?_); (refine mv_ ?_); (refine wt_ ?_); (refine mv_ ?_); (refine wt_ ?_); (refine se_ (ex_nilCheck ev_) ?_); (refine wt_ ?_); (refine se_ (ex_fieldAddr ev_ asm_) ?_); (refine wt_ ?_); (refine se_ (ex_load1 ev_ asm_ mem_ nth_) ?_); (refine wt_ ?_); (refine mv_ ?_); (refine wt_ ?_); (refine se_ (ex_indexAddr ev_ ev_ asm_ asm_ lit_ lt_) ?_); (refine wt_ ?_); (refine se_ (ex_fieldAddr ev_ asm_) ?_); (refine wt_ ?_); (apply so_ex; (apply ex_load1r; (exact ev_); assumption; (exact mem_); (first | exact x2 | exact x4)); exact rfl); (refine wt_ ?_); (refine se_ (ex_not ev_) ?_); (refine wt_ ?_); (refine se_ (ex_pick_f ev_ ev_) ?_); (refine wt_ ?_); (refine mv_ ?_); (refine sk_ ?_); (refine sk_ ?_); (refine wt_ ?_); (refine se_ (ex_pick_t ev_ .const) ?_); (refine se_ (ex_pick_t ev_ ev_) ?_); (apply so_nil))
          exact ⟨rfl, true, ⟨fun _ => ⟨x, rfl, .inr (.inl h2)⟩, fun _ => rfl⟩, at_, at_, at_, at_, at_, held_⟩
      · ((apply sc_region); (refine mv_ ?_); (refine se_ (ex_geq_t ev_ .const om_) ?_); (refine mv_ ?_); (refine wt_ ?_); (refine mv_ ?_); (refine wt_ ?_); (refine se_ (ex_nilCheck ev_) ?_); (refine wt_ ?_); (refine se_ (ex_fieldAddr ev_ asm_) ?_); (refine wt_ ?_); (refine se_ (ex_load1 ev_ asm_ mem_ nth_) ?_); (refine wt_ ?_); (refine mv_ ?_); (refine wt_ ?_); (refine se_ (ex_indexAddr ev_ ev_ asm_ asm_ lit_ lt_) ?_); (refine wt_ ?_); (refine se_ (ex_fieldAddr ev_ asm_) ?_); (refine wt_ ?_); (apply so_ex; (apply ex_load1r; (exact ev_); assumption; (exact mem_); (first | exact x2 | exact x4)); exact rfl); (refine wt_ ?_); (refine se_ (ex_neq_t ev_ .const om_) ?_); (refine wt_ ?_); (refine mv_ ?_); (refine sk_ ?_); (refine sk_ ?_); (refine sk_ ?_); (refine sk_ ?_); (refine sk_ ?_); (refine sk_ ?_); (refine sk_ ?_); (refine sk_ ?_); (refine sk_ ?_); (refine wt_ ?_); (refine se_ (ex_pick_t ev_ .const) ?_); (refine wt_ ?_); (refine mv_ ?_); (refine sk_ ?_); (refine sk_ ?_); (refine wt_ ?_); (refine se_ (ex_pick_t ev_ .const) ?_); (refine se_ (ex_pick_t ev_ ev_) ?_); (apply so_nil))
        exact ⟨rfl, true, ⟨fun _ => ⟨x, rfl, .inl h1⟩, fun _ => rfl⟩, at_, at_, at_, at_, at_, held_⟩
  rintro u f L' ⟨rfl, s, hs, a40, a0, a1, a2, a6, ⟨G, hG⟩⟩
  refine nm_then (sc_perm hG ?_)
  simp only [List.cons_append, List.append_assoc]
  cases s with
  | true =>
    obtain ⟨x, hf, hc⟩ := hs.1 rfl
    have e1 : g.begin tx ro = g := by unfold RG.begin; rw [hf]; dsimp only; rw [if_pos hc]
    rw [e1]
    ((refine ct_ ?_); (apply sc_ret); (apply rt_then); (apply ret_ok; (focus (exact Res.nil)); (exact ⟨rfl, ol, cl, oe, ce, sv, BL, BE, BB, rfl, h.same (Nat.le_succ K) hK⟩); (exact sel_); (exact appb_)))
  | false =>
  have hs' : ∀ x, findR g.L tx = some x → ¬ (x.st ≠ 1 ∨ x.ro = false ∨ ro = false) := fun x e h => Bool.false_ne_true (hs.2 ⟨x, e, h⟩)
  ((refine cf_ ?_); (apply sc_skip); (apply nm_then); refine sr_ ?_; (refine mv_ ?_); (refine mv_ ?_); (refine se_ (ex_nilCheck ev_) ?_); (refine se_ (ex_fieldAddr ev_ asm_) ?_); (refine se_ (ex_load1 ev_ asm_ mem_ nth_) ?_); (refine mv_ ?_); (apply so_ex; (apply ex_build; ((focus ((apply EvP.cons; (exact ev_)); (apply EvP.cons; (exact ev_)); (apply EvP.cons; (exact Ev.const)); (apply EvP.cons; (exact ev_)); exact EvP.nil))); assumption; ((focus (repeat (first | exact Bld.nil (by assumption) | (apply Bld.cons; assumption; exact rfl; exact rfl; (focus (repeat (first | exact SetSub.nil | apply SetSub.take | apply SetSub.drop))))))))); exact rfl); (apply so_alloc; assumption; exact rfl; intro _); (apply so_store; (exact ev_); (exact ev_); assumption; exact rfl; exact rfl; exact rfl; (focus (repeat (first | exact Turn.here | apply Turn.there | apply Turn.pre))); (focus (repeat (first | exact SetSub.nil | apply SetSub.take | apply SetSub.drop)))); refine sn_ ?_; (apply sc_seq); refine sr_ ?_; (refine ac_ ?_); refine sn_ ?_; (apply sc_block))
  rename_i bx
  refine sc_loop (fun q f L' => ∃ (j : Nat) (W : List Int) (o : Option Addr) (cap : Nat) (B : List Blk), j ≤ g.L.length ∧ q = g.L.length - j ∧ W = besR (g.L.take j) tx ∧ Row 3 1 (.slice o W.length cap) (W.map (Value.int .i64)) B ∧ At f 0 (.pointer (some ⟨p, 0, none⟩)) ∧ At f 1 (.int .i64 tx) ∧ At f 2 (.bool ro) ∧ At f 6 (.int .i64 (atV g.L tx)) ∧ At f 7 (.pointer (some ⟨bx, 0, none⟩)) ∧ At f 8 (.int .i64 (j : Int)) ∧
    Held L' ((bx, Obj.cells [Value.int .i64 tx, .int .i64 g.n, .int .i64 1, .int .i64 0, .bool ro, .bool false, .slice o W.length cap].toArray 85) :: (p, Obj.cells [Value.slice ol g.L.length cl, .slice oe g.E.length ce, .int .i64 g.n].toArray 59) :: (BL ++ (BE ++ (B ++ BB)))) R) _
    ⟨0, [], none, 0, [], by omega, rfl, rfl, .nil, at_, at_, at_, at_, at_, at_, held_⟩ ?_
  clear a0 a1 a2 a6 a40 hG
  rintro q f L' ⟨j, W, o, cap, B, hj, hq, hW, hB, a0, a1, a2, a6, a7, a8, ⟨G, hG⟩⟩
  refine sc_perm hG ?_
  simp only [List.cons_append, List.append_assoc]
  have hWl : W.length ≤ g.L.length := by rw [hW]; exact Nat.le_trans (besR_len _ _) (List.length_take_le' _ _)
  by_cases hlt : j < g.L.length
  · have hlt' : (j : Int) < (g.L.length : Int) := by omega
    obtain ⟨b, junk, ho, hBL, hl, hjj⟩ := row_open h.l (by omega)
    have hgm : ((b, Obj.cells (tcells sv g.L ++ junk).toArray 85) : Blk) ∈ BL := by rw [hBL]; exact List.mem_cons_self ..
    subst ho
    have htk := besR_take (tx := tx) hlt
    have hy7 := t_get (sv := sv) junk hlt
    rw [← hW] at htk
    generalize g.L[j] = y at htk hy7
    have hy7 : ∀ q, q < [Value.int .i64 y.id, .int .i64 y.bg, .int .i64 y.st, .int .i64 y.sq, .bool y.ro, .bool y.dm, .slice (sv y.id).1 (sv y.id).2.1 (sv y.id).2.2].length → (tcells sv g.L ++ junk)[0 + j * 7 + q]? = [Value.int .i64 y.id, .int .i64 y.bg, .int .i64 y.st, .int .i64 y.sq, .bool y.ro, .bool y.dm, .slice (sv y.id).1 (sv y.id).2.1 (sv y.id).2.2][q]? := hy7
    by_cases c1 : y.id = tx
    · have hb : besP tx y = false := by simp [besP, c1]
      rw [hb] at htk
      simp only [Bool.false_eq_true, if_false, List.append_nil] at htk
      ((apply sc_seq); refine sr_ ?_; (refine mv_ ?_); (refine mv_ ?_); (refine se_ (ex_nilCheck ev_) ?_); (refine se_ (ex_fieldAddr ev_ asm_) ?_); (refine se_ (ex_load1 ev_ asm_ mem_ nth_) ?_); (refine se_ (ex_len_slice ev_ asm_) ?_); (refine se_ (ex_lss_t ev_ ev_ om_) ?_); refine sn_ ?_; (refine ct_ ?_); (apply sc_skip); (apply nm_then); (apply sc_seq); (apply sc_block); refine sr_ ?_; (refine mv_ ?_); (refine se_ (ex_nilCheck ev_) ?_); (refine se_ (ex_fieldAddr ev_ asm_) ?_); (refine se_ (ex_load1 ev_ asm_ mem_ nth_) ?_); (refine mv_ ?_); (refine se_ (ex_indexAddr ev_ ev_ asm_ asm_ lit_ lt_) ?_); (apply so_ex; (apply ex_loadNr (r := [Value.int .i64 y.id, .int .i64 y.bg, .int .i64 y.st, .int .i64 y.sq, .bool y.ro, .bool y.dm, .slice (sv y.id).1 (sv y.id).2.1 (sv y.id).2.2]); (exact ev_); assumption; (exact mem_); exact rfl; exact hy7); exact rfl); (apply so_alloc; assumption; exact rfl; intro _); (apply so_store; (exact ev_); (exact ev_); assumption; exact rfl; exact rfl; exact rfl; (focus (repeat (first | exact Turn.here | apply Turn.there | apply Turn.pre))); (focus (repeat (first | exact SetSub.nil | apply SetSub.take | apply SetSub.drop)))); refine sn_ ?_; refine sr_ ?_; (refine se_ (ex_fieldAddr ev_ asm_) ?_); (refine se_ (ex_load1 ev_ asm_ mem_ nth_) ?_); (refine mv_ ?_); (refine se_ (ex_neq_f ev_ ev_ om_) ?_); (refine mv_ ?_); (refine sk_ ?_); (refine sk_ ?_); (refine sk_ ?_); (refine se_ (ex_pick_f ev_ .const) ?_); (refine mv_ ?_); (refine sk_ ?_); (refine sk_ ?_); (refine sk_ ?_); (refine se_ (ex_pick_f ev_ .const) ?_); refine sn_ ?_; (refine cf_ ?_); (apply sc_skip); (apply nm_block); (apply nm_then); (apply sc_region); (refine mv_ ?_); (refine se_ (ex_add ev_ .const wr_) ?_); (refine asg_ ?_); (apply so_nil); (apply nm_then))
      exact ⟨_, by rw [hq]; omega, j + 1, W, o, cap, B, by omega, rfl, htk.symm, hB, at_, at_, at_, at_, at_, at_, held_⟩
    · cases c2 : y.ro with
      | true =>
        rw [c2] at hy7
        have hb : besP tx y = false := by simp [besP, c2]
        rw [hb] at htk
        simp only [Bool.false_eq_true, if_false, List.append_nil] at htk
        ((apply sc_seq); refine sr_ ?_; (refine mv_ ?_); (refine mv_ ?_); (refine se_ (ex_nilCheck ev_) ?_); (refine se_ (ex_fieldAddr ev_ asm_) ?_); (refine se_ (ex_load1 ev_ asm_ mem_ nth_) ?_); (refine se_ (ex_len_slice ev_ asm_) ?_); (refine se_ (ex_lss_t ev_ ev_ om_) ?_); refine sn_ ?_; (refine ct_ ?_); (apply sc_skip); (apply nm_then); (apply sc_seq); (apply sc_block); refine sr_ ?_; (refine mv_ ?_); (refine se_ (ex_nilCheck ev_) ?_); (refine se_ (ex_fieldAddr ev_ asm_) ?_); (refine se_ (ex_load1 ev_ asm_ mem_ nth_) ?_); (refine mv_ ?_); (refine se_ (ex_indexAddr ev_ ev_ asm_ asm_ lit_ lt_) ?_); (apply so_ex; (apply ex_loadNr (r := [Value.int .i64 y.id, .int .i64 y.bg, .int .i64 y.st, .int .i64 y.sq, .bool true, .bool y.dm, .slice (sv y.id).1 (sv y.id).2.1 (sv y.id).2.2]); (exact ev_); assumption; (exact mem_); exact rfl; exact hy7); exact rfl); (apply so_alloc; assumption; exact rfl; intro _); (apply so_store; (exact ev_); (exact ev_); assumption; exact rfl; exact rfl; exact rfl; (focus (repeat (first | exact Turn.here | apply Turn.there | apply Turn.pre))); (focus (repeat (first | exact SetSub.nil | apply SetSub.take | apply SetSub.drop)))); refine sn_ ?_; refine sr_ ?_; (refine se_ (ex_fieldAddr ev_ asm_) ?_); (refine se_ (ex_load1 ev_ asm_ mem_ nth_) ?_); (refine mv_ ?_); (refine se_ (ex_neq_t ev_ ev_ om_) ?_); (refine mv_ ?_); (refine wt_ ?_); (refine se_ (ex_fieldAddr ev_ asm_) ?_); (refine wt_ ?_); (refine se_ (ex_load1 ev_ asm_ mem_ nth_) ?_); (refine wt_ ?_); (refine se_ (ex_not ev_) ?_); (refine se_ (ex_pick_t ev_ ev_) ?_); (refine mv_ ?_); (refine sk_ ?_); (refine sk_ ?_); (refine sk_ ?_); (refine se_ (ex_pick_f ev_ .const) ?_); refine sn_ ?_; (refine cf_ ?_); (apply sc_skip); (apply nm_block); (apply nm_then); (apply sc_region); (refine mv_ ?_); (refine se_ (ex_add ev_ .const wr_) ?_); (refine asg_ ?_); (apply so_nil); (apply nm_then))
        exact ⟨_, by rw [hq]; omega, j + 1, W, o, cap, B, by omega, rfl, htk.symm, hB, at_, at_, at_, at_, at_, at_, held_⟩
      | false =>
        rw [c2] at hy7
        by_cases c3 : y.st = 3
        · have hb : besP tx y = false := by simp [besP, c3]
          rw [hb] at htk
          simp only [Bool.false_eq_true, if_false, List.append_nil] at htk
          ((apply sc_seq); refine sr_ ?_; (refine mv_ ?_); (refine mv_ ?_); (refine se_ (ex_nilCheck ev_) ?_); (refine se_ (ex_fieldAddr ev_ asm_) ?_); (refine se_ (ex_load1 ev_ asm_ mem_ nth_) ?_); (refine se_ (ex_len_slice ev_ asm_) ?_); (refine se_ (ex_lss_t ev_ ev_ om_) ?_); refine sn_ ?_; (refine ct_ ?_); (apply sc_skip); (apply nm_then); (apply sc_seq); (apply sc_block); refine sr_ ?_; (refine mv_ ?_); (refine se_ (ex_nilCheck ev_) ?_); (refine se_ (ex_fieldAddr ev_ asm_) ?_); (refine se_ (ex_load1 ev_ asm_ mem_ nth_) ?_); (refine mv_ ?_); (refine se_ (ex_indexAddr ev_ ev_ asm_ asm_ lit_ lt_) ?_); (apply so_ex; (apply ex_loadNr (r := [Value.int .i64 y.id, .int .i64 y.bg, .int .i64 y.st, .int .i64 y.sq, .bool false, .bool y.dm, .slice (sv y.id).1 (sv y.id).2.1 (sv y.id).2.2]); (exact ev_); assumption; (exact mem_); exact rfl; exact hy7); exact rfl); (apply so_alloc; assumption; exact rfl; intro _); (apply so_store; (exact ev_); (exact ev_); assumption; exact rfl; exact rfl; exact rfl; (focus (repeat (first | exact Turn.here | apply Turn.there | apply Turn.pre))); (focus (repeat (first | exact SetSub.nil | apply SetSub.take | apply SetSub.drop)))); refine sn_ ?_; refine sr_ ?_; (refine se_ (ex_fieldAddr ev_ asm_) ?_); (refine se_ (ex_load1 ev_ asm_ mem_ nth_) ?_); (refine mv_ ?_); (refine se_ (ex_neq_t ev_ ev_ om_) ?_); (refine mv_ ?_); (refine wt_ ?_); (refine se_ (ex_fieldAddr ev_ asm_) ?_); (refine wt_ ?_); (refine se_ (ex_load1 ev_ asm_ mem_ nth_) ?_); (refine wt_ ?_); (refine se_ (ex_not ev_) ?_); (refine se_ (ex_pick_t ev_ ev_) ?_); (refine mv_ ?_); (refine wt_ ?_); (refine se_ (ex_fieldAddr ev_ asm_) ?_); (refine wt_ ?_); (refine se_ (ex_load1 ev_ asm_ mem_ nth_) ?_); (refine wt_ ?_); (refine se_ (ex_neq_f ev_ .const om_) ?_); (refine se_ (ex_pick_t ev_ ev_) ?_); refine sn_ ?_; (refine cf_ ?_); (apply sc_skip); (apply nm_block); (apply nm_then); (apply sc_region); (refine mv_ ?_); (refine se_ (ex_add ev_ .const wr_) ?_); (refine asg_ ?_); (apply so_nil); (apply nm_then))
          exact ⟨_, by rw [hq]; omega, j + 1, W, o, cap, B, by omega, rfl, htk.symm, hB, at_, at_, at_, at_, at_, at_, held_⟩
        · have hb : besP tx y = true := by simp [besP, c1, c2, c3]
          rw [hb] at htk
          simp only [if_true] at htk
          have hWl2 : W.length ≤ 1000000000 := by omega
          ((apply sc_seq); refine sr_ ?_; (refine mv_ ?_); (refine mv_ ?_); (refine se_ (ex_nilCheck ev_) ?_); (refine se_ (ex_fieldAddr ev_ asm_) ?_); (refine se_ (ex_load1 ev_ asm_ mem_ nth_) ?_); (refine se_ (ex_len_slice ev_ asm_) ?_); (refine se_ (ex_lss_t ev_ ev_ om_) ?_); refine sn_ ?_; (refine ct_ ?_); (apply sc_skip); (apply nm_then); (apply sc_seq); (apply sc_block); refine sr_ ?_; (refine mv_ ?_); (refine se_ (ex_nilCheck ev_) ?_); (refine se_ (ex_fieldAddr ev_ asm_) ?_); (refine se_ (ex_load1 ev_ asm_ mem_ nth_) ?_); (refine mv_ ?_); (refine se_ (ex_indexAddr ev_ ev_ asm_ asm_ lit_ lt_) ?_); (apply so_ex; (apply ex_loadNr (r := [Value.int .i64 y.id, .int .i64 y.bg, .int .i64 y.st, .int .i64 y.sq, .bool false, .bool y.dm, .slice (sv y.id).1 (sv y.id).2.1 (sv y.id).2.2]); (exact ev_); assumption; (exact mem_); exact rfl; exact hy7); exact rfl); (apply so_alloc; assumption; exact rfl; intro _); (apply so_store; (exact ev_); (exact ev_); assumption; exact rfl; exact rfl; exact rfl; (focus (repeat (first | exact Turn.here | apply Turn.there | apply Turn.pre))); (focus (repeat (first | exact SetSub.nil | apply SetSub.take | apply SetSub.drop)))); refine sn_ ?_; refine sr_ ?_; (refine se_ (ex_fieldAddr ev_ asm_) ?_); (refine se_ (ex_load1 ev_ asm_ mem_ nth_) ?_); (refine mv_ ?_); (refine se_ (ex_neq_t ev_ ev_ om_) ?_); (refine mv_ ?_); (refine wt_ ?_); (refine se_ (ex_fieldAddr ev_ asm_) ?_); (refine wt_ ?_); (refine se_ (ex_load1 ev_ asm_ mem_ nth_) ?_); (refine wt_ ?_); (refine se_ (ex_not ev_) ?_); (refine se_ (ex_pick_t ev_ ev_) ?_); (refine mv_ ?_); (refine wt_ ?_); (refine se_ (ex_fieldAddr ev_ asm_) ?_); (refine wt_ ?_); (refine se_ (ex_load1 ev_ asm_ mem_ nth_) ?_); (refine wt_ ?_); (refine se_ (ex_neq_t ev_ .const om_) ?_); (refine se_ (ex_pick_t ev_ ev_) ?_); refine sn_ ?_; (refine ct_ ?_); (apply sc_region); (refine se_ (ex_fieldAddr ev_ asm_) ?_); (refine se_ (ex_load1 ev_ asm_ mem_ nth_) ?_); (refine se_ (ex_fieldAddr ev_ asm_) ?_); (refine se_ (ex_load1 ev_ asm_ mem_ nth_) ?_); (apply so_buildS; (focus ((apply EvP.cons; (exact ev_)); exact EvP.nil)); assumption; assumption; assumption; (focus (repeat (first | exact SeqP.nil | (apply SeqP.cons; exact rfl; exact rfl) | exact App.nil | apply App.cons))); exact rfl; exact rfl; exact rfl; intro _))
          (apply so_appI (k := y.id); (exact ev_); (exact ev_); exact hB; (exact sel_); (exact mem_); exact hWl2; assumption; assumption; assumption; assumption; exact rfl)
          intro o3 cap3 B3 hB3
          ((refine se_ (ex_fieldAddr ev_ asm_) ?_); (apply so_store; (exact ev_); (exact ev_); assumption; exact rfl; exact rfl; exact rfl; (focus (repeat (first | exact Turn.here | apply Turn.there | apply Turn.pre))); (focus (repeat (first | exact SetSub.nil | apply SetSub.take | apply SetSub.drop)))); (apply so_nil); (apply nm_block); (apply nm_then); (apply sc_region); (refine mv_ ?_); (refine se_ (ex_add ev_ .const wr_) ?_); (refine asg_ ?_); (apply so_nil); (apply nm_then))
          exact ⟨_, by rw [hq]; omega, j + 1, _, o3, cap3, B3, by omega, rfl, htk.symm, hB3, at_, at_, at_, at_, at_, at_, held_⟩
  · have hlt' : ¬ (j : Int) < (g.L.length : Int) := by omega
    obtain rfl : j = g.L.length := by omega
    rw [List.take_length] at hW
    subst hW
    have hcl := nx_cells sv g tx ro o cap
    cases hf : findR g.L tx with
    | none =>
      have hne : ∀ x ∈ g.L, x.id ≠ tx := findR_none hf
      have e1 : g.begin tx ro = { g with L := g.L ++ [newR g tx ro] } := by unfold RG.begin; rw [hf]
      rw [e1]
      rw [atV_none hf] at a6
      have hcg : tcells (putS sv tx (o, (besR g.L tx).length, cap)) (g.L ++ [newR g tx ro]) = tcells sv g.L ++ [Value.int .i64 tx, .int .i64 g.n, .int .i64 1, .int .i64 0, .bool ro, .bool false, .slice o (besR g.L tx).length cap] := by
        have h1 : tcells (putS sv tx (o, (besR g.L tx).length, cap)) g.L = tcells sv g.L := tcells_congr fun x hx => by unfold putS; rw [if_neg (hne x hx)]
        rw [← h1, ← hcl]
        unfold tcells
        rw [List.flatMap_append]; simp
      have hbb : (g.L.length + 1) * 64 ≤ 140737488355328 := by omega
      have hbb2 : g.L.length + 1 ≤ 9223372036854775807 := by omega
      have hfin : ∀ p' cap' H', Row 85 7 (.slice p' (g.L.length + 1) cap') (tcells sv g.L ++ [Value.int .i64 tx, .int .i64 g.n, .int .i64 1, .int .i64 0, .bool ro, .bool false, .slice o (besR g.L tx).length cap]) H' →
          RBlk (K + 1) { g with L := g.L ++ [newR g tx ro] } (putS sv tx (o, (besR g.L tx).length, cap)) p' cap' oe ce H' BE (B ++ BB) := fun p' cap' H' hr => by
        rw [← hcg] at hr
        refine ⟨?_, h.e, fun x hx => ?_, ?_, ?_, ⟨hn.1, by have := hn.2; show g.n ≤ ((K + 1 : Nat) : Int); omega⟩, hK⟩
        · show Row 85 7 (.slice p' (g.L ++ [newR g tx ro]).length cap') _ H'
          rw [List.length_append]; exact hr
        · rcases List.mem_append.1 hx with hx | hx
          · obtain ⟨k1, k2, k3⟩ := h.b x hx
            unfold putS; rw [if_neg (hne x hx)]
            exact ⟨k1.right B, k2, by omega⟩
          · rw [List.mem_singleton] at hx
            subst hx
            unfold putS newR
            dsimp only
            rw [if_pos rfl]
            exact ⟨row_sl hB BB, rfl, by omega⟩
        · show (g.L ++ [newR g tx ro]).length ≤ _
          rw [List.length_append]; simp; omega
        · show g.E.length ≤ _; omega
      have hln : g.L.length + 1 = (g.L ++ [newR g tx ro]).length := by rw [List.length_append]; rfl
      ((apply sc_seq); refine sr_ ?_; (refine mv_ ?_); (refine mv_ ?_); (refine se_ (ex_nilCheck ev_) ?_); (refine se_ (ex_fieldAddr ev_ asm_) ?_); (refine se_ (ex_load1 ev_ asm_ mem_ nth_) ?_); (refine se_ (ex_len_slice ev_ asm_) ?_); (refine se_ (ex_lss_f ev_ ev_ om_) ?_); refine sn_ ?_; (refine cf_ ?_); (apply sc_exit); (apply et_then); (apply et_then); (apply et_hit); (apply nm_then); (apply sc_seq); refine sr_ ?_; (refine mv_ ?_); (refine se_ (ex_geq_f ev_ .const om_) ?_); refine sn_ ?_; (refine cf_ ?_); (apply sc_skip); (apply nm_then); (apply sc_any (id := 12) (vol := (p, Obj.cells [Value.slice ol g.L.length cl, .slice oe g.E.length ce, .int .i64 g.n].toArray 59) :: BL); assumption; (exact sel_); exact rfl; exact rfl; (apply sa_take (i := 0); kernel_rfl; exact rfl; kernel_rfl; kernel_rfl; exact rfl; exact rfl; (exact sel_); (apply qo_ex; (apply ex_move; (exact ev_))); apply sa_take (i := 1); kernel_rfl; exact rfl; kernel_rfl; kernel_rfl; exact rfl; exact rfl; (exact sel_); (apply qo_ex; (apply ex_move; (exact ev_))); apply sa_take (i := 2); kernel_rfl; exact rfl; kernel_rfl; kernel_rfl; exact rfl; exact rfl; (exact sel_); (apply qo_ex; (apply ex_nilCheck; (exact ev_))); apply sa_take (i := 3); kernel_rfl; exact rfl; kernel_rfl; kernel_rfl; exact rfl; exact rfl; (exact sel_); (apply qo_ex; (apply ex_fieldAddr; (exact ev_); assumption)); apply sa_take (i := 5); kernel_rfl; exact rfl; kernel_rfl; kernel_rfl; exact rfl; exact rfl; (exact sel_); (apply qo_ex; (apply ex_loadN; (exact ev_); assumption; (exact mem_); (exact sub_))); apply sa_two (i := 4) (j := 6); exact rfl; exact rfl; kernel_rfl; exact rfl; exact rfl; rotate_left 1; ((((apply so_buildS; (focus ((apply EvP.cons; (exact ev_)); exact EvP.nil)); assumption; assumption; assumption; (focus (repeat (first | exact SeqP.nil | (apply SeqP.cons; exact rfl; exact rfl) | exact App.nil | apply App.cons))); exact rfl; exact rfl; exact rfl; intro _)))); apply sa_next; (exact sel_); (apply sa_one (i := 4); exact rfl; kernel_rfl; exact rfl; (((refine se_ (ex_load1 ev_ asm_ mem_ nth_) ?_))); apply sa_next; (exact sel_); apply sa_one (i := 7); exact rfl; kernel_rfl; exact rfl; (((apply so_appR (et := 85) (s := 7) (ys := [Value.int .i64 tx, .int .i64 g.n, .int .i64 1, .int .i64 0, .bool ro, .bool false, .slice o (besR g.L tx).length cap]); (exact ev_); (exact ev_); exact h.l; (exact sel_); (exact mem_); exact rfl; exact (fun j hj => by rw [Nat.zero_add]); assumption; assumption; assumption; exact rfl; assumption; exact hbb; exact hbb2; exact rfl; exact rfl; exact rfl; intro pB cB HB hHB; replace hHB := hfin _ _ _ hHB; rw [hln]))); apply sa_next; (exact sel_); apply sa_take (i := 8); kernel_rfl; exact rfl; kernel_rfl; kernel_rfl; exact rfl; exact rfl; (exact sel_); (apply qo_ex; (apply ex_nilCheck; (exact ev_))); apply sa_take (i := 9); kernel_rfl; exact rfl; kernel_rfl; kernel_rfl; exact rfl; exact rfl; (exact sel_); (apply qo_ex; (apply ex_fieldAddr; (exact ev_); assumption)); apply sa_one (i := 10); exact rfl; kernel_rfl; exact rfl; (((apply so_store; (exact ev_); (exact ev_); assumption; exact rfl; exact rfl; exact rfl; (focus (repeat (first | exact Turn.here | apply Turn.there | apply Turn.pre))); (focus (repeat (first | exact SetSub.nil | apply SetSub.take | apply SetSub.drop)))))); apply sa_next; (exact sel_); (apply sa_done; kernel_rfl)); rotate_right 1; ((((refine se_ (ex_load1 ev_ asm_ mem_ nth_) ?_)))); apply sa_next; (exact sel_); (apply sa_one (i := 6); exact rfl; kernel_rfl; exact rfl; (((apply so_buildS; (focus ((apply EvP.cons; (exact ev_)); exact EvP.nil)); assumption; assumption; assumption; (focus (repeat (first | exact SeqP.nil | (apply SeqP.cons; exact rfl; exact rfl) | exact App.nil | apply App.cons))); exact rfl; exact rfl; exact rfl; intro _))); apply sa_next; (exact sel_); apply sa_one (i := 7); exact rfl; kernel_rfl; exact rfl; (((apply so_appR (et := 85) (s := 7) (ys := [Value.int .i64 tx, .int .i64 g.n, .int .i64 1, .int .i64 0, .bool ro, .bool false, .slice o (besR g.L tx).length cap]); (exact ev_); (exact ev_); exact h.l; (exact sel_); (exact mem_); exact rfl; exact (fun j hj => by rw [Nat.zero_add]); assumption; assumption; assumption; exact rfl; assumption; exact hbb; exact hbb2; exact rfl; exact rfl; exact rfl; intro pB cB HB hHB; replace hHB := hfin _ _ _ hHB; rw [hln]))); apply sa_next; (exact sel_); apply sa_take (i := 8); kernel_rfl; exact rfl; kernel_rfl; kernel_rfl; exact rfl; exact rfl; (exact sel_); (apply qo_ex; (apply ex_nilCheck; (exact ev_))); apply sa_take (i := 9); kernel_rfl; exact rfl; kernel_rfl; kernel_rfl; exact rfl; exact rfl; (exact sel_); (apply qo_ex; (apply ex_fieldAddr; (exact ev_); assumption)); apply sa_one (i := 10); exact rfl; kernel_rfl; exact rfl; (((apply so_store; (exact ev_); (exact ev_); assumption; exact rfl; exact rfl; exact rfl; (focus (repeat (first | exact Turn.here | apply Turn.there | apply Turn.pre))); (focus (repeat (first | exact SetSub.nil | apply SetSub.take | apply SetSub.drop)))))); apply sa_next; (exact sel_); (apply sa_done; kernel_rfl)))); ((apply ret_ok'; (focus (exact Res.nil)); (exact ⟨rfl, _, _, oe, ce, _, _, BE, _, rfl, by assumption⟩); (exact sel_); (exact appb_))); ((apply ret_ok'; (focus (exact Res.nil)); (exact ⟨rfl, _, _, oe, ce, _, _, BE, _, rfl, by assumption⟩); (exact sel_); (exact appb_))))
    | some x =>
      have hc := hs' x hf
      have hst : x.st = 1 := Classical.byContradiction fun e => hc (.inl e)
      have hid := (findR_some hf).2
      obtain ⟨i, hi, hx, hv⟩ := atV_some hf
      rw [hv] at a6
      have e1 : g.begin tx ro = { g with L := g.L.map fun y => if y.id = tx then newR g tx ro else y, E := withoutE g.E tx } := by unfold RG.begin; rw [hf]; dsimp only; rw [if_neg hc]
      rw [e1]
      obtain ⟨b, junk, ho, rfl, hl, hjj⟩ := row_open h.l (by omega)
      subst ho
      simp only [List.cons_append, List.nil_append]
      have hwt := without_tri (p := p) (ce := ce) (vl := .slice (some ⟨b, 0, none⟩) g.L.length cl) (n := g.n) h.e (by omega) tx
      simp only [hdr, List.cons_append, List.nil_append] at hwt
      obtain ⟨hst1, hst2⟩ := t_store2 (sv := sv) (sv' := putS sv tx (o, (besR g.L tx).length, cap)) junk hi (newR g tx ro) (fun x _ hx => by unfold putS; rw [if_neg (show ¬ x.id = tx from hx)]) hok.nd (by rw [hx]; exact hid)
      have hFx : (fun y : RT => if y.id = tx then newR g tx ro else y) g.L[i] = newR g tx ro := by dsimp only; rw [if_pos (by rw [hx]; exact hid)]
      have hsm := set_map hok.nd hi (F := fun y : RT => if y.id = tx then newR g tx ro else y) (fun y hy => if_neg (fun e => hy (by rw [hx, hid]; exact e)))
      rw [(congrArg (g.L.set i) hFx).symm.trans hsm] at hst1
      rw [hcl] at hst1 hst2
      ((apply sc_seq); refine sr_ ?_; (refine mv_ ?_); (refine mv_ ?_); (refine se_ (ex_nilCheck ev_) ?_); (refine se_ (ex_fieldAddr ev_ asm_) ?_); (refine se_ (ex_load1 ev_ asm_ mem_ nth_) ?_); (refine se_ (ex_len_slice ev_ asm_) ?_); (refine se_ (ex_lss_f ev_ ev_ om_) ?_); refine sn_ ?_; (refine cf_ ?_); (apply sc_exit); (apply et_then); (apply et_then); (apply et_hit); (apply nm_then); (apply sc_seq); refine sr_ ?_; (refine mv_ ?_); (refine se_ (ex_geq_t ev_ .const om_) ?_); refine sn_ ?_; (refine ct_ ?_); refine sr_ ?_; (refine mv_ ?_); (refine mv_ ?_))
      (apply so_call; (exact Ev.func); (focus ((apply EvL.cons; (exact ev_)); (apply EvL.cons; (exact ev_)); exact EvL.nil)); (focus (repeat (first | exact App.nil | apply App.cons))); assumption; (exact hwt); (exact sel_); exact rfl)
      rintro v L1 ⟨rfl, oe2, ce2, BE2, hE2, rfl⟩
      simp only [List.cons_append, List.append_assoc]
      have hlm : (g.L.map fun y => if y.id = tx then newR g tx ro else y).length = g.L.length := List.length_map ..
      have hfin : RBlk (K + 1) { g with L := g.L.map fun y => if y.id = tx then newR g tx ro else y, E := withoutE g.E tx } (putS sv tx (o, (besR g.L tx).length, cap)) (some ⟨b, 0, none⟩) cl oe2 ce2 [(b, .cells (tcells (putS sv tx (o, (besR g.L tx).length, cap)) (g.L.map fun y => if y.id = tx then newR g tx ro else y) ++ junk).toArray 85)] BE2 (B ++ BB) := by
        have hlen2 : (tcells (putS sv tx (o, (besR g.L tx).length, cap)) (g.L.map fun y => if y.id = tx then newR g tx ro else y)).length = g.L.length * 7 := by unfold tcells; rw [rows_len (tlen _), List.length_map]
        refine ⟨?_, hE2, fun y hy => ?_, ?_, ?_, ⟨hn.1, by have := hn.2; show g.n ≤ ((K + 1 : Nat) : Int); omega⟩, hK⟩
        · show Row 85 7 (.slice _ (g.L.map fun y => if y.id = tx then newR g tx ro else y).length cl) _ _
          rw [hlm]
          exact .row hlen2 (by rw [List.length_append, hlen2, ← hl, ← List.length_append, hjj])
        · obtain ⟨z, hz, rfl⟩ := List.mem_map.1 hy
          by_cases hzt : z.id = tx
          · rw [if_pos hzt]
            unfold putS newR
            dsimp only
            rw [if_pos rfl]
            exact ⟨row_sl hB BB, rfl, by omega⟩
          · rw [if_neg hzt]
            obtain ⟨k1, k2, k3⟩ := h.b z hz
            unfold putS; rw [if_neg hzt]
            exact ⟨k1.right B, k2, by omega⟩
        · show (g.L.map fun y => if y.id = tx then newR g tx ro else y).length ≤ _
          rw [hlm]; omega
        · show (withoutE g.E tx).length ≤ _
          have := List.length_filter_le (keepE tx) g.E
          rw [withoutE_eq]; omega
      (refine sn_ ?_; (apply sc_seq); (apply sc_tail (id := 11) 7; assumption; kernel_rfl; rfl; rfl); (refine qe_ (ex_move ev_) ?_); (refine qe_ (ex_nilCheck ev_) ?_); (refine qe_ (ex_fieldAddr ev_ asm_) ?_); (refine qe_ (ex_load1 ev_ asm_ mem_ nth_) ?_); (refine qe_ (ex_move ev_) ?_); (refine qe_ (ex_loadN ev_ asm_ mem_ sub_) ?_); (refine qe_ (ex_indexAddr ev_ ev_ asm_ asm_ lit_ lt_) ?_); (apply sq_tail); (apply so_storer (r := [Value.int .i64 tx, .int .i64 g.n, .int .i64 1, .int .i64 0, .bool ro, .bool false, .slice o (besR g.L tx).length cap]); (exact ev_); (exact ev_); assumption; exact rfl; exact rfl; exact rfl; (focus (repeat (first | exact Turn.here | apply Turn.there | apply Turn.pre))); exact hst1; exact hst2); refine sn_ ?_; (apply sc_ret); (apply rt_then))
      rw [← hlm]
      (apply ret_ok; (focus (exact Res.nil)); (exact ⟨rfl, _, cl, oe2, ce2, _, _, BE2, _, rfl, hfin⟩); (exact sel_); (exact appb_))
end Go.Proofs.Ytomgkmoecbnddaa
