/- Conflict: the reference: marks; Edge. -/
import Derived.Test.YtomgkmoecbnddaaVa
set_option linter.unusedVariables false
set_option linter.unusedSimpArgs false
set_option linter.unnecessarySimpa false
namespace Go.Proofs.Ytomgkmoecbnddaa
open Go.Sym
theorem rDm_id (vs : List Int) (x : RT) : (rDm vs x).id = x.id := by unfold rDm; split <;> rfl
theorem rDm_bs (vs : List Int) (x : RT) : (rDm vs x).bs = x.bs := by unfold rDm; split <;> rfl
theorem atV_map {l : List RT} {F : RT → RT} (hF : ∀ x, (F x).id = x.id) (k : Int) : atV (l.map F) k = atV l k := by
  unfold atV
  rw [List.findIdx?_map]
  congr 2
  have : ((fun x : RT => decide (x.id = k)) ∘ F) = fun x => decide (x.id = k) := funext fun x => by simp only [Function.comp, hF]
  rw [this]
theorem rDm_nil (l : List RT) : l.map (rDm []) = l := by
  conv => rhs; rw [← List.map_id l]
  exact List.map_congr_left fun x _ => by unfold rDm; simp
theorem rDm_snoc (vs : List Int) (k : Int) (x : RT) : rDm [k] (rDm vs x) = rDm (vs ++ [k]) x := by
  have h1 := rDm_id vs x
  unfold rDm at h1 ⊢
  by_cases h2 : vs.contains x.id = true <;> by_cases h3 : x.id = k <;> simp_all
theorem vics_in {L : List RT} {E : List (Int × Int)} {e : Int × Int} {all : Bool} {v : Int} (h : v ∈ vics L E e all) : ∃ x ∈ L, x.id = v := by
  unfold vics at h
  obtain ⟨x, _, h⟩ := List.mem_flatMap.1 h
  obtain ⟨y, _, h⟩ := List.mem_filterMap.1 h
  unfold vic1 at h
  split at h
  · cases h
  · cases h1 : findR L x.1 with
    | none => rw [h1] at h; cases h
    | some a =>
      cases h2 : findR L x.2 with
      | none => rw [h1, h2] at h; cases h
      | some p =>
        cases h3 : findR L y.2 with
        | none => rw [h1, h2, h3] at h; cases h
        | some b =>
          rw [h1, h2, h3] at h
          dsimp only at h
          split at h
          · unfold victR at h
            split at h
            · injection h with h; exact ⟨p, (findR_some h2).1, h⟩
            · split at h
              · injection h with h; exact ⟨a, (findR_some h1).1, h⟩
              · split at h
                · injection h with h; exact ⟨b, (findR_some h3).1, h⟩
                · cases h
          · cases h
theorem vics_len (L : List RT) (E : List (Int × Int)) (e : Int × Int) (all : Bool) : (vics L E e all).length ≤ E.length * E.length := fm_len (fun x => List.length_filterMap_le _ _) E
theorem mark_step {sv : Sv} {l : List RT} (junk : List Value) (hnd : (l.map (·.id)).Nodup) {vs : List Int} {i : Nat} (hi : i < vs.length) (hin : ∃ x ∈ l, x.id = vs[i]) : ∃ ia : Nat, ia < l.length ∧ atV (l.map (rDm (vs.take i))) vs[i] = (ia : Int) ∧
    tcells sv (l.map (rDm (vs.take (i + 1)))) ++ junk = (tcells sv (l.map (rDm (vs.take i))) ++ junk).take (0 + ia * 7 + 5) ++ [.bool true] ++ (tcells sv (l.map (rDm (vs.take i))) ++ junk).drop (0 + ia * 7 + 5 + [Value.bool true].length) ∧ 0 + ia * 7 + 5 + [Value.bool true].length ≤ (tcells sv (l.map (rDm (vs.take i))) ++ junk).length := by
  obtain ⟨x, hx, hid⟩ := hin
  have hf : findR l vs[i] = some x := by rw [← hid]; exact findR_mem hnd hx
  obtain ⟨ia, hia, hex, hva⟩ := atV_some hf
  have hia' : ia < (l.map (rDm (vs.take i))).length := by rw [List.length_map]; exact hia
  have hel : (l.map (rDm (vs.take i)))[ia] = rDm (vs.take i) x := by rw [List.getElem_map, hex]
  have hids : ((l.map (rDm (vs.take i))).map (·.id)).Nodup := by
    rw [List.map_map, show ((fun x : RT => x.id) ∘ rDm (vs.take i)) = fun x => x.id from funext fun x => rDm_id _ x]; exact hnd
  have hF : rDm [vs[i]] (rDm (vs.take i) x) = { rDm (vs.take i) x with dm := true } := by
    have : (rDm (vs.take i) x).id = vs[i] := (rDm_id _ x).trans hid
    generalize rDm (vs.take i) x = y at this
    unfold rDm
    rw [if_pos (by simp [this])]
  obtain ⟨h1, h2⟩ := t_store (sv := sv) junk hia' (rDm [vs[i]] (l.map (rDm (vs.take i)))[ia]) 5 [Value.bool true] (by decide) (by rw [hel, hF]; rfl)
  rw [set_map hids hia' (F := rDm [vs[i]]) (fun y hy => by
    rw [hel, rDm_id, hid] at hy
    unfold rDm; rw [if_neg (by simpa using hy)])] at h1
  rw [List.map_map, show (rDm [vs[i]] ∘ rDm (vs.take i)) = rDm (vs.take (i + 1)) from funext fun y => by rw [List.take_succ_eq_append_getElem hi]; exact rDm_snoc _ _ y] at h1
  exact ⟨ia, hia, by rw [atV_map (rDm_id _), hva], h1, h2⟩
set_option maxHeartbeats 8000000 in
theorem edgeR2_tri {K : Nat} {g : RG} {p : Nat} {Lb : List Blk} (hR : RRep K g p Lb) (hok : ROk g) (hK : K + 1 ≤ 500) (a w acts : Int) :
    Tri Try.prog 40 #[.pointer (some ⟨p, 0, none⟩), .int .i64 a, .int .i64 w, .int .i64 acts] Lb fun v L' => v = .int .i64 (g.edgeR a w acts) ∧ RRep (K + 1) (g.edgeG a w) p L' := by
  have f_mixed := mixed; have f_by3 := by3; have f_by85 := by85; have f_by92 := by92; have f_en44 := en44; have f_en47 := en47; have f_en54 := en54; have f_en55 := en55; have f_fo59_0 := fo59_0; have f_fo59_1 := fo59_1; have f_fo85_1 := fo85_1; have f_fo85_2 := fo85_2; have f_fo85_3 := fo85_3; have f_fo85_5 := fo85_5; have f_pl92_0 := pl92_0; have f_pl92_1 := pl92_1; have f_st92 := st92; have f_ty25 := ty25; have f_ty3 := ty3; have f_ty4 := ty4; have f_ty56 := ty56; have f_ty57 := ty57; have f_ty85 := ty85; have f_ty92 := ty92; have f_un_25 : Und Try.prog 25 _ := ⟨Try.underlying25⟩; have f_un_56 : Und Try.prog 56 _ := ⟨Try.underlying56⟩; have f_un_57 : Und Try.prog 57 _ := ⟨Try.underlying57⟩; have f_zero3 := zero3; have f_zero85 := zero85; have f_zero92 := zero92; have f_zv3 := zv3; have f_zv85 := zv85; have f_zv92 := zv92
  obtain ⟨ol, cl, oe, ce, sv, BL, BE, BB, rfl, h⟩ := hR
  have hk := h.k
  have hn := h.n
  have hsl := h.sl
  have hse := h.se
  have hat := at_tri (p := p) (cl := cl) (ve := .slice oe g.E.length ce) (n := g.n) (row_tx h.l (BE ++ BB)) (show g.L.length ≤ 1000000 by omega)
  have hata := hat a
  have hatw := hat w
  clear hat
  refine tri_intro (args := [_, _, _, _]) Try.func40 rfl Try.ntmps40 rfl (rs := _) rfl rfl fun E R => ?_
  simp only [fr, hdr, List.cons_append, List.append_assoc] at hata hatw ⊢
  have hsame := h.same (Nat.le_succ K) hK
  cases hfa : findR g.L a with
  | none =>
    have e1 : g.edgeG a w = g := by unfold RG.edgeG; rw [hfa]
    have e2 : g.edgeR a w acts = 0 := by unfold RG.edgeR; rw [hfa]
    rw [e1, e2]
    rw [atV_none hfa] at hata
    (refine sr_ ?_; (refine ac_ ?_); refine sn_ ?_; refine sr_ ?_; (refine mv_ ?_); (refine mv_ ?_); (apply so_callq; (exact Ev.func); (focus ((apply EvL.cons; (exact ev_)); (apply EvL.cons; (exact ev_)); exact EvL.nil)); (focus (repeat (first | exact App.nil | apply App.cons))); assumption; exact hata; (exact sel_); exact rfl); (refine asg_ ?_); refine sn_ ?_; refine sr_ ?_; (refine mv_ ?_); (refine mv_ ?_); (apply so_callq; (exact Ev.func); (focus ((apply EvL.cons; (exact ev_)); (apply EvL.cons; (exact ev_)); exact EvL.nil)); (focus (repeat (first | exact App.nil | apply App.cons))); assumption; exact hatw; (exact sel_); exact rfl); (refine asg_ ?_); refine sn_ ?_; (apply sc_seq); refine sr_ ?_; (refine mv_ ?_); (refine se_ (ex_lss_t ev_ .const om_) ?_); (refine mv_ ?_); (refine sk_ ?_); (refine sk_ ?_); (refine se_ (ex_pick_t ev_ .const) ?_); (refine mv_ ?_); (refine sk_ ?_); (refine sk_ ?_); (refine sk_ ?_); (refine se_ (ex_pick_t ev_ .const) ?_); (refine mv_ ?_); (refine sk_ ?_); (refine sk_ ?_); (refine sk_ ?_); (refine sk_ ?_); (refine sk_ ?_); (refine sk_ ?_); (refine sk_ ?_); (refine sk_ ?_); (refine sk_ ?_); (refine sk_ ?_); (refine su_ ?_); (refine su_ ?_); (refine su_ ?_); (refine su_ ?_); (refine su_ ?_); (refine su_ ?_); (refine su_ ?_); (refine su_ ?_); (refine su_ ?_); (refine sk_ ?_); (refine se_ (ex_pick_t ev_ .const) ?_); refine sn_ ?_; (refine ct_ ?_); refine sr_ ?_; (refine ac_ ?_); refine sn_ ?_; (apply sc_ret); (apply rt_then); (apply ret_ok; (focus ((apply Res.tmp; (exact ev_)); exact Res.nil)); (exact ⟨rfl, ol, cl, oe, ce, sv, BL, BE, BB, rfl, hsame⟩); (exact sel_); (exact appb_)))
  | some x =>
    obtain ⟨ia, hia, hxa, hva⟩ := atV_some hfa
    rw [hva] at hata
    obtain ⟨b, junk, ho, rfl, hl, hj⟩ := row_open h.l (by omega)
    subst ho
    simp only [List.cons_append, List.nil_append] at hata hatw ⊢
    obtain ⟨_, x1, x2, x3, _⟩ := t_cells (sv := sv) junk hia hxa
    cases hfw : findR g.L w with
    | none =>
      have e1 : g.edgeG a w = g := by unfold RG.edgeG; rw [hfa, hfw]
      have e2 : g.edgeR a w acts = 0 := by unfold RG.edgeR; rw [hfa, hfw]
      rw [e1, e2]
      rw [atV_none hfw] at hatw
      (refine sr_ ?_; (refine ac_ ?_); refine sn_ ?_; refine sr_ ?_; (refine mv_ ?_); (refine mv_ ?_); (apply so_callq; (exact Ev.func); (focus ((apply EvL.cons; (exact ev_)); (apply EvL.cons; (exact ev_)); exact EvL.nil)); (focus (repeat (first | exact App.nil | apply App.cons))); assumption; exact hata; (exact sel_); exact rfl); (refine asg_ ?_); refine sn_ ?_; refine sr_ ?_; (refine mv_ ?_); (refine mv_ ?_); (apply so_callq; (exact Ev.func); (focus ((apply EvL.cons; (exact ev_)); (apply EvL.cons; (exact ev_)); exact EvL.nil)); (focus (repeat (first | exact App.nil | apply App.cons))); assumption; exact hatw; (exact sel_); exact rfl); (refine asg_ ?_); refine sn_ ?_; (apply sc_seq); refine sr_ ?_; (refine mv_ ?_); (refine se_ (ex_lss_f ev_ .const om_) ?_); (refine mv_ ?_); (refine wt_ ?_); (refine mv_ ?_); (refine wt_ ?_); (refine se_ (ex_lss_t ev_ .const om_) ?_); (refine se_ (ex_pick_f ev_ ev_) ?_); (refine mv_ ?_); (refine sk_ ?_); (refine sk_ ?_); (refine sk_ ?_); (refine se_ (ex_pick_t ev_ .const) ?_); (refine mv_ ?_); (refine sk_ ?_); (refine sk_ ?_); (refine sk_ ?_); (refine sk_ ?_); (refine sk_ ?_); (refine sk_ ?_); (refine sk_ ?_); (refine sk_ ?_); (refine sk_ ?_); (refine sk_ ?_); (refine su_ ?_); (refine su_ ?_); (refine su_ ?_); (refine su_ ?_); (refine su_ ?_); (refine su_ ?_); (refine su_ ?_); (refine su_ ?_); (refine su_ ?_); (refine sk_ ?_); (refine se_ (ex_pick_t ev_ .const) ?_); refine sn_ ?_; (refine ct_ ?_); refine sr_ ?_; (refine ac_ ?_); refine sn_ ?_; (apply sc_ret); (apply rt_then); (apply ret_ok; (focus ((apply Res.tmp; (exact ev_)); exact Res.nil)); (exact ⟨rfl, _, cl, oe, ce, sv, _, BE, BB, rfl, hsame⟩); (exact sel_); (exact appb_)))
    | some y =>
      obtain ⟨iw, hiw, hyw, hvw⟩ := atV_some hfw
      rw [hvw] at hatw
      obtain ⟨_, y1, y2, y3, _⟩ := t_cells (sv := sv) junk hiw hyw
      have hxid := (findR_some hfa).2
      have hyid := (findR_some hfw).2
      have hix : x.id = y.id → ia = iw := fun e => by
        have e1 : a = w := by rw [← hxid, ← hyid, e]
        rw [e1, hfw] at hfa
        have := hva.symm.trans (e1 ▸ hvw)
        omega
      have hxi : ia = iw → x.id = y.id := fun e => by subst e; rw [← hxa, ← hyw]
      ((apply sc_seq); ((fail_if_success (apply sc_region (id := 3))); apply sc_region); (refine ac_ ?_); refine sn_ ?_; (apply sc_seq); ((fail_if_success (apply sc_region (id := 3))); apply sc_region); (refine mv_ ?_); (refine mv_ ?_); (apply so_callq; (exact Ev.func); (focus ((apply EvL.cons; (exact ev_)); (apply EvL.cons; (exact ev_)); exact EvL.nil)); (focus (repeat (first | exact App.nil | apply App.cons))); assumption; exact hata; (exact sel_); exact rfl); (refine asg_ ?_); refine sn_ ?_; (apply sc_seq); ((fail_if_success (apply sc_region (id := 3))); apply sc_region); (refine mv_ ?_); (refine mv_ ?_); (apply so_callq; (exact Ev.func); (focus ((apply EvL.cons; (exact ev_)); (apply EvL.cons; (exact ev_)); exact EvL.nil)); (focus (repeat (first | exact App.nil | apply App.cons))); assumption; exact hatw; (exact sel_); exact rfl); (refine asg_ ?_); refine sn_ ?_; (apply sc_seq); (apply sc_seq))
      refine SC.mono (Q := fun u f L' => u = .normal ∧ ∃ s : Bool, (s = true ↔ (x.id = y.id ∨ (x.st = 3 ∧ y.st = 3))) ∧ At f 52 (.bool s) ∧ At f 0 (.pointer (some ⟨p, 0, none⟩)) ∧ At f 1 (.int .i64 a) ∧ At f 2 (.int .i64 w) ∧ At f 3 (.int .i64 acts) ∧ At f 9 (.int .i64 (ia : Int)) ∧ At f 10 (.int .i64 (iw : Int)) ∧ Held L' ((p, Obj.cells [Value.slice (some ⟨b, 0, none⟩) g.L.length cl, .slice oe g.E.length ce, .int .i64 g.n].toArray 59) :: (b, Obj.cells (tcells sv g.L ++ junk).toArray 85) :: (BE ++ BB)) R) ?_ ?_
      · by_cases c1 : x.id = y.id
        · have hii : (ia : Int) = (iw : Int) := by rw [hix c1]
          ((apply sc_region); (refine mv_ ?_); (refine se_ (ex_lss_f ev_ .const om_) ?_); (refine mv_ ?_); (refine wt_ ?_); (refine mv_ ?_); (refine wt_ ?_); (refine se_ (ex_lss_f ev_ .const om_) ?_); (refine se_ (ex_pick_f ev_ ev_) ?_); (refine mv_ ?_); (refine wt_ ?_); (refine mv_ ?_); (refine wt_ ?_); (refine mv_ ?_); (refine wt_ ?_); (refine se_ (ex_eql_t ev_ ev_ om_) ?_); (refine se_ (ex_pick_f ev_ ev_) ?_); (refine mv_ ?_); (refine sk_ ?_); (refine sk_ ?_); (refine sk_ ?_); (refine sk_ ?_); (refine sk_ ?_); (refine sk_ ?_); (refine sk_ ?_); (refine sk_ ?_); (refine sk_ ?_); (refine sk_ ?_); (refine su_ ?_); (refine su_ ?_); (refine su_ ?_); (refine su_ ?_); (refine su_ ?_); (refine su_ ?_); (refine su_ ?_); (refine su_ ?_); (refine su_ ?_); (refine sk_ ?_); (refine se_ (ex_pick_t ev_ .const) ?_); (apply so_nil))
          exact ⟨rfl, true, ⟨fun _ => .inl c1, fun _ => rfl⟩, at_, at_, at_, at_, at_, at_, at_, held_⟩
        · have hii : ¬ (ia : Int) = (iw : Int) := fun e => c1 (hxi (by omega))
          by_cases c2 : x.st = 3
          · by_cases c3 : y.st = 3
            · ((apply sc_region); (refine mv_ ?_); (refine se_ (ex_lss_f ev_ .const om_) ?_); (refine mv_ ?_); (refine wt_ ?_); (refine mv_ ?_); (refine wt_ ?_); (refine se_ (ex_lss_f ev_ .const om_) ?_); (refine se_ (ex_pick_f ev_ ev_) ?_); (refine mv_ ?_); (refine wt_ ?_); (refine mv_ ?_); (refine wt_ ?_); (refine mv_ ?_); (refine wt_ ?_); (refine se_ (ex_eql_f ev_ ev_ om_) ?_); (refine se_ (ex_pick_f ev_ ev_) ?_); (refine mv_ ?_); (refine wt_ ?_); (refine mv_ ?_); (refine wt_ ?_); (refine se_ (ex_nilCheck ev_) ?_); (refine wt_ ?_); (refine se_ (ex_fieldAddr ev_ asm_) ?_); (refine wt_ ?_); (refine se_ (ex_load1 ev_ asm_ mem_ nth_) ?_); (refine wt_ ?_); (refine mv_ ?_); (refine wt_ ?_); (refine se_ (ex_indexAddr ev_ ev_ asm_ asm_ lit_ lt_) ?_); (refine wt_ ?_); (refine se_ (ex_fieldAddr ev_ asm_) ?_); (refine wt_ ?_); (apply so_ex; (apply ex_load1r; (exact ev_); assumption; (exact mem_); (first | exact x1 | exact x2 | exact x3 | exact y1 | exact y2 | exact y3)); exact rfl); (refine wt_ ?_); (refine se_ (ex_eql_t ev_ .const om_) ?_); (refine wt_ ?_); (refine mv_ ?_); (refine wt_ ?_); (refine mv_ ?_); (refine wt_ ?_); (refine se_ (ex_nilCheck ev_) ?_); (refine wt_ ?_); (refine se_ (ex_fieldAddr ev_ asm_) ?_); (refine wt_ ?_); (refine se_ (ex_load1 ev_ asm_ mem_ nth_) ?_); (refine wt_ ?_); (refine mv_ ?_); (refine wt_ ?_); (refine se_ (ex_indexAddr ev_ ev_ asm_ asm_ lit_ lt_) ?_); (refine wt_ ?_); (refine se_ (ex_fieldAddr ev_ asm_) ?_); (refine wt_ ?_); (apply so_ex; (apply ex_load1r; (exact ev_); assumption; (exact mem_); (first | exact x1 | exact x2 | exact x3 | exact y1 | exact y2 | exact y3)); exact rfl); (refine wt_ ?_); (refine se_ (ex_eql_t ev_ .const om_) ?_); (refine wt_ ?_); (refine se_ (ex_pick_t ev_ ev_) ?_); (refine se_ (ex_pick_f ev_ ev_) ?_); (apply so_nil))
              exact ⟨rfl, true, ⟨fun _ => .inr ⟨c2, c3⟩, fun _ => rfl⟩, at_, at_, at_, at_, at_, at_, at_, held_⟩
            · ((apply sc_region); (refine mv_ ?_); (refine se_ (ex_lss_f ev_ .const om_) ?_); (refine mv_ ?_); (refine wt_ ?_); (refine mv_ ?_); (refine wt_ ?_); (refine se_ (ex_lss_f ev_ .const om_) ?_); (refine se_ (ex_pick_f ev_ ev_) ?_); (refine mv_ ?_); (refine wt_ ?_); (refine mv_ ?_); (refine wt_ ?_); (refine mv_ ?_); (refine wt_ ?_); (refine se_ (ex_eql_f ev_ ev_ om_) ?_); (refine se_ (ex_pick_f ev_ ev_) ?_); (refine mv_ ?_); (refine wt_ ?_); (refine mv_ ?_); (refine wt_ ?_); (refine se_ (ex_nilCheck ev_) ?_); (refine wt_ ?_); (refine se_ (ex_fieldAddr ev_ asm_) ?_); (refine wt_ ?_); (refine se_ (ex_load1 ev_ asm_ mem_ nth_) ?_); (refine wt_ ?_); (refine mv_ ?_); (refine wt_ ?_); (refine se_ (ex_indexAddr ev_ ev_ asm_ asm_ lit_ lt_) ?_); (refine wt_ ?_); (refine se_ (ex_fieldAddr ev_ asm_) ?_); (refine wt_ ?_); (apply so_ex; (apply ex_load1r; (exact ev_); assumption; (exact mem_); (first | exact x1 | exact x2 | exact x3 | exact y1 | exact y2 | exact y3)); exact rfl); (refine wt_ ?_); (refine se_ (ex_eql_t ev_ .const om_) ?_); (refine wt_ ?_); (refine mv_ ?_); (refine wt_ ?_); (refine mv_ ?_); (refine wt_ ?_); (refine se_ (ex_nilCheck ev_) ?_); (refine wt_ ?_); (refine se_ (ex_fieldAddr ev_ asm_) ?_); (refine wt_ ?_); (refine se_ (ex_load1 ev_ asm_ mem_ nth_) ?_); (refine wt_ ?_); (refine mv_ ?_); (refine wt_ ?_); (refine se_ (ex_indexAddr ev_ ev_ asm_ asm_ lit_ lt_) ?_); (refine wt_ ?_); (refine se_ (ex_fieldAddr ev_ asm_) ?_); (refine wt_ ?_); (apply so_ex; (apply ex_load1r; (exact ev_); assumption; (exact mem_); (first | exact x1 | exact x2 | exact x3 | exact y1 | exact y2 | exact y3)); exact rfl); (refine wt_ ?_); (refine se_ (ex_eql_f ev_ .const om_) ?_); (refine wt_ ?_); (refine se_ (ex_pick_t ev_ ev_) ?_); (refine se_ (ex_pick_f ev_ ev_) ?_); (apply so_nil))
              exact ⟨rfl, false, ⟨fun e => (by cases e), fun e => by rcases e with e | e; exact absurd e c1; exact absurd e.2 c3⟩, at_, at_, at_, at_, at_, at_, at_, held_⟩
          · ((apply sc_region); (refine mv_ ?_); (refine se_ (ex_lss_f ev_ .const om_) ?_); (refine mv_ ?_); (refine wt_ ?_); (refine mv_ ?_); (refine wt_ ?_); (refine se_ (ex_lss_f ev_ .const om_) ?_); (refine se_ (ex_pick_f ev_ ev_) ?_); (refine mv_ ?_); (refine wt_ ?_); (refine mv_ ?_); (refine wt_ ?_); (refine mv_ ?_); (refine wt_ ?_); (refine se_ (ex_eql_f ev_ ev_ om_) ?_); (refine se_ (ex_pick_f ev_ ev_) ?_); (refine mv_ ?_); (refine wt_ ?_); (refine mv_ ?_); (refine wt_ ?_); (refine se_ (ex_nilCheck ev_) ?_); (refine wt_ ?_); (refine se_ (ex_fieldAddr ev_ asm_) ?_); (refine wt_ ?_); (refine se_ (ex_load1 ev_ asm_ mem_ nth_) ?_); (refine wt_ ?_); (refine mv_ ?_); (refine wt_ ?_); (refine se_ (ex_indexAddr ev_ ev_ asm_ asm_ lit_ lt_) ?_); (refine wt_ ?_); (refine se_ (ex_fieldAddr ev_ asm_) ?_); (refine wt_ ?_); (apply so_ex; (apply ex_load1r; (exact ev_); assumption; (exact mem_); (first | exact x1 | exact x2 | exact x3 | exact y1 | exact y2 | exact y3)); exact rfl); (refine wt_ ?_); (refine se_ (ex_eql_f ev_ .const om_) ?_); (refine wt_ ?_); (refine mv_ ?_); (refine sk_ ?_); (refine sk_ ?_); (refine sk_ ?_); (refine sk_ ?_); (refine sk_ ?_); (refine sk_ ?_); (refine sk_ ?_); (refine sk_ ?_); (refine sk_ ?_); (refine wt_ ?_); (refine se_ (ex_pick_f ev_ .const) ?_); (refine se_ (ex_pick_f ev_ ev_) ?_); (apply so_nil))
            exact ⟨rfl, false, ⟨fun e => (by cases e), fun e => by rcases e with e | e; exact absurd e c1; exact absurd e.1 c2⟩, at_, at_, at_, at_, at_, at_, at_, held_⟩
      rintro u f L' ⟨rfl, s, hs, a52, a0, a1, a2, a3, a9, a10, ⟨G, hG⟩⟩
      refine nm_then (sc_perm hG ?_)
      simp only [List.cons_append, List.append_assoc]
      cases s with
      | true =>
        have hno : noEdgeR x y := by rcases hs.1 rfl with e | e; exact .inl e; exact .inr (.inl e)
        have e1 : g.edgeG a w = g := by unfold RG.edgeG; rw [hfa, hfw]; dsimp only; rw [if_pos hno]
        have e2 : g.edgeR a w acts = 0 := by unfold RG.edgeR; rw [hfa, hfw]; dsimp only; rw [if_pos hno]
        rw [e1, e2]
        ((refine ct_ ?_); refine sr_ ?_; (refine ac_ ?_); refine sn_ ?_; (apply sc_ret); (apply rt_then); (apply ret_ok; (focus ((apply Res.tmp; (exact ev_)); exact Res.nil)); (exact ⟨rfl, _, cl, oe, ce, sv, _, BE, BB, rfl, hsame⟩); (exact sel_); (exact appb_)))
      | false =>
      have hs' : ¬ (x.id = y.id ∨ (x.st = 3 ∧ y.st = 3)) := fun e => Bool.false_ne_true (hs.2 e)
      ((refine cf_ ?_); (apply sc_skip); (apply nm_then); (apply sc_seq); (apply sc_seq))
      refine SC.mono (Q := fun u f L' => u = .normal ∧ ∃ s : Bool, (s = true ↔ ((x.st = 3 ∧ x.sq ≤ y.bg) ∨ (y.st = 3 ∧ y.sq ≤ x.bg))) ∧ At f 110 (.bool s) ∧ At f 0 (.pointer (some ⟨p, 0, none⟩)) ∧ At f 1 (.int .i64 a) ∧ At f 2 (.int .i64 w) ∧ At f 3 (.int .i64 acts) ∧ Held L' ((p, Obj.cells [Value.slice (some ⟨b, 0, none⟩) g.L.length cl, .slice oe g.E.length ce, .int .i64 g.n].toArray 59) :: (b, Obj.cells (tcells sv g.L ++ junk).toArray 85) :: (BE ++ BB)) R) ?_ ?_
      · by_cases c2 : x.st = 3
        · have c3 : ¬ y.st = 3 := fun e => hs' (.inr ⟨c2, e⟩)
          by_cases c4 : x.sq ≤ y.bg
          · ((apply sc_quiet (id := 5); assumption; kernel_rfl); (refine qe_ (ex_move ev_) ?_); (refine qe_ (ex_nilCheck ev_) ?_); (refine qe_ (ex_fieldAddr ev_ asm_) ?_); (refine qe_ (ex_load1 ev_ asm_ mem_ nth_) ?_); (refine qe_ (ex_move ev_) ?_); (refine qe_ (ex_indexAddr ev_ ev_ asm_ asm_ lit_ lt_) ?_); (refine qe_ (ex_fieldAddr ev_ asm_) ?_); (apply sq_ex; (apply ex_load1r; (exact ev_); assumption; (exact mem_); (first | exact x1 | exact x2 | exact x3 | exact y1 | exact y2 | exact y3)); exact rfl); (refine qe_ (ex_eql_t ev_ .const om_) ?_); (refine qe_ (ex_move ev_) ?_); (refine qw_ ?_); (refine qe_ (ex_move ev_) ?_); (refine qw_ ?_); (refine qe_ (ex_nilCheck ev_) ?_); (refine qw_ ?_); (refine qe_ (ex_fieldAddr ev_ asm_) ?_); (refine qw_ ?_); (refine qe_ (ex_load1 ev_ asm_ mem_ nth_) ?_); (refine qw_ ?_); (refine qe_ (ex_move ev_) ?_); (refine qw_ ?_); (refine qe_ (ex_indexAddr ev_ ev_ asm_ asm_ lit_ lt_) ?_); (refine qw_ ?_); (refine qe_ (ex_fieldAddr ev_ asm_) ?_); (refine qw_ ?_); (apply sq_ex; (apply ex_load1r; (exact ev_); assumption; (exact mem_); (first | exact x1 | exact x2 | exact x3 | exact y1 | exact y2 | exact y3)); exact rfl); (refine qw_ ?_); (refine qe_ (ex_move ev_) ?_); (refine qw_ ?_); (refine qe_ (ex_nilCheck ev_) ?_); (refine qw_ ?_); (refine qe_ (ex_fieldAddr ev_ asm_) ?_); (refine qw_ ?_); (refine qe_ (ex_load1 ev_ asm_ mem_ nth_) ?_); (refine qw_ ?_); (refine qe_ (ex_move ev_) ?_); (refine qw_ ?_); (refine qe_ (ex_indexAddr ev_ ev_ asm_ asm_ lit_ lt_) ?_); (refine qw_ ?_); (refine qe_ (ex_fieldAddr ev_ asm_) ?_); (refine qw_ ?_); (apply sq_ex; (apply ex_load1r; (exact ev_); assumption; (exact mem_); (first | exact x1 | exact x2 | exact x3 | exact y1 | exact y2 | exact y3)); exact rfl); (refine qw_ ?_); (refine qe_ (ex_leq_t ev_ ev_ om_) ?_); (refine qe_ (ex_pick_t ev_ ev_) ?_); (refine qe_ (ex_move ev_) ?_); (refine qs_ ?_); (refine qs_ ?_); (refine qs_ ?_); (refine qs_ ?_); (refine qs_ ?_); (refine qs_ ?_); (refine qs_ ?_); (refine qs_ ?_); (refine qs_ ?_); (refine qs_ ?_); (refine qu_ ?_); (refine qu_ ?_); (refine qu_ ?_); (refine qu_ ?_); (refine qu_ ?_); (refine qu_ ?_); (refine qu_ ?_); (refine qu_ ?_); (refine qu_ ?_); (refine qu_ ?_); (refine qu_ ?_); (refine qu_ ?_); (refine qu_ ?_); (refine qu_ ?_); (refine qu_ ?_); (refine qu_ ?_); (refine qu_ ?_); (refine qs_ ?_); (refine qe_ (ex_pick_t ev_ .const) ?_); (apply sq_nil))
            exact ⟨rfl, true, ⟨fun _ => .inl ⟨c2, c4⟩, fun _ => rfl⟩, at_, at_, at_, at_, at_, held_⟩
          · ((apply sc_quiet (id := 5); assumption; kernel_rfl); (refine qe_ (ex_move ev_) ?_); (refine qe_ (ex_nilCheck ev_) ?_); (refine qe_ (ex_fieldAddr ev_ asm_) ?_); (refine qe_ (ex_load1 ev_ asm_ mem_ nth_) ?_); (refine qe_ (ex_move ev_) ?_); (refine qe_ (ex_indexAddr ev_ ev_ asm_ asm_ lit_ lt_) ?_); (refine qe_ (ex_fieldAddr ev_ asm_) ?_); (apply sq_ex; (apply ex_load1r; (exact ev_); assumption; (exact mem_); (first | exact x1 | exact x2 | exact x3 | exact y1 | exact y2 | exact y3)); exact rfl); (refine qe_ (ex_eql_t ev_ .const om_) ?_); (refine qe_ (ex_move ev_) ?_); (refine qw_ ?_); (refine qe_ (ex_move ev_) ?_); (refine qw_ ?_); (refine qe_ (ex_nilCheck ev_) ?_); (refine qw_ ?_); (refine qe_ (ex_fieldAddr ev_ asm_) ?_); (refine qw_ ?_); (refine qe_ (ex_load1 ev_ asm_ mem_ nth_) ?_); (refine qw_ ?_); (refine qe_ (ex_move ev_) ?_); (refine qw_ ?_); (refine qe_ (ex_indexAddr ev_ ev_ asm_ asm_ lit_ lt_) ?_); (refine qw_ ?_); (refine qe_ (ex_fieldAddr ev_ asm_) ?_); (refine qw_ ?_); (apply sq_ex; (apply ex_load1r; (exact ev_); assumption; (exact mem_); (first | exact x1 | exact x2 | exact x3 | exact y1 | exact y2 | exact y3)); exact rfl); (refine qw_ ?_); (refine qe_ (ex_move ev_) ?_); (refine qw_ ?_); (refine qe_ (ex_nilCheck ev_) ?_); (refine qw_ ?_); (refine qe_ (ex_fieldAddr ev_ asm_) ?_); (refine qw_ ?_); (refine qe_ (ex_load1 ev_ asm_ mem_ nth_) ?_); (refine qw_ ?_); (refine qe_ (ex_move ev_) ?_); (refine qw_ ?_); (refine qe_ (ex_indexAddr ev_ ev_ asm_ asm_ lit_ lt_) ?_); (refine qw_ ?_); (refine qe_ (ex_fieldAddr ev_ asm_) ?_); (refine qw_ ?_); (apply sq_ex; (apply ex_load1r; (exact ev_); assumption; (exact mem_); (first | exact x1 | exact x2 | exact x3 | exact y1 | exact y2 | exact y3)); exact rfl); (refine qw_ ?_); (refine qe_ (ex_leq_f ev_ ev_ om_) ?_); (refine qe_ (ex_pick_t ev_ ev_) ?_); (refine qe_ (ex_move ev_) ?_); (refine qw_ ?_); (refine qe_ (ex_move ev_) ?_); (refine qw_ ?_); (refine qe_ (ex_nilCheck ev_) ?_); (refine qw_ ?_); (refine qe_ (ex_fieldAddr ev_ asm_) ?_); (refine qw_ ?_); (refine qe_ (ex_load1 ev_ asm_ mem_ nth_) ?_); (refine qw_ ?_); (refine qe_ (ex_move ev_) ?_); (refine qw_ ?_); (refine qe_ (ex_indexAddr ev_ ev_ asm_ asm_ lit_ lt_) ?_); (refine qw_ ?_); (refine qe_ (ex_fieldAddr ev_ asm_) ?_); (refine qw_ ?_); (apply sq_ex; (apply ex_load1r; (exact ev_); assumption; (exact mem_); (first | exact x1 | exact x2 | exact x3 | exact y1 | exact y2 | exact y3)); exact rfl); (refine qw_ ?_); (refine qe_ (ex_eql_f ev_ .const om_) ?_); (refine qw_ ?_); (refine qe_ (ex_move ev_) ?_); (refine qs_ ?_); (refine qs_ ?_); (refine qs_ ?_); (refine qs_ ?_); (refine qs_ ?_); (refine qs_ ?_); (refine qs_ ?_); (refine qs_ ?_); (refine qs_ ?_); (refine qs_ ?_); (refine qs_ ?_); (refine qs_ ?_); (refine qs_ ?_); (refine qs_ ?_); (refine qs_ ?_); (refine qs_ ?_); (refine qs_ ?_); (refine qw_ ?_); (refine qe_ (ex_pick_f ev_ .const) ?_); (refine qe_ (ex_pick_f ev_ ev_) ?_); (apply sq_nil))
            exact ⟨rfl, false, ⟨fun e => (by cases e), fun e => by rcases e with e | e; exact absurd e.2 c4; exact absurd e.1 c3⟩, at_, at_, at_, at_, at_, held_⟩
        · by_cases c3 : y.st = 3
          · by_cases c4 : y.sq ≤ x.bg
            · ((apply sc_quiet (id := 5); assumption; kernel_rfl); (refine qe_ (ex_move ev_) ?_); (refine qe_ (ex_nilCheck ev_) ?_); (refine qe_ (ex_fieldAddr ev_ asm_) ?_); (refine qe_ (ex_load1 ev_ asm_ mem_ nth_) ?_); (refine qe_ (ex_move ev_) ?_); (refine qe_ (ex_indexAddr ev_ ev_ asm_ asm_ lit_ lt_) ?_); (refine qe_ (ex_fieldAddr ev_ asm_) ?_); (apply sq_ex; (apply ex_load1r; (exact ev_); assumption; (exact mem_); (first | exact x1 | exact x2 | exact x3 | exact y1 | exact y2 | exact y3)); exact rfl); (refine qe_ (ex_eql_f ev_ .const om_) ?_); (refine qe_ (ex_move ev_) ?_); (refine qs_ ?_); (refine qs_ ?_); (refine qs_ ?_); (refine qs_ ?_); (refine qs_ ?_); (refine qs_ ?_); (refine qs_ ?_); (refine qs_ ?_); (refine qs_ ?_); (refine qs_ ?_); (refine qs_ ?_); (refine qs_ ?_); (refine qs_ ?_); (refine qs_ ?_); (refine qs_ ?_); (refine qs_ ?_); (refine qs_ ?_); (refine qe_ (ex_pick_f ev_ .const) ?_); (refine qe_ (ex_move ev_) ?_); (refine qw_ ?_); (refine qe_ (ex_move ev_) ?_); (refine qw_ ?_); (refine qe_ (ex_nilCheck ev_) ?_); (refine qw_ ?_); (refine qe_ (ex_fieldAddr ev_ asm_) ?_); (refine qw_ ?_); (refine qe_ (ex_load1 ev_ asm_ mem_ nth_) ?_); (refine qw_ ?_); (refine qe_ (ex_move ev_) ?_); (refine qw_ ?_); (refine qe_ (ex_indexAddr ev_ ev_ asm_ asm_ lit_ lt_) ?_); (refine qw_ ?_); (refine qe_ (ex_fieldAddr ev_ asm_) ?_); (refine qw_ ?_); (apply sq_ex; (apply ex_load1r; (exact ev_); assumption; (exact mem_); (first | exact x1 | exact x2 | exact x3 | exact y1 | exact y2 | exact y3)); exact rfl); (refine qw_ ?_); (refine qe_ (ex_eql_t ev_ .const om_) ?_); (refine qw_ ?_); (refine qe_ (ex_move ev_) ?_); (refine qw_ ?_); (refine qe_ (ex_move ev_) ?_); (refine qw_ ?_); (refine qe_ (ex_nilCheck ev_) ?_); (refine qw_ ?_); (refine qe_ (ex_fieldAddr ev_ asm_) ?_); (refine qw_ ?_); (refine qe_ (ex_load1 ev_ asm_ mem_ nth_) ?_); (refine qw_ ?_); (refine qe_ (ex_move ev_) ?_); (refine qw_ ?_); (refine qe_ (ex_indexAddr ev_ ev_ asm_ asm_ lit_ lt_) ?_); (refine qw_ ?_); (refine qe_ (ex_fieldAddr ev_ asm_) ?_); (refine qw_ ?_); (apply sq_ex; (apply ex_load1r; (exact ev_); assumption; (exact mem_); (first | exact x1 | exact x2 | exact x3 | exact y1 | exact y2 | exact y3)); exact rfl); (refine qw_ ?_); (refine qe_ (ex_move ev_) ?_); (refine qw_ ?_); (refine qe_ (ex_nilCheck ev_) ?_); (refine qw_ ?_); (refine qe_ (ex_fieldAddr ev_ asm_) ?_); (refine qw_ ?_); (refine qe_ (ex_load1 ev_ asm_ mem_ nth_) ?_); (refine qw_ ?_); (refine qe_ (ex_move ev_) ?_); (refine qw_ ?_); (refine qe_ (ex_indexAddr ev_ ev_ asm_ asm_ lit_ lt_) ?_); (refine qw_ ?_); (refine qe_ (ex_fieldAddr ev_ asm_) ?_); (refine qw_ ?_); (apply sq_ex; (apply ex_load1r; (exact ev_); assumption; (exact mem_); (first | exact x1 | exact x2 | exact x3 | exact y1 | exact y2 | exact y3)); exact rfl); (refine qw_ ?_); (refine qe_ (ex_leq_t ev_ ev_ om_) ?_); (refine qw_ ?_); (refine qe_ (ex_pick_t ev_ ev_) ?_); (refine qe_ (ex_pick_f ev_ ev_) ?_); (apply sq_nil))
              exact ⟨rfl, true, ⟨fun _ => .inr ⟨c3, c4⟩, fun _ => rfl⟩, at_, at_, at_, at_, at_, held_⟩
            · ((apply sc_quiet (id := 5); assumption; kernel_rfl); (refine qe_ (ex_move ev_) ?_); (refine qe_ (ex_nilCheck ev_) ?_); (refine qe_ (ex_fieldAddr ev_ asm_) ?_); (refine qe_ (ex_load1 ev_ asm_ mem_ nth_) ?_); (refine qe_ (ex_move ev_) ?_); (refine qe_ (ex_indexAddr ev_ ev_ asm_ asm_ lit_ lt_) ?_); (refine qe_ (ex_fieldAddr ev_ asm_) ?_); (apply sq_ex; (apply ex_load1r; (exact ev_); assumption; (exact mem_); (first | exact x1 | exact x2 | exact x3 | exact y1 | exact y2 | exact y3)); exact rfl); (refine qe_ (ex_eql_f ev_ .const om_) ?_); (refine qe_ (ex_move ev_) ?_); (refine qs_ ?_); (refine qs_ ?_); (refine qs_ ?_); (refine qs_ ?_); (refine qs_ ?_); (refine qs_ ?_); (refine qs_ ?_); (refine qs_ ?_); (refine qs_ ?_); (refine qs_ ?_); (refine qs_ ?_); (refine qs_ ?_); (refine qs_ ?_); (refine qs_ ?_); (refine qs_ ?_); (refine qs_ ?_); (refine qs_ ?_); (refine qe_ (ex_pick_f ev_ .const) ?_); (refine qe_ (ex_move ev_) ?_); (refine qw_ ?_); (refine qe_ (ex_move ev_) ?_); (refine qw_ ?_); (refine qe_ (ex_nilCheck ev_) ?_); (refine qw_ ?_); (refine qe_ (ex_fieldAddr ev_ asm_) ?_); (refine qw_ ?_); (refine qe_ (ex_load1 ev_ asm_ mem_ nth_) ?_); (refine qw_ ?_); (refine qe_ (ex_move ev_) ?_); (refine qw_ ?_); (refine qe_ (ex_indexAddr ev_ ev_ asm_ asm_ lit_ lt_) ?_); (refine qw_ ?_); (refine qe_ (ex_fieldAddr ev_ asm_) ?_); (refine qw_ ?_); (apply sq_ex; (apply ex_load1r; (exact ev_); assumption; (exact mem_); (first | exact x1 | exact x2 | exact x3 | exact y1 | exact y2 | exact y3)); exact rfl); (refine qw_ ?_); (refine qe_ (ex_eql_t ev_ .const om_) ?_); (refine qw_ ?_); (refine qe_ (ex_move ev_) ?_); (refine qw_ ?_); (refine qe_ (ex_move ev_) ?_); (refine qw_ ?_); (refine qe_ (ex_nilCheck ev_) ?_); (refine qw_ ?_); (refine qe_ (ex_fieldAddr ev_ asm_) ?_); (refine qw_ ?_); (refine qe_ (ex_load1 ev_ asm_ mem_ nth_) ?_); (refine qw_ ?_); (refine qe_ (ex_move ev_) ?_); (refine qw_ ?_); (refine qe_ (ex_indexAddr ev_ ev_ asm_ asm_ lit_ lt_) ?_); (refine qw_ ?_); (refine qe_ (ex_fieldAddr ev_ asm_) ?_); (refine qw_ ?_); (apply sq_ex; (apply ex_load1r; (exact ev_); assumption; (exact mem_); (first | exact x1 | exact x2 | exact x3 | exact y1 | exact y2 | exact y3)); exact rfl); (refine qw_ ?_); (refine qe_ (ex_move ev_) ?_); (refine qw_ ?_); (refine qe_ (ex_nilCheck ev_) ?_); (refine qw_ ?_); (refine qe_ (ex_fieldAddr ev_ asm_) ?_); (refine qw_ ?_); (refine qe_ (ex_load1 ev_ asm_ mem_ nth_) ?_); (refine qw_ ?_); (refine qe_ (ex_move ev_) ?_); (refine qw_ ?_); (refine qe_ (ex_indexAddr ev_ ev_ asm_ asm_ lit_ lt_) ?_); (refine qw_ ?_); (refine qe_ (ex_fieldAddr ev_ asm_) ?_); (refine qw_ ?_); (apply sq_ex; (apply ex_load1r; (exact ev_); assumption; (exact mem_); (first | exact x1 | exact x2 | exact x3 | exact y1 | exact y2 | exact y3)); exact rfl); (refine qw_ ?_); (refine qe_ (ex_leq_f ev_ ev_ om_) ?_); (refine qw_ ?_); (refine qe_ (ex_pick_t ev_ ev_) ?_); (refine qe_ (ex_pick_f ev_ ev_) ?_); (apply sq_nil))
              exact ⟨rfl, false, ⟨fun e => (by cases e), fun e => by rcases e with e | e; exact absurd e.1 c2; exact absurd e.2 c4⟩, at_, at_, at_, at_, at_, held_⟩
          · ((apply sc_quiet (id := 5); assumption; kernel_rfl); (refine qe_ (ex_move ev_) ?_); (refine qe_ (ex_nilCheck ev_) ?_); (refine qe_ (ex_fieldAddr ev_ asm_) ?_); (refine qe_ (ex_load1 ev_ asm_ mem_ nth_) ?_); (refine qe_ (ex_move ev_) ?_); (refine qe_ (ex_indexAddr ev_ ev_ asm_ asm_ lit_ lt_) ?_); (refine qe_ (ex_fieldAddr ev_ asm_) ?_); (apply sq_ex; (apply ex_load1r; (exact ev_); assumption; (exact mem_); (first | exact x1 | exact x2 | exact x3 | exact y1 | exact y2 | exact y3)); exact rfl); (refine qe_ (ex_eql_f ev_ .const om_) ?_); (refine qe_ (ex_move ev_) ?_); (refine qs_ ?_); (refine qs_ ?_); (refine qs_ ?_); (refine qs_ ?_); (refine qs_ ?_); (refine qs_ ?_); (refine qs_ ?_); (refine qs_ ?_); (refine qs_ ?_); (refine qs_ ?_); (refine qs_ ?_); (refine qs_ ?_); (refine qs_ ?_); (refine qs_ ?_); (refine qs_ ?_); (refine qs_ ?_); (refine qs_ ?_); (refine qe_ (ex_pick_f ev_ .const) ?_); (refine qe_ (ex_move ev_) ?_); (refine qw_ ?_); (refine qe_ (ex_move ev_) ?_); (refine qw_ ?_); (refine qe_ (ex_nilCheck ev_) ?_); (refine qw_ ?_); (refine qe_ (ex_fieldAddr ev_ asm_) ?_); (refine qw_ ?_); (refine qe_ (ex_load1 ev_ asm_ mem_ nth_) ?_); (refine qw_ ?_); (refine qe_ (ex_move ev_) ?_); (refine qw_ ?_); (refine qe_ (ex_indexAddr ev_ ev_ asm_ asm_ lit_ lt_) ?_); (refine qw_ ?_); (refine qe_ (ex_fieldAddr ev_ asm_) ?_); (refine qw_ ?_); (apply sq_ex; (apply ex_load1r; (exact ev_); assumption; (exact mem_); (first | exact x1 | exact x2 | exact x3 | exact y1 | exact y2 | exact y3)); exact rfl); (refine qw_ ?_); (refine qe_ (ex_eql_f ev_ .const om_) ?_); (refine qw_ ?_); (refine qe_ (ex_move ev_) ?_); (refine qs_ ?_); (refine qs_ ?_); (refine qs_ ?_); (refine qs_ ?_); (refine qs_ ?_); (refine qs_ ?_); (refine qs_ ?_); (refine qs_ ?_); (refine qs_ ?_); (refine qs_ ?_); (refine qs_ ?_); (refine qs_ ?_); (refine qs_ ?_); (refine qs_ ?_); (refine qs_ ?_); (refine qs_ ?_); (refine qs_ ?_); (refine qw_ ?_); (refine qe_ (ex_pick_f ev_ .const) ?_); (refine qe_ (ex_pick_f ev_ ev_) ?_); (apply sq_nil))
            exact ⟨rfl, false, ⟨fun e => (by cases e), fun e => by rcases e with e | e; exact absurd e.1 c2; exact absurd e.1 c3⟩, at_, at_, at_, at_, at_, held_⟩
      clear a0 a1 a2 a3 a9 a10 a52 hG
      rintro u f L' ⟨rfl, s, hs2, a110, a0, a1, a2, a3, ⟨G, hG⟩⟩
      refine nm_then (sc_perm hG ?_)
      simp only [List.cons_append, List.append_assoc]
      cases s with
      | true =>
        have hno : noEdgeR x y := .inr (.inr (hs2.1 rfl))
        have e1 : g.edgeG a w = g := by unfold RG.edgeG; rw [hfa, hfw]; dsimp only; rw [if_pos hno]
        have e2 : g.edgeR a w acts = 0 := by unfold RG.edgeR; rw [hfa, hfw]; dsimp only; rw [if_pos hno]
        rw [e1, e2]
        ((refine ct_ ?_); refine sr_ ?_; (refine ac_ ?_); refine sn_ ?_; (apply sc_ret); (apply rt_then); (apply ret_ok; (focus ((apply Res.tmp; (exact ev_)); exact Res.nil)); (exact ⟨rfl, _, cl, oe, ce, sv, _, BE, BB, rfl, hsame⟩); (exact sel_); (exact appb_)))
      | false =>
      have hno : ¬ noEdgeR x y := fun e => by
        rcases e with e | e | e
        · exact hs' (.inl e)
        · exact hs' (.inr e)
        · exact Bool.false_ne_true (hs2.2 e)
      have e1 : g.edgeG a w = (g.link (a, w)).doom (vics g.L (g.link (a, w)).E (a, w) false) := by unfold RG.edgeG; rw [hfa, hfw]; dsimp only; rw [if_neg hno]
      have e2 : g.edgeR a w acts = if (g.edgeG a w).isDoomed acts then 43 else 0 := by unfold RG.edgeR; rw [hfa, hfw]; dsimp only; rw [if_neg hno]
      have hhas := has_tri (p := p) (ce := ce) (vl := .slice (some ⟨b, 0, none⟩) g.L.length cl) (n := g.n) (row_ed h.e [(b, Obj.cells (tcells sv g.L ++ junk).toArray 85)] BB) (show g.E.length ≤ 1000000 by omega) a w
      simp only [hdr, List.cons_append, List.nil_append] at hhas
      ((refine cf_ ?_); (apply sc_skip); (apply nm_then); (apply sc_seq))
      apply sc_region
      ((refine mv_ ?_); (refine mv_ ?_); (apply so_ex; (apply ex_build; ((focus ((apply EvP.cons; (exact ev_)); (apply EvP.cons; (exact ev_)); exact EvP.nil))); assumption; ((focus (repeat (first | exact Bld.nil (by assumption) | (apply Bld.cons; assumption; exact rfl; exact rfl; (focus (repeat (first | exact SetSub.nil | apply SetSub.take | apply SetSub.drop))))))))); exact rfl); (apply so_alloc; assumption; exact rfl; intro _); (apply so_store; (exact ev_); (exact ev_); assumption; exact rfl; exact rfl; exact rfl; (focus (repeat (first | exact Turn.here | apply Turn.there | apply Turn.pre))); (focus (repeat (first | exact SetSub.nil | apply SetSub.take | apply SetSub.drop)))); (apply so_nil); (apply nm_then))
      rename_i be
      -- the edge is there
      apply sc_seq
      refine SC.mono (Q := fun u f L' => u = .normal ∧ ∃ oe2 ce2 BE2, Row 92 2 (.slice oe2 (g.link (a, w)).E.length ce2) (ecells (g.link (a, w)).E) BE2 ∧ At f 0 (.pointer (some ⟨p, 0, none⟩)) ∧ At f 1 (.int .i64 a) ∧ At f 2 (.int .i64 w) ∧ At f 3 (.int .i64 acts) ∧ At f 11 (.pointer (some ⟨be, 0, none⟩)) ∧ Held L' ((be, Obj.cells [Value.int .i64 a, .int .i64 w].toArray 92) :: (p, Obj.cells [Value.slice (some ⟨b, 0, none⟩) g.L.length cl, .slice oe2 (g.link (a, w)).E.length ce2, .int .i64 g.n].toArray 59) :: (b, Obj.cells (tcells sv g.L ++ junk).toArray 85) :: (BE2 ++ BB)) R) ?_ ?_
      · by_cases hmem : (a, w) ∈ g.E
        · rw [decide_eq_true hmem] at hhas
          have hl1 : (g.link (a, w)).E = g.E := by unfold RG.link; dsimp only; rw [if_pos hmem]
          rw [hl1]
          (refine sr_ ?_; (refine mv_ ?_); (refine mv_ ?_); (refine mv_ ?_); (apply so_callq; (exact Ev.func); (focus ((apply EvL.cons; (exact ev_)); (apply EvL.cons; (exact ev_)); (apply EvL.cons; (exact ev_)); exact EvL.nil)); (focus (repeat (first | exact App.nil | apply App.cons))); assumption; exact hhas; (exact sel_); exact rfl); (refine se_ (ex_not ev_) ?_); refine sn_ ?_; (refine cf_ ?_); (apply sc_skip))
          exact ⟨rfl, oe, ce, BE, h.e, at_, at_, at_, at_, at_, held_⟩
        · rw [decide_eq_false hmem] at hhas
          have hl1 : (g.link (a, w)).E = g.E ++ [(a, w)] := by unfold RG.link; dsimp only; rw [if_neg hmem]
          rw [hl1]
          have hel : g.E.length ≤ 1000000000 := by omega
          (refine sr_ ?_; (refine mv_ ?_); (refine mv_ ?_); (refine mv_ ?_); (apply so_callq; (exact Ev.func); (focus ((apply EvL.cons; (exact ev_)); (apply EvL.cons; (exact ev_)); (apply EvL.cons; (exact ev_)); exact EvL.nil)); (focus (repeat (first | exact App.nil | apply App.cons))); assumption; exact hhas; (exact sel_); exact rfl); (refine se_ (ex_not ev_) ?_); refine sn_ ?_; (refine ct_ ?_); (apply sc_any (id := 9) (vol := (p, Obj.cells [Value.slice (some ⟨b, 0, none⟩) g.L.length cl, .slice oe g.E.length ce, .int .i64 g.n].toArray 59) :: BE); assumption; (exact sel_); exact rfl; exact rfl; (apply sa_take (i := 0); kernel_rfl; exact rfl; kernel_rfl; kernel_rfl; exact rfl; exact rfl; (exact sel_); (apply qo_ex; (apply ex_move; (exact ev_))); apply sa_take (i := 1); kernel_rfl; exact rfl; kernel_rfl; kernel_rfl; exact rfl; exact rfl; (exact sel_); (apply qo_ex; (apply ex_move; (exact ev_))); apply sa_take (i := 2); kernel_rfl; exact rfl; kernel_rfl; kernel_rfl; exact rfl; exact rfl; (exact sel_); (apply qo_ex; (apply ex_nilCheck; (exact ev_))); apply sa_take (i := 3); kernel_rfl; exact rfl; kernel_rfl; kernel_rfl; exact rfl; exact rfl; (exact sel_); (apply qo_ex; (apply ex_fieldAddr; (exact ev_); assumption)); apply sa_take (i := 5); kernel_rfl; exact rfl; kernel_rfl; kernel_rfl; exact rfl; exact rfl; (exact sel_); (apply qo_ex; (apply ex_loadN; (exact ev_); assumption; (exact mem_); (exact sub_))); apply sa_two (i := 4) (j := 6); exact rfl; exact rfl; kernel_rfl; exact rfl; exact rfl; rotate_left 1; ((((apply so_buildS; (focus ((apply EvP.cons; (exact ev_)); exact EvP.nil)); assumption; assumption; assumption; (focus (repeat (first | exact SeqP.nil | (apply SeqP.cons; exact rfl; exact rfl) | exact App.nil | apply App.cons))); exact rfl; exact rfl; exact rfl; intro _)))); apply sa_next; (exact sel_); (apply sa_one (i := 4); exact rfl; kernel_rfl; exact rfl; (((refine se_ (ex_load1 ev_ asm_ mem_ nth_) ?_))); apply sa_next; (exact sel_); apply sa_one (i := 7); exact rfl; kernel_rfl; exact rfl; (((apply so_appE (e1 := a) (e2 := w); (exact ev_); (exact ev_); exact h.e; (exact sel_); (exact mem_); exact hel; assumption; assumption; assumption; assumption; exact rfl; intro o3 cap3 B3 hB3))); apply sa_next; (exact sel_); apply sa_take (i := 8); kernel_rfl; exact rfl; kernel_rfl; kernel_rfl; exact rfl; exact rfl; (exact sel_); (apply qo_ex; (apply ex_nilCheck; (exact ev_))); apply sa_take (i := 9); kernel_rfl; exact rfl; kernel_rfl; kernel_rfl; exact rfl; exact rfl; (exact sel_); (apply qo_ex; (apply ex_fieldAddr; (exact ev_); assumption)); apply sa_one (i := 10); exact rfl; kernel_rfl; exact rfl; (((apply so_store; (exact ev_); (exact ev_); assumption; exact rfl; exact rfl; exact rfl; (focus (repeat (first | exact Turn.here | apply Turn.there | apply Turn.pre))); (focus (repeat (first | exact SetSub.nil | apply SetSub.take | apply SetSub.drop)))))); apply sa_next; (exact sel_); (apply sa_done; kernel_rfl)); rotate_right 1; ((((refine se_ (ex_load1 ev_ asm_ mem_ nth_) ?_)))); apply sa_next; (exact sel_); (apply sa_one (i := 6); exact rfl; kernel_rfl; exact rfl; (((apply so_buildS; (focus ((apply EvP.cons; (exact ev_)); exact EvP.nil)); assumption; assumption; assumption; (focus (repeat (first | exact SeqP.nil | (apply SeqP.cons; exact rfl; exact rfl) | exact App.nil | apply App.cons))); exact rfl; exact rfl; exact rfl; intro _))); apply sa_next; (exact sel_); apply sa_one (i := 7); exact rfl; kernel_rfl; exact rfl; (((apply so_appE (e1 := a) (e2 := w); (exact ev_); (exact ev_); exact h.e; (exact sel_); (exact mem_); exact hel; assumption; assumption; assumption; assumption; exact rfl; intro o3 cap3 B3 hB3))); apply sa_next; (exact sel_); apply sa_take (i := 8); kernel_rfl; exact rfl; kernel_rfl; kernel_rfl; exact rfl; exact rfl; (exact sel_); (apply qo_ex; (apply ex_nilCheck; (exact ev_))); apply sa_take (i := 9); kernel_rfl; exact rfl; kernel_rfl; kernel_rfl; exact rfl; exact rfl; (exact sel_); (apply qo_ex; (apply ex_fieldAddr; (exact ev_); assumption)); apply sa_one (i := 10); exact rfl; kernel_rfl; exact rfl; (((apply so_store; (exact ev_); (exact ev_); assumption; exact rfl; exact rfl; exact rfl; (focus (repeat (first | exact Turn.here | apply Turn.there | apply Turn.pre))); (focus (repeat (first | exact SetSub.nil | apply SetSub.take | apply SetSub.drop)))))); apply sa_next; (exact sel_); (apply sa_done; kernel_rfl)))); (apply And.intro rfl; exact ⟨_, _, _, by assumption, at_, at_, at_, at_, at_, held_⟩); (apply And.intro rfl; exact ⟨_, _, _, by assumption, at_, at_, at_, at_, at_, held_⟩))
      clear a0 a1 a2 a3 a110 hG
      rintro u f L' ⟨rfl, oe2, ce2, BE2, hBE2, a0, a1, a2, a3, a11, ⟨G, hG⟩⟩
      refine nm_then (sc_perm hG ?_)
      simp only [List.cons_append, List.append_assoc]
      have hlk : ∀ e ∈ (g.link (a, w)).E, (∃ z ∈ g.L, z.id = e.1) ∧ (∃ z ∈ g.L, z.id = e.2) := fun e he => by
        rcases link_mem.1 he with he | rfl
        · exact (hok.ed e he).2
        · exact ⟨⟨x, (findR_some hfa).1, hxid⟩, ⟨y, (findR_some hfw).1, hyid⟩⟩
      have hle2 : (g.link (a, w)).E.length ≤ K + 1 := by
        unfold RG.link; dsimp only; split
        · omega
        · rw [List.length_append]; simp; omega
      have hRB : RBlk (K + 1) (g.link (a, w)) sv (some ⟨b, 0, none⟩) cl oe2 ce2 [(b, Obj.cells (tcells sv g.L ++ junk).toArray 85)] BE2 BB := ⟨h.l, hBE2, hsame.b, hsame.sl, hle2, hsame.n, hK⟩
      have hvt := victims_tri (p := p) (cl := cl) (ce := ce2) (n := g.n) (row_tx h.l (BE2 ++ BB)) (row_ed hBE2 [(b, Obj.cells (tcells sv g.L ++ junk).toArray 85)] BB) hlk (by omega) (by omega) a w false
      simp only [hdr, List.cons_append, List.nil_append] at hvt
      have hvin : ∀ k ∈ vics g.L (g.link (a, w)).E (a, w) false, ∃ z ∈ g.L, z.id = k := fun k hk => vics_in hk
      have hvl := vics_len g.L (g.link (a, w)).E (a, w) false
      have hvl2 : (vics g.L (g.link (a, w)).E (a, w) false).length ≤ 1000000 := Nat.le_trans hvl (Nat.le_trans (Nat.mul_le_mul hle2 hle2) (Nat.le_trans (Nat.mul_le_mul hK hK) (by decide)))
      generalize hvs : vics g.L (g.link (a, w)).E (a, w) false = vs at *
      (refine sr_ ?_; (refine mv_ ?_); (refine se_ (ex_loadN ev_ asm_ mem_ sub_) ?_))
      (apply so_call; (exact Ev.func); (focus ((apply EvL.cons; (exact ev_)); (apply EvL.cons; (exact ev_)); (apply EvL.cons; (exact Ev.const)); exact EvL.nil)); (focus (repeat (first | exact App.nil | apply App.cons))); assumption; (exact hvt); (exact sel_); exact rfl)
      rintro v L1 ⟨ov, cv, Bv, rfl, hBv, rfl⟩
      simp only [List.cons_append, List.append_assoc]
      ((refine asg_ ?_); refine sn_ ?_; (apply sc_seq); refine sr_ ?_; (refine ac_ ?_); refine sn_ ?_; (apply sc_block))
      refine sc_loop (fun q f L' => ∃ i : Nat, i ≤ vs.length ∧ q = vs.length - i ∧ At f 0 (.pointer (some ⟨p, 0, none⟩)) ∧ At f 1 (.int .i64 a) ∧ At f 2 (.int .i64 w) ∧ At f 3 (.int .i64 acts) ∧ At f 12 (.slice ov vs.length cv) ∧ At f 13 (.int .i64 (i : Int)) ∧ Held L' ((p, Obj.cells [Value.slice (some ⟨b, 0, none⟩) g.L.length cl, .slice oe2 (g.link (a, w)).E.length ce2, .int .i64 g.n].toArray 59) :: (b, Obj.cells (tcells sv (g.L.map (rDm (vs.take i))) ++ junk).toArray 85) :: (Bv ++ (BE2 ++ BB))) R) _
        ⟨0, by omega, rfl, at_, at_, at_, at_, at_, at_, by rw [List.take_zero, rDm_nil]; exact held_⟩ ?_
      clear a0 a1 a2 a3 a11 hG
      rintro q f L' ⟨i, hi, hq, a0, a1, a2, a3, a12, a13, ⟨G, hG⟩⟩
      refine sc_perm hG ?_
      simp only [List.cons_append, List.append_assoc]
      by_cases hlt : i < vs.length
      · have hlt' : (i : Int) < (vs.length : Int) := by omega
        obtain ⟨bv, junkv, hov, rfl, hv1, hv2⟩ := row_open hBv (by omega)
        subst hov
        simp only [List.cons_append, List.nil_append]
        have hnth : (vs.map (Value.int .i64) ++ junkv)[0 + i * 1]? = some (.int .i64 vs[i]) := by
          rw [Nat.zero_add, Nat.mul_one, List.getElem?_append_left (by simpa using hlt)]; simp [hlt]
        obtain ⟨ik, hik, hvk, hst1, hst2⟩ := mark_step (sv := sv) junk hok.nd hlt (hvin _ (List.getElem_mem hlt))
        have hatk := at_tri (p := p) (cl := cl) (ve := .slice oe2 (g.link (a, w)).E.length ce2) (n := g.n) (l := g.L.map (rDm (vs.take i))) (sv := sv) (ol := some ⟨b, 0, none⟩) (P0 := [(b, Obj.cells (tcells sv (g.L.map (rDm (vs.take i))) ++ junk).toArray 85)]) (fun _ => ⟨b, junk, rfl, List.mem_cons_self ..⟩) (by rw [List.length_map]; omega) vs[i]
        rw [hvk, List.length_map] at hatk
        simp only [hdr] at hatk
        generalize hkk : vs[i] = kk at *
        ((apply sc_seq); refine sr_ ?_; (refine mv_ ?_); (refine mv_ ?_); (refine se_ (ex_len_slice ev_ asm_) ?_); (refine se_ (ex_lss_t ev_ ev_ om_) ?_); refine sn_ ?_; (refine ct_ ?_); (apply sc_skip); (apply nm_then); (apply sc_seq); (apply sc_block); (apply sc_any (id := 14) (vol := [(b, Obj.cells (tcells sv (g.L.map (rDm (vs.take i))) ++ junk).toArray 85)]); assumption; (exact sel_); exact rfl; exact rfl; (apply sa_take (i := 0); kernel_rfl; exact rfl; kernel_rfl; kernel_rfl; exact rfl; exact rfl; (exact sel_); (apply qo_ex; (apply ex_move; (exact ev_))); apply sa_take (i := 1); kernel_rfl; exact rfl; kernel_rfl; kernel_rfl; exact rfl; exact rfl; (exact sel_); (apply qo_ex; (apply ex_nilCheck; (exact ev_))); apply sa_take (i := 2); kernel_rfl; exact rfl; kernel_rfl; kernel_rfl; exact rfl; exact rfl; (exact sel_); (apply qo_ex; (apply ex_fieldAddr; (exact ev_); assumption)); apply sa_take (i := 3); kernel_rfl; exact rfl; kernel_rfl; kernel_rfl; exact rfl; exact rfl; (exact sel_); (apply qo_ex; (apply ex_load1; (exact ev_); assumption; (exact mem_); (exact nth_))); apply sa_take (i := 4); kernel_rfl; exact rfl; kernel_rfl; kernel_rfl; exact rfl; exact rfl; (exact sel_); (apply qo_ex; (apply ex_move; (exact ev_))); apply sa_take (i := 5); kernel_rfl; exact rfl; kernel_rfl; kernel_rfl; exact rfl; exact rfl; (exact sel_); (apply qo_ex; (apply ex_move; (exact ev_))); apply sa_take (i := 6); kernel_rfl; exact rfl; kernel_rfl; kernel_rfl; exact rfl; exact rfl; (exact sel_); (apply qo_ex; (apply ex_move; (exact ev_))); apply sa_take (i := 7); kernel_rfl; exact rfl; kernel_rfl; kernel_rfl; exact rfl; exact rfl; (exact sel_); (apply qo_ex; (apply ex_indexAddr; (exact ev_); (exact ev_); assumption; assumption; (first | exact rfl | exact (rfl : (0:Int) = ((0:Nat):Int)) | exact (rfl : (1:Int) = ((1:Nat):Int)) | exact (rfl : (2:Int) = ((2:Nat):Int)) | assumption); (first | assumption | omega | decide))); apply sa_take (i := 8); kernel_rfl; exact rfl; kernel_rfl; kernel_rfl; exact rfl; exact rfl; (exact sel_); (apply qo_ex; apply ex_load1r; (exact ev_); assumption; (exact mem_); exact hnth); apply sa_one (i := 9); exact rfl; kernel_rfl; exact rfl; (((apply so_callq; (exact Ev.func); (focus ((apply EvL.cons; (exact ev_)); (apply EvL.cons; (exact ev_)); exact EvL.nil)); (focus (repeat (first | exact App.nil | apply App.cons))); assumption; exact hatk; (exact sel_); exact rfl))); apply sa_next; (exact sel_); apply sa_take (i := 10); kernel_rfl; exact rfl; kernel_rfl; kernel_rfl; exact rfl; exact rfl; (exact sel_); (apply qo_ex; (apply ex_indexAddr; (exact ev_); (exact ev_); assumption; assumption; (first | exact rfl | exact (rfl : (0:Int) = ((0:Nat):Int)) | exact (rfl : (1:Int) = ((1:Nat):Int)) | exact (rfl : (2:Int) = ((2:Nat):Int)) | assumption); (first | assumption | omega | decide))); apply sa_take (i := 11); kernel_rfl; exact rfl; kernel_rfl; kernel_rfl; exact rfl; exact rfl; (exact sel_); (apply qo_ex; (apply ex_fieldAddr; (exact ev_); assumption)); apply sa_one (i := 12); exact rfl; kernel_rfl; exact rfl; (((apply so_storer (r := [Value.bool true]); (exact ev_); (exact Ev.const); assumption; exact rfl; exact rfl; exact rfl; (focus (repeat (first | exact Turn.here | apply Turn.there | apply Turn.pre))); exact hst1; exact hst2))); apply sa_next; (exact sel_); (apply sa_done; kernel_rfl))); (apply nm_block); (apply nm_then); (apply sc_region); (refine mv_ ?_); (refine se_ (ex_add ev_ .const wr_) ?_); (refine asg_ ?_); (apply so_nil); (apply nm_then))
        exact ⟨_, by rw [hq]; omega, i + 1, by omega, rfl, at_, at_, at_, at_, at_, at_, held_⟩
      · have hlt' : ¬ (i : Int) < (vs.length : Int) := by omega
        obtain rfl : i = vs.length := by omega
        simp only [List.take_length]
        have hlm : (g.L.map (rDm vs)).length = g.L.length := List.length_map ..
        have hdt := dmR_tri (p := p) (cl := cl) (ve := .slice oe2 (g.link (a, w)).E.length ce2) (n := g.n) (l := g.L.map (rDm vs)) (sv := sv) (ol := some ⟨b, 0, none⟩) (P0 := [(b, Obj.cells (tcells sv (g.L.map (rDm vs)) ++ junk).toArray 85)]) (fun _ => ⟨b, junk, rfl, List.mem_cons_self ..⟩) (by rw [hlm]; omega) acts
        rw [hlm] at hdt
        simp only [hdr] at hdt
        have hfin := hRB.map rfl hl hj (rDm vs) (fun x => ⟨rDm_id vs x, rDm_bs vs x⟩) (Nat.le_refl (K + 1)) hK hRB.n
        have e3 : (g.edgeG a w).isDoomed acts = dmL (g.L.map (rDm vs)) acts := by rw [e1]; rfl
        rw [e2, e3, e1]
        cases hdm : dmL (g.L.map (rDm vs)) acts with
        | true =>
          rw [hdm] at hdt
          ((apply sc_seq); refine sr_ ?_; (refine mv_ ?_); (refine mv_ ?_); (refine se_ (ex_len_slice ev_ asm_) ?_); (refine se_ (ex_lss_f ev_ ev_ om_) ?_); refine sn_ ?_; (refine cf_ ?_); (apply sc_exit); (apply et_then); (apply et_then); (apply et_hit); (apply nm_then); (apply sc_seq); refine sr_ ?_; (refine mv_ ?_); (refine mv_ ?_); (apply so_callq; (exact Ev.func); (focus ((apply EvL.cons; (exact ev_)); (apply EvL.cons; (exact ev_)); exact EvL.nil)); (focus (repeat (first | exact App.nil | apply App.cons))); assumption; exact hdt; (exact sel_); exact rfl); refine sn_ ?_; (refine ct_ ?_); refine sr_ ?_; (refine ac_ ?_); refine sn_ ?_; (apply sc_ret); (apply rt_then))
          rw [← hlm]
          (apply ret_ok; (focus ((apply Res.tmp; (exact ev_)); exact Res.nil)); (exact ⟨rfl, _, cl, oe2, ce2, sv, _, BE2, BB, rfl, hfin⟩); (exact sel_); (exact appb_))
        | false =>
          rw [hdm] at hdt
          ((apply sc_seq); refine sr_ ?_; (refine mv_ ?_); (refine mv_ ?_); (refine se_ (ex_len_slice ev_ asm_) ?_); (refine se_ (ex_lss_f ev_ ev_ om_) ?_); refine sn_ ?_; (refine cf_ ?_); (apply sc_exit); (apply et_then); (apply et_then); (apply et_hit); (apply nm_then); (apply sc_seq); refine sr_ ?_; (refine mv_ ?_); (refine mv_ ?_); (apply so_callq; (exact Ev.func); (focus ((apply EvL.cons; (exact ev_)); (apply EvL.cons; (exact ev_)); exact EvL.nil)); (focus (repeat (first | exact App.nil | apply App.cons))); assumption; exact hdt; (exact sel_); exact rfl); refine sn_ ?_; (refine cf_ ?_); (apply sc_skip); (apply nm_then); refine sr_ ?_; (refine ac_ ?_); refine sn_ ?_; (apply sc_ret))
          rw [← hlm]
          (apply ret_ok; (focus ((apply Res.tmp; (exact ev_)); exact Res.nil)); (exact ⟨rfl, _, cl, oe2, ce2, sv, _, BE2, BB, rfl, hfin⟩); (exact sel_); (exact appb_))
end Go.Proofs.Ytomgkmoecbnddaa
