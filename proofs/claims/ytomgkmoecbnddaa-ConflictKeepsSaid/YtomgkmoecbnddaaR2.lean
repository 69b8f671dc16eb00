/- Conflict: Check. -/
import Derived.Test.YtomgkmoecbnddaaR1
set_option linter.unusedVariables false
set_option linter.unusedSimpArgs false
set_option linter.unnecessarySimpa false
namespace Go.Proofs.Ytomgkmoecbnddaa
open Go.Sym

def setAsk (n : Nd) : Nd := if n.state = 2 then n else { n with state := 1 }
theorem setAsk_id (n : Nd) : (setAsk n).id = n.id := by unfold setAsk; split <;> rfl
theorem setAsk_two (n : Nd) : (setAsk n).state = 2 ↔ n.state = 2 := by
  unfold setAsk
  split
  · exact Iff.rfl
  · rename_i h; exact ⟨fun e => absurd (show (1 : Int) = 2 from e) (by decide), fun e => absurd e h⟩
theorem setAsk_keep (n : Nd) : ∃ a b d e, setAsk n = { n with dm := a, reach := b, least := d, state := e } ∧ (e = 2 ↔ n.state = 2) := by
  unfold setAsk
  split
  · exact ⟨_, _, _, _, rfl, Iff.rfl⟩
  · rename_i h; exact ⟨_, _, _, 1, rfl, ⟨fun e => absurd e (by decide), fun e => absurd e h⟩⟩
/-- what Check does and answers -/
def Gr.checkQ (g : Gr) (tx : Int) : Int × Gr :=
  match findL g.nodes tx with
  | none => (41, g)
  | some n =>
    if n.state ≠ 0 then (41, g) else
    if n.dm = true then (43, g) else
    if tx ∈ chkL g.nodes n then (43, g.doomV [tx])
    else (0, (g.doomV (chkL g.nodes n)).upd (at1 tx) setAsk)
def chkF (l : List Nd) (n : Nd) (k : Int) : List Int := match findL l k with | none => [] | some p => (fromL l p n true).filterMap (victL l)
theorem chkL_eq (l : List Nd) (n : Nd) : chkL l n = (sortI n.ins).flatMap (chkF l n) := rfl
theorem flatMap_len {α β : Type} {F : α → List β} {c : Nat} (h : ∀ k, (F k).length ≤ c) : ∀ l : List α, (l.flatMap F).length ≤ l.length * c
  | [] => by simp
  | a :: l => by
    rw [List.flatMap_cons, List.length_append, List.length_cons, Nat.succ_mul]
    have := h a; have := flatMap_len h l; omega
theorem take_fl {α : Type} (zs : List Int) (F : Int → List α) {i : Nat} (h : i < zs.length) : (zs.take (i + 1)).flatMap F = (zs.take i).flatMap F ++ F zs[i] := by
  rw [List.take_succ_eq_append_getElem h, List.flatMap_append]
  simp
theorem SlP.row {ρ : Int → Raw} {S : List Int} {v : Value} {B : List Blk} (h : SlP ρ S v B) : Row 69 1 v (pcells ρ S) B := by
  rcases h with ⟨rfl, rfl, rfl⟩ | ⟨b, cap, junk, _, rfl, hj, rfl⟩
  · exact .nil
  · exact .row (by simp [pcells]) (by omega)
theorem SlP.of_row {ρ : Int → Raw} {S : List Int} {v : Value} {B : List Blk} (hne : S ≠ []) (h : Row 69 1 v (pcells ρ S) B) (hn : v = .slice none 0 0 → pcells ρ S = []) : SlP ρ S v B := by
  have hl : (pcells ρ S).length = S.length := by simp [pcells]
  have hpos : 0 < S.length := List.length_pos_iff.2 hne
  generalize hX : pcells ρ S = X at *
  cases h with
  | nil => simp at hl; omega
  | row h1 h2 =>
    rename_i b len cap junk
    have hlen : len = S.length := by omega
    subst hlen
    exact .inr ⟨b, cap, junk, hne, rfl, by rw [hX]; omega, by rw [hX]⟩
theorem so_appP {E : Env} {n : Nat} {Q : SPost} {f : Nat → Value} {L R : List Blk} {ops rest : List Oper} {x y : Operand} {ty : TypeId} {pos : String} {after : Array Edge} {d b2 : Nat} {ρ : Int → Raw} {vs : List Int} {k : Int} {v1 : Value} {B1 : List Blk}
    (hx : Ev f x v1) (hy : Ev f y (.slice (some ⟨b2, 0, none⟩) 1 1)) (h1 : SlP ρ vs v1 B1) (hs : Sel L B1 R) (hm2 : (b2, .cells [ptrB (ρ k).b].toArray 69) ∈ L) (hb1 : vs.length ≤ 1000000000)
    (ht : Und Try.prog 81 (.slice 69)) (hT : tyOf Try.prog 69 = some (false, 1)) (hz : zeroOf Try.prog 69 = some [.pointer none]) (hby : bytesT Try.prog 69 = some 8) (hd : Nat.blt d n = true)
    (h : ∀ v B, SlP ρ (vs ++ [k]) v B → SO Try.prog E n ops Q rest (upd f d v) (B ++ R)) : SO Try.prog E n ops Q (⟨some d, .call ⟨.builtin .append, #[x, y], #[81, 81]⟩, ty, pos, after, none⟩ :: rest) f L := by
  have hr := h1.row
  have hc : ∃ po len cap, v1 = .slice po len cap ∧ len ≤ 1000000000 := by
    rcases h1 with ⟨_, rfl, _⟩ | ⟨b, cap, junk, _, rfl, hj, _⟩
    · exact ⟨_, _, _, rfl, by omega⟩
    · exact ⟨_, _, _, rfl, hb1⟩
  obtain ⟨po, len, cap, rfl, hle⟩ := hc
  refine so_append (ys := [ptrB (ρ k).b]) hx hy hr hs hm2 rfl (fun j hj => by rw [Nat.zero_add]) ht hT hz rfl hby (by omega) (by omega) rfl rfl hd fun v' H' hr' hn' => ?_
  have e : pcells ρ (vs ++ [k]) = pcells ρ vs ++ [ptrB (ρ k).b] := by unfold pcells; rw [List.map_append]; rfl
  rw [← e] at hr' hn'
  exact h v' H' (SlP.of_row (by simp) hr' hn')
theorem check_tri {K : Nat} {g : Gr} {M : Mem} (hI : Inv K g M) {tx : Int} :
    Tri Try.prog 15 #[.pointer (some ⟨M.p, 0, none⟩), .int .i64 tx] (blks g M)
      fun v L => v = .int .i64 (g.checkQ tx).1 ∧ L = blks (g.checkQ tx).2 M ∧ Inv K (g.checkQ tx).2 M ∧ Same g (g.checkQ tx).2 M M := by
  have f_mixed := mixed; have f_by3 := by3; have f_by69 := by69; have f_by79 := by79; have f_en30 := en30; have f_en31 := en31; have f_en34 := en34; have f_en35 := en35; have f_en37 := en37; have f_fo72_2 := fo72_2; have f_fo72_5 := fo72_5; have f_fo72_6 := fo72_6; have f_ty25 := ty25; have f_ty3 := ty3; have f_ty4 := ty4; have f_ty64 := ty64; have f_ty69 := ty69; have f_ty75 := ty75; have f_ty79 := ty79; have f_ty81 := ty81; have f_un_25 : Und Try.prog 25 _ := ⟨Try.underlying25⟩; have f_un_64 : Und Try.prog 64 _ := ⟨Try.underlying64⟩; have f_un_69 : Und Try.prog 69 _ := ⟨Try.underlying69⟩; have f_un_75 : Und Try.prog 75 _ := ⟨Try.underlying75⟩; have f_un_81 : Und Try.prog 81 _ := ⟨Try.underlying81⟩; have f_zero3 := zero3; have f_zero69 := zero69; have f_zero79 := zero79; have f_zv3 := zv3; have f_zv69 := zv69; have f_zv79 := zv79
  have f_kl := KL3
  have hf1 := findG_tri hI (tx := tx)
  refine tri_intro (args := [_, _]) Try.func15 rfl Try.ntmps15 rfl (rs := _) rfl rfl fun E R => ?_
  simp only [fr, blks, hblk, gBlk, List.cons_append, List.nil_append, List.append_assoc]
  cases h1 : findL g.nodes tx with
  | none =>
    have e1 : g.checkQ tx = (41, g) := by unfold Gr.checkQ; rw [h1]
    rw [e1]
    rw [h1] at hf1
    simp only [ptrO] at hf1
    (refine sr_ ?_; (refine ac_ ?_); refine sn_ ?_; refine sr_ ?_; (refine mv_ ?_); (refine mv_ ?_); (apply so_callq; (exact Ev.func); (focus ((apply EvL.cons; (exact ev_)); (apply EvL.cons; (exact ev_)); exact EvL.nil)); (focus (repeat (first | exact App.nil | apply App.cons))); assumption; exact hf1; (exact sel_); exact rfl); (refine asg_ ?_); refine sn_ ?_; (apply sc_seq); refine sr_ ?_; (refine mv_ ?_); (refine se_ (ex_eqp_t ev_ .const asm_) ?_); (refine mv_ ?_); (refine sk_ ?_); (refine sk_ ?_); (refine sk_ ?_); (refine sk_ ?_); (refine sk_ ?_); (refine se_ (ex_pick_t ev_ .const) ?_); refine sn_ ?_; (refine ct_ ?_); refine sr_ ?_; (refine ac_ ?_); refine sn_ ?_; (apply sc_ret); (apply rt_then); (apply ret_ok; (focus ((apply Res.tmp; (exact ev_)); exact Res.nil)); (exact ⟨rfl, rfl, hI, rfl, rfl, rfl, rfl, rfl, rfl, rfl, rfl, rfl⟩); (exact sel_); (exact appb_)))
  | some n =>
    rw [h1] at hf1
    simp only [ptrO] at hf1
    obtain ⟨hn, hnid⟩ := findL_some h1
    have hnc := nb_cell (ρ := M.ρ) hn
    simp only [ncell, Nd.cells] at hnc
    by_cases h0 : n.state = 0
    · cases hdm : n.dm with
      | true =>
        have e1 : g.checkQ tx = (43, g) := by unfold Gr.checkQ; rw [h1]; dsimp only; rw [if_neg (by simpa using h0), if_pos hdm]
        rw [e1]
        rw [hdm] at hnc
        (refine sr_ ?_; (refine ac_ ?_); refine sn_ ?_; refine sr_ ?_; (refine mv_ ?_); (refine mv_ ?_); (apply so_callq; (exact Ev.func); (focus ((apply EvL.cons; (exact ev_)); (apply EvL.cons; (exact ev_)); exact EvL.nil)); (focus (repeat (first | exact App.nil | apply App.cons))); assumption; exact hf1; (exact sel_); exact rfl); (refine asg_ ?_); refine sn_ ?_; (apply sc_seq); refine sr_ ?_; (refine mv_ ?_); (refine se_ (ex_eqp_f ev_ .const asm_) ?_); (refine mv_ ?_); (refine wt_ ?_); (refine mv_ ?_); (refine wt_ ?_); (refine se_ (ex_nilCheck ev_) ?_); (refine wt_ ?_); (refine se_ (ex_fieldAddr ev_ asm_) ?_); (refine wt_ ?_); (refine se_ (ex_load1 ev_ asm_ mem_ nth_) ?_); (refine wt_ ?_); (refine se_ (ex_neq_f ev_ .const om_) ?_); (refine se_ (ex_pick_f ev_ ev_) ?_); refine sn_ ?_; (refine cf_ ?_); (apply sc_skip); (apply nm_then); (apply sc_seq); refine sr_ ?_; (refine mv_ ?_); (refine se_ (ex_nilCheck ev_) ?_); (refine se_ (ex_fieldAddr ev_ asm_) ?_); (refine se_ (ex_load1 ev_ asm_ mem_ nth_) ?_); refine sn_ ?_; (refine ct_ ?_); refine sr_ ?_; (refine ac_ ?_); refine sn_ ?_; (apply sc_ret); (apply rt_then); (apply ret_ok; (focus ((apply Res.tmp; (exact ev_)); exact Res.nil)); (exact ⟨rfl, rfl, hI, rfl, rfl, rfl, rfl, rfl, rfl, rfl, rfl, rfl⟩); (exact sel_); (exact appb_)))
      | false =>
        rw [hdm] at hnc
        have hn2 : n.state ≠ 2 := by rw [h0]; decide
        have hnl : n ∈ g.live := (List.mem_append.1 hn).resolve_right fun h => hn2 (hI.n.en n h)
        rw [show mvN n (M.ρ n.id).mi = .map (some (M.ρ n.id).mi) from by unfold mvN; rw [if_neg hn2]] at hnc
        have hks := keysK_tri hI.n (hI.n.mi n hnl) (fun k hk => (hI.n.ci n hnl k hk).2) (nb_ins (ρ := M.ρ) hn hn2)
        have hlen : (sortI n.ins).length ≤ 4000 := by
          rw [(sortI_perm n.ins).length_eq]
          have := (hI.n.mi n hnl).keys
          rw [klist_keys] at this
          exact klist_len hI.n this fun k hk => (hI.n.ci n hnl k hk).2
        have hFl : ∀ k, (chkF g.nodes n k).length ≤ 4001 := fun k => by
          unfold chkF
          cases hf : findL g.nodes k with
          | none => simp
          | some p => exact Nat.le_trans (List.length_filterMap_le _ _) ((s3_bound hI.n (findL_some hf).1 hn).2 true)
        have hFin : ∀ k, ∀ x ∈ chkF g.nodes n k, ∃ m ∈ g.nodes, m.id = x := fun k x hx => by
          unfold chkF at hx
          cases hf : findL g.nodes k with
          | none => rw [hf] at hx; cases hx
          | some p =>
            rw [hf] at hx
            obtain ⟨s, hs, hv⟩ := List.mem_filterMap.1 hx
            exact victL_in (fromL_in hI.n (findL_some hf).1 hn s hs) hv
        (refine sr_ ?_; (refine ac_ ?_); refine sn_ ?_; refine sr_ ?_; (refine mv_ ?_); (refine mv_ ?_); (apply so_callq; (exact Ev.func); (focus ((apply EvL.cons; (exact ev_)); (apply EvL.cons; (exact ev_)); exact EvL.nil)); (focus (repeat (first | exact App.nil | apply App.cons))); assumption; exact hf1; (exact sel_); exact rfl); (refine asg_ ?_); refine sn_ ?_; (apply sc_seq); refine sr_ ?_; (refine mv_ ?_); (refine se_ (ex_eqp_f ev_ .const asm_) ?_); (refine mv_ ?_); (refine wt_ ?_); (refine mv_ ?_); (refine wt_ ?_); (refine se_ (ex_nilCheck ev_) ?_); (refine wt_ ?_); (refine se_ (ex_fieldAddr ev_ asm_) ?_); (refine wt_ ?_); (refine se_ (ex_load1 ev_ asm_ mem_ nth_) ?_); (refine wt_ ?_); (refine se_ (ex_neq_f ev_ .const om_) ?_); (refine se_ (ex_pick_f ev_ ev_) ?_); refine sn_ ?_; (refine cf_ ?_); (apply sc_skip); (apply nm_then); (apply sc_seq); refine sr_ ?_; (refine mv_ ?_); (refine se_ (ex_nilCheck ev_) ?_); (refine se_ (ex_fieldAddr ev_ asm_) ?_); (refine se_ (ex_load1 ev_ asm_ mem_ nth_) ?_); refine sn_ ?_; (refine cf_ ?_); (apply sc_skip); (apply nm_then); refine sr_ ?_; (refine ac_ ?_); refine sn_ ?_; (apply sc_seq); refine sr_ ?_; (refine mv_ ?_); (refine se_ (ex_nilCheck ev_) ?_); (refine se_ (ex_fieldAddr ev_ asm_) ?_); (refine se_ (ex_load1 ev_ asm_ mem_ nth_) ?_))
        (apply so_call; (exact Ev.func); (focus ((apply EvL.cons; (exact ev_)); exact EvL.nil)); (focus (repeat (first | exact App.nil | apply App.cons))); assumption; (exact hks); (exact sel_); exact rfl)
        rintro v L ⟨B5, hB5, rfl⟩
        simp only [List.append_assoc]
        obtain ⟨po, cap5, hv⟩ := hB5.form
        subst hv
        ((refine se_ (ex_len_slice ev_ asm_) ?_); (refine se_ (ex_move .const) ?_); refine sn_ ?_; (apply sc_block))
        have hM := hI.n.mi n hnl
        have hnm := nb_ins (ρ := M.ρ) hn hn2
        refine sc_loop (fun k f L => ∃ i : Nat, k = (sortI n.ins).length - i ∧ i ≤ (sortI n.ins).length ∧ At f 5 (.pointer (some ⟨(M.ρ n.id).b, 0, none⟩)) ∧ At f 34 (.slice po (sortI n.ins).length cap5) ∧ At f 35 (.int .i64 ((sortI n.ins).length : Int)) ∧ At f 36 (.int .i64 (i : Int)) ∧
          ∃ v B, SlP M.ρ (((sortI n.ins).take i).flatMap (chkF g.nodes n)) v B ∧ At f 6 v ∧ Held L (B5 ++ (B ++ ((M.p, .cells [Value.int .i64 g.most, .int .i64 g.commits, .map (some M.lm), .map (some M.em)].toArray 66) :: (M.lm, .map M.esl M.cl) :: (M.em, .map M.ese M.ce) :: (NC M.ρ g.nodes ++ NM M.ρ g.nodes)))) R)
          _ ⟨0, rfl, Nat.zero_le _, at_, at_, at_, at_, .slice none 0 0, [], by rw [List.take_zero]; exact .inl ⟨rfl, rfl, rfl⟩, at_, by simp only [List.nil_append]; exact held_⟩ ?_
        rintro k f L ⟨i, hk, hi, a5, a34, a35, a36, v, B, hB, a6, ⟨G, hG⟩⟩
        refine sc_perm hG ?_
        simp only [List.append_assoc, List.cons_append]
        by_cases hlt : i < (sortI n.ins).length
        · have hlt' : (i : Int) < ((sortI n.ins).length : Int) := by omega
          have e1 : ((i + 1 : Nat) : Int) = (i : Int) + 1 := by omega
          have hko : (sortI n.ins)[i] ∈ n.ins := (sortI_perm n.ins).mem_iff.1 (List.getElem_mem hlt)
          obtain ⟨nk, hnk, hid⟩ := (hI.n.ci n hnl _ hko).2
          have hnn : nk ∈ g.nodes := List.mem_append_left _ hnk
          have hlook : (lookV (klist M.ρ n.ins) (sortI n.ins)[i]).getD (.pointer none) = .pointer (some ⟨(M.ρ nk.id).b, 0, none⟩) := by
            rw [lookV_klist, if_pos hko, hid]; rfl
          rcases hB5 with ⟨h0, _⟩ | ⟨b5, cap6, junk5, h0, hv5, hj5, rfl⟩
          · rw [h0] at hlt; exact absurd hlt (Nat.not_lt_zero _)
          injection hv5 with hv5 _ _
          subst hv5
          simp only [List.cons_append, List.nil_append]
          have hz := zs_nth (junk := junk5) hlt
          have htk := take_fl (sortI n.ins) (chkF g.nodes n) hlt
          have hAl := flatMap_len hFl ((sortI n.ins).take i)
          rw [List.length_take] at hAl
          generalize hkk : (sortI n.ins)[i] = kk at *
          subst hid
          have hff : findL g.nodes nk.id = some nk := findL_mem hI.n.nd hnn
          have hFk : chkF g.nodes n nk.id = (fromL g.nodes nk n true).filterMap (victL g.nodes) := by unfold chkF; rw [hff]
          rw [hFk] at htk
          have hft := from_tri (asked := true) hI.n hnn hn
          have hfin := fromL_in (asked := true) hI.n hnn hn
          have hfl := (s3_bound hI.n hnn hn).2 true
          generalize hS : fromL g.nodes nk n true = S at *
          generalize hA : ((sortI n.ins).take i).flatMap (chkF g.nodes n) = A at *
          have hAl2 : A.length ≤ 16004000 := Nat.le_trans hAl (Nat.le_trans (Nat.mul_le_mul_right 4001 (show min i (sortI n.ins).length ≤ 4000 by omega)) (Nat.le_of_ble_eq_true rfl))
          (refine sr_ ?_; (refine se_ (ex_lss_t ev_ ev_ om_) ?_); refine sn_ ?_; (apply sc_seq); (refine ct_ ?_); (apply sc_skip); (apply nm_then); (apply sc_seq); (apply sc_block); refine sr_ ?_; (refine se_ (ex_indexAddr ev_ ev_ asm_ asm_ lit_ lt_) ?_); (apply so_ex; (apply ex_load1r; (exact ev_); assumption; (exact mem_); exact hz); exact rfl); (refine asg_ ?_); refine sn_ ?_; refine sr_ ?_; (refine mv_ ?_); (refine se_ (ex_nilCheck ev_) ?_); (refine se_ (ex_fieldAddr ev_ asm_) ?_); (refine se_ (ex_load1 ev_ asm_ mem_ nth_) ?_); (refine mv_ ?_); (apply so_ex; (apply ex_look; (exact ev_); (exact mem_); assumption; (exact ev_); (first | exact keyEq .. | exact rfl); assumption; assumption; assumption; (first | exact lookEq .. | exact lookEq3 .. | exact lookEq4 .. | assumption | exact rfl)); exact rfl); (refine mv_ ?_))
          (apply so_call; (exact Ev.func); (focus ((apply EvL.cons; (exact ev_)); (apply EvL.cons; (exact ev_)); (apply EvL.cons; (exact Ev.const)); exact EvL.nil)); (focus (repeat (first | exact App.nil | apply App.cons))); assumption; (exact hft); (exact sel_); exact rfl)
          rintro v8 L ⟨B8, hB8, rfl⟩
          simp only [List.append_assoc]
          obtain ⟨po8, cap8, hv8⟩ := hB8.form
          subst hv8
          ((refine se_ (ex_len_slice ev_ asm_) ?_); (refine se_ (ex_move .const) ?_); refine sn_ ?_; (apply sc_block))
          refine sc_loop (fun k2 f L => ∃ j : Nat, k2 = S.length - j ∧ j ≤ S.length ∧ At f 5 (.pointer (some ⟨(M.ρ n.id).b, 0, none⟩)) ∧ At f 34 (.slice (some ⟨b5, 0, none⟩) (sortI n.ins).length cap5) ∧ At f 35 (.int .i64 ((sortI n.ins).length : Int)) ∧ At f 36 (.int .i64 (i : Int)) ∧
            At f 47 (.slice po8 S.length cap8) ∧ At f 48 (.int .i64 (S.length : Int)) ∧ At f 49 (.int .i64 (j : Int)) ∧
            ∃ v B, SlP M.ρ (A ++ (S.take j).filterMap (victL g.nodes)) v B ∧ At f 6 v ∧ Held L ((b5, .cells ((sortI n.ins).map (Value.int .i64) ++ junk5).toArray 3) :: (B8 ++ (B ++ ((M.p, .cells [Value.int .i64 g.most, .int .i64 g.commits, .map (some M.lm), .map (some M.em)].toArray 66) :: (M.lm, .map M.esl M.cl) :: (M.em, .map M.ese M.ce) :: (NC M.ρ g.nodes ++ NM M.ρ g.nodes))))) R)
            _ ⟨0, rfl, Nat.zero_le _, at_, at_, at_, at_, at_, at_, at_, v, B, by rw [List.take_zero, List.filterMap_nil, List.append_nil]; exact hB, at_, held_⟩ ?_
          clear hG hB a5 a34 a35 a36 a6
          rintro k2 f L ⟨j, hk2, hj, a5, a34, a35, a36, a47, a48, a49, v, B, hB, a6, ⟨G, hG⟩⟩
          refine sc_perm hG ?_
          simp only [List.append_assoc, List.cons_append]
          by_cases hlt2 : j < S.length
          · have hlt2' : (j : Int) < (S.length : Int) := by omega
            have e2 : ((j + 1 : Nat) : Int) = (j : Int) + 1 := by omega
            have htk2 := take_vs g.nodes S hlt2
            have hsi : s3in g.nodes S[j] := hfin _ (List.getElem_mem hlt2)
            rcases hB8 with ⟨h0, _⟩ | ⟨b8, cap9, junk8, h0, hv8, hj8, rfl⟩
            · rw [h0] at hlt2; exact absurd hlt2 (Nat.not_lt_zero _)
            injection hv8 with hv8 _ _
            subst hv8
            simp only [List.cons_append, List.nil_append]
            have hnth := s3_nth M.ρ junk8 hlt2
            have htl := List.length_filterMap_le (victL g.nodes) (S.take j)
            rw [List.length_take] at htl
            generalize hss : S[j] = s at *
            have hvt := victimN_tri (ρ := M.ρ) hI.n.nd hsi
            cases hvv : victL g.nodes s with
            | none =>
              rw [hvv] at hvt htk2
              simp only [bO, ptrV, Option.toList_none, List.append_nil] at hvt htk2
              (refine sr_ ?_; (refine se_ (ex_lss_t ev_ ev_ om_) ?_); refine sn_ ?_; (apply sc_seq); (refine ct_ ?_); (apply sc_skip); (apply nm_then); (apply sc_seq); (apply sc_block); refine sr_ ?_; (refine se_ (ex_indexAddr ev_ ev_ asm_ asm_ lit_ lt_) ?_); (apply so_ex; (apply ex_loadNr (r := s3cells M.ρ s); (exact ev_); assumption; (exact mem_); exact rfl; exact hnth); exact rfl); (apply so_alloc; assumption; exact rfl; intro _); (apply so_store (r := s3cells M.ρ s); (exact ev_); (exact ev_); assumption; exact rfl; exact rfl; exact s3_mem M.ρ s; (focus (repeat (first | exact Turn.here | apply Turn.there | apply Turn.pre))); (focus (repeat (first | exact SetSub.nil | apply SetSub.take | apply SetSub.drop)))); refine sn_ ?_; refine sr_ ?_; (refine se_ (ex_loadN ev_ asm_ mem_ sub_) ?_); (apply so_callq; (exact Ev.func); (focus ((apply EvL.cons; (exact ev_)); exact EvL.nil)); (focus (repeat (first | exact App.nil | apply App.cons))); assumption; exact hvt; (exact sel_); exact rfl); (refine asg_ ?_); refine sn_ ?_; refine sr_ ?_; (refine mv_ ?_); (refine se_ (ex_nep_f ev_ .const asm_) ?_); refine sn_ ?_; (refine cf_ ?_); (apply sc_skip); (apply nm_block); (apply nm_then); (apply sc_region); (refine se_ (ex_add ev_ .const wr_) ?_); (refine mv_ ?_); (apply so_nil); (apply nm_then))
              exact ⟨S.length - (j + 1), by omega, j + 1, rfl, by omega, at_, at_, at_, at_, at_, at_, by rw [e2]; exact at_, v, B, by rw [htk2]; exact hB, at_, held_⟩
            | some kv =>
              rw [hvv] at hvt htk2
              simp only [bO, ptrV, Option.toList_some] at hvt htk2
              generalize hV : (S.take j).filterMap (victL g.nodes) = V at *
              have hbl : (A ++ V).length ≤ 1000000000 := by rw [List.length_append]; omega
              (refine sr_ ?_; (refine se_ (ex_lss_t ev_ ev_ om_) ?_); refine sn_ ?_; (apply sc_seq); (refine ct_ ?_); (apply sc_skip); (apply nm_then); (apply sc_seq); (apply sc_block); refine sr_ ?_; (refine se_ (ex_indexAddr ev_ ev_ asm_ asm_ lit_ lt_) ?_); (apply so_ex; (apply ex_loadNr (r := s3cells M.ρ s); (exact ev_); assumption; (exact mem_); exact rfl; exact hnth); exact rfl); (apply so_alloc; assumption; exact rfl; intro _); (apply so_store (r := s3cells M.ρ s); (exact ev_); (exact ev_); assumption; exact rfl; exact rfl; exact s3_mem M.ρ s; (focus (repeat (first | exact Turn.here | apply Turn.there | apply Turn.pre))); (focus (repeat (first | exact SetSub.nil | apply SetSub.take | apply SetSub.drop)))); refine sn_ ?_; refine sr_ ?_; (refine se_ (ex_loadN ev_ asm_ mem_ sub_) ?_); (apply so_callq; (exact Ev.func); (focus ((apply EvL.cons; (exact ev_)); exact EvL.nil)); (focus (repeat (first | exact App.nil | apply App.cons))); assumption; exact hvt; (exact sel_); exact rfl); (refine asg_ ?_); refine sn_ ?_; refine sr_ ?_; (refine mv_ ?_); (refine se_ (ex_nep_t ev_ .const asm_) ?_); refine sn_ ?_; (refine ct_ ?_); (apply sc_region); (refine mv_ ?_); (refine mv_ ?_); (apply so_buildS; (focus ((apply EvP.cons; (exact ev_)); exact EvP.nil)); assumption; assumption; assumption; (focus (repeat (first | exact SeqP.nil | (apply SeqP.cons; exact rfl; exact rfl) | exact App.nil | apply App.cons))); exact rfl; exact rfl; exact rfl; intro _))
              (apply so_appP (k := kv); (exact ev_); (exact ev_); exact hB; (exact sel_); (exact mem_); exact hbl; assumption; assumption; assumption; assumption; exact rfl)
              intro v3 B3 hB3
              ((refine asg_ ?_); (apply so_nil); (apply nm_block); (apply nm_then); (apply sc_region); (refine se_ (ex_add ev_ .const wr_) ?_); (refine mv_ ?_); (apply so_nil); (apply nm_then))
              exact ⟨S.length - (j + 1), by omega, j + 1, rfl, by omega, at_, at_, at_, at_, at_, at_, by rw [e2]; exact at_, v3, B3, by rw [htk2, ← List.append_assoc]; exact hB3, at_, held_⟩
          · have hlt2' : ¬ (j : Int) < (S.length : Int) := by omega
            obtain rfl : j = S.length := by omega
            rw [List.take_length, ← htk] at hB
            (refine sr_ ?_; (refine se_ (ex_lss_f ev_ ev_ om_) ?_); refine sn_ ?_; (apply sc_seq); (refine cf_ ?_); (apply sc_exit); (apply et_then); (apply et_then); (apply et_hit); (apply nm_block); (apply nm_then); (apply sc_region); (refine se_ (ex_add ev_ .const wr_) ?_); (refine mv_ ?_); (apply so_nil); (apply nm_then))
            exact ⟨(sortI n.ins).length - (i + 1), by omega, i + 1, rfl, by omega, at_, at_, at_, by rw [e1]; exact at_, v, B, hB, at_, held_⟩
        · have hlt' : ¬ (i : Int) < ((sortI n.ins).length : Int) := by omega
          obtain rfl : i = (sortI n.ins).length := by omega
          rw [List.take_length, ← chkL_eq] at hB
          have hcl : (chkL g.nodes n).length ≤ 1000000000 := by
            have := flatMap_len hFl (sortI n.ins)
            rw [← chkL_eq] at this
            exact Nat.le_trans this (Nat.le_trans (Nat.mul_le_mul_right 4001 hlen) (Nat.le_of_ble_eq_true rfl))
          have hcin : ∀ k ∈ chkL g.nodes n, ∃ m ∈ g.nodes, m.id = k := fun k hk => by
            rw [chkL_eq] at hk
            obtain ⟨x, _, hx⟩ := List.mem_flatMap.1 hk
            exact hFin x k hx
          have hct := contains_tri (ρ := M.ρ) hB hn hcin hcl
          obtain ⟨pol, capl, hv⟩ := hB.form
          subst hv
          by_cases hmem : tx ∈ chkL g.nodes n
          · have e1 : g.checkQ tx = (43, g.doomV [tx]) := by unfold Gr.checkQ; rw [h1]; dsimp only; rw [if_neg (by simpa using h0), if_neg (by rw [hdm]; decide), if_pos hmem]
            rw [e1]
            rw [decide_eq_true (show n.id ∈ chkL g.nodes n by rw [hnid]; exact hmem)] at hct
            have hT0 := turn_cell (ρ := M.ρ) (f := setDm) hn hI.n.nd rfl
            rw [show ncell (M.ρ n.id) (setDm n) = Nd.cells (setDm n) (.map (some (M.ρ n.id).mi)) (mvN n (M.ρ n.id).mo) (M.ρ n.id).sv from by unfold ncell mvN setDm; simp only [if_neg hn2]] at hT0
            rw [show ncell (M.ρ n.id) n = Nd.cells n (.map (some (M.ρ n.id).mi)) (mvN n (M.ρ n.id).mo) (M.ρ n.id).sv from by unfold ncell mvN; simp only [if_neg hn2]] at hT0
            simp only [Nd.cells, setDm, hdm] at hT0
            (refine sr_ ?_; (refine se_ (ex_lss_f ev_ ev_ om_) ?_); refine sn_ ?_; (apply sc_seq); (refine cf_ ?_); (apply sc_exit); (apply et_then); (apply et_then); (apply et_hit); (apply nm_then); (apply sc_seq); refine sr_ ?_; (refine mv_ ?_); (refine mv_ ?_); (apply so_callq; (exact Ev.func); (focus ((apply EvL.cons; (exact ev_)); (apply EvL.cons; (exact ev_)); exact EvL.nil)); (focus (repeat (first | exact App.nil | apply App.cons))); assumption; exact hct; (exact sel_); exact rfl); refine sn_ ?_; (refine ct_ ?_); refine sr_ ?_; (refine mv_ ?_); (refine se_ (ex_nilCheck ev_) ?_); (refine se_ (ex_fieldAddr ev_ asm_) ?_); (apply so_store; (exact ev_); (exact Ev.const); assumption; exact rfl; exact rfl; exact rfl; (repeat (first | exact Turn.left hT0 _ | apply Turn.there | apply Turn.pre)); (focus (repeat (first | exact SetSub.nil | apply SetSub.take | apply SetSub.drop)))); refine sn_ ?_; refine sr_ ?_; (refine ac_ ?_); refine sn_ ?_; (apply sc_ret); (apply rt_then))
            have hfin2 : NC M.ρ (updL g.nodes (at1 n.id) setDm) = NC M.ρ (g.doomV [tx]).nodes := by
              rw [← upd_nodes, ← hnid, ← List.nil_append [n.id], ← doomV_snoc, doomV_nil]
            rw [hfin2, ← doomV_NM g M.ρ [tx]]
            ((apply ret_ok; (focus ((apply Res.tmp; (exact ev_)); exact Res.nil)); (exact ⟨rfl, rfl, hI.keep fun n => ⟨_, _, _, _, rfl, Iff.rfl⟩, rfl, rfl, rfl, rfl, rfl, rfl, rfl, rfl, rfl⟩); (exact sel_); (exact appb_)))
          · rw [decide_eq_false (show ¬ n.id ∈ chkL g.nodes n by rw [hnid]; exact hmem)] at hct
            have e1 : g.checkQ tx = (0, (g.doomV (chkL g.nodes n)).upd (at1 tx) setAsk) := by unfold Gr.checkQ; rw [h1]; dsimp only; rw [if_neg (by simpa using h0), if_neg (by rw [hdm]; decide), if_neg hmem]
            rw [e1]
            generalize hvs : chkL g.nodes n = vs at *
            (refine sr_ ?_; (refine se_ (ex_lss_f ev_ ev_ om_) ?_); refine sn_ ?_; (apply sc_seq); (refine cf_ ?_); (apply sc_exit); (apply et_then); (apply et_then); (apply et_hit); (apply nm_then); (apply sc_seq); refine sr_ ?_; (refine mv_ ?_); (refine mv_ ?_); (apply so_callq; (exact Ev.func); (focus ((apply EvL.cons; (exact ev_)); (apply EvL.cons; (exact ev_)); exact EvL.nil)); (focus (repeat (first | exact App.nil | apply App.cons))); assumption; exact hct; (exact sel_); exact rfl); refine sn_ ?_; (refine cf_ ?_); (apply sc_skip); (apply nm_then); (apply sc_seq); refine sr_ ?_; (refine mv_ ?_); (refine se_ (ex_len_slice ev_ asm_) ?_); (refine se_ (ex_move .const) ?_); refine sn_ ?_; (apply sc_block))
            refine sc_loop (fun k f L => ∃ i : Nat, k = vs.length - i ∧ i ≤ vs.length ∧ At f 5 (.pointer (some ⟨(M.ρ n.id).b, 0, none⟩)) ∧ At f 69 (.slice pol vs.length capl) ∧ At f 70 (.int .i64 (vs.length : Int)) ∧ At f 71 (.int .i64 (i : Int)) ∧
              Held L (B ++ ((M.p, .cells [Value.int .i64 g.most, .int .i64 g.commits, .map (some M.lm), .map (some M.em)].toArray 66) :: (M.lm, .map M.esl M.cl) :: (M.em, .map M.ese M.ce) :: (NC M.ρ (g.doomV (vs.take i)).nodes ++ NM M.ρ g.nodes))) R)
              _ ⟨0, rfl, Nat.zero_le _, at_, at_, at_, at_, by rw [List.take_zero, doomV_nil]; exact held_⟩ ?_
            clear hG hk a5 a34 a35 a36 a6
            rintro k f L ⟨i, hk, hi, a5, a69, a70, a71, ⟨G, hG⟩⟩
            refine sc_perm hG ?_
            simp only [List.append_assoc, List.cons_append]
            by_cases hlt2 : i < vs.length
            · have hlt2' : (i : Int) < (vs.length : Int) := by omega
              have e2 : ((i + 1 : Nat) : Int) = (i : Int) + 1 := by omega
              rcases hB with ⟨h0, _⟩ | ⟨b8, cap9, junk8, h0, hv8, hj8, rfl⟩
              · rw [h0] at hlt2; exact absurd hlt2 (Nat.not_lt_zero _)
              injection hv8 with hv8 _ _
              subst hv8
              simp only [List.cons_append, List.nil_append]
              have hnth := p_nth M.ρ junk8 hlt2
              have htk2 : vs.take (i + 1) = vs.take i ++ [vs[i]] := List.take_succ_eq_append_getElem hlt2
              have hinv := doomV_inv hI.n (vs.take i)
              obtain ⟨m, hm, hmi⟩ : ∃ m ∈ (g.doomV (vs.take i)).nodes, m.id = vs[i] := by
                obtain ⟨m0, h3, h4⟩ := hcin _ (List.getElem_mem hlt2)
                have : vs[i] ∈ (g.doomV (vs.take i)).nodes.map (·.id) := by
                  unfold Gr.doomV; rw [upd_nodes, updL_ids setDm_id]; exact List.mem_map.2 ⟨m0, h3, h4⟩
                obtain ⟨m, h5, h6⟩ := List.mem_map.1 this
                exact ⟨m, h5, h6⟩
              have hT0 := turn_cell (ρ := M.ρ) (f := setDm) hm hinv.nd rfl
              have hT1 : NC M.ρ (updL (g.doomV (vs.take i)).nodes (at1 m.id) setDm) = NC M.ρ (g.doomV (vs.take (i + 1))).nodes := by
                rw [← upd_nodes, doomV_snoc, htk2, hmi]
              rw [hT1] at hT0
              rw [← hmi] at hnth
              simp only [ncell, Nd.cells, setDm] at hT0
              (refine sr_ ?_; (refine se_ (ex_lss_t ev_ ev_ om_) ?_); refine sn_ ?_; (apply sc_seq); (refine ct_ ?_); (apply sc_skip); (apply nm_then); (apply sc_seq); (apply sc_block); refine sr_ ?_; (refine se_ (ex_indexAddr ev_ ev_ asm_ asm_ lit_ lt_) ?_); (apply so_ex; (apply ex_load1r; (exact ev_); assumption; (exact mem_); exact hnth); exact rfl); (refine asg_ ?_); refine sn_ ?_; (apply sc_region); (refine mv_ ?_); (refine se_ (ex_nilCheck ev_) ?_); (refine se_ (ex_fieldAddr ev_ asm_) ?_); (apply so_store; (exact ev_); (exact Ev.const); assumption; exact rfl; exact rfl; exact rfl; (repeat (first | exact Turn.left hT0 _ | apply Turn.there | apply Turn.pre)); (focus (repeat (first | exact SetSub.nil | apply SetSub.take | apply SetSub.drop)))); (apply so_nil); (apply nm_block); (apply nm_then); (apply sc_region); (refine se_ (ex_add ev_ .const wr_) ?_); (refine mv_ ?_); (apply so_nil); (apply nm_then))
              exact ⟨vs.length - (i + 1), by omega, i + 1, rfl, by omega, at_, at_, at_, by rw [e2]; exact at_, held_⟩
            · have hlt2' : ¬ (i : Int) < (vs.length : Int) := by omega
              obtain rfl : i = vs.length := by omega
              rw [List.take_length]
              have hinv := doomV_inv hI.n vs
              obtain ⟨m, hm, hmi⟩ : ∃ m ∈ (g.doomV vs).nodes, m.id = n.id := by
                have : n.id ∈ (g.doomV vs).nodes.map (·.id) := by
                  unfold Gr.doomV; rw [upd_nodes, updL_ids setDm_id]; exact List.mem_map.2 ⟨n, hn, rfl⟩
                obtain ⟨m, h5, h6⟩ := List.mem_map.1 this
                exact ⟨m, h5, h6⟩
              have hms : m.state = 0 := by
                have h3 := stt_mem hinv.nd hm
                rw [doomV_stt, hmi, stt_mem hI.n.nd hn, h0] at h3
                exact h3.symm
              have hT0 := turn_cell (ρ := M.ρ) (f := setAsk) hm hinv.nd (setAsk_id m)
              rw [hmi.trans hnid] at hT0
              have e4 : ncell (M.ρ tx) (setAsk m) = Nd.cells { m with state := 1 } (.map (some (M.ρ tx).mi)) (.map (some (M.ρ tx).mo)) (M.ρ tx).sv := by
                have e5 : setAsk m = { m with state := 1 } := by unfold setAsk; rw [if_neg (by rw [hms]; decide)]
                rw [e5]; rfl
              have e6 : ncell (M.ρ tx) m = Nd.cells m (.map (some (M.ρ tx).mi)) (.map (some (M.ρ tx).mo)) (M.ρ tx).sv := by unfold ncell mvN; simp only [hms]; rfl
              rw [e4, e6] at hT0
              rw [hnid] at a5
              simp only [Nd.cells] at hT0
              have hNM : NM M.ρ ((g.doomV vs).upd (at1 tx) setAsk).nodes = NM M.ρ g.nodes := by
                rw [upd_nodes, NM_upd setAsk_id setAsk_two, doomV_NM]
              rw [upd_nodes] at hNM
              simp only [upd_nodes]
              rw [hNM]
              have hInv : Inv K ((g.doomV vs).upd (at1 tx) setAsk) M := (hI.keep (f := setDm) (p := fun x => vs.contains x) fun n => ⟨_, _, _, _, rfl, Iff.rfl⟩).keep setAsk_keep
              (refine sr_ ?_; (refine se_ (ex_lss_f ev_ ev_ om_) ?_); refine sn_ ?_; (apply sc_seq); (refine cf_ ?_); (apply sc_exit); (apply et_then); (apply et_then); (apply et_hit); (apply nm_then); refine sr_ ?_; (refine mv_ ?_); (refine se_ (ex_nilCheck ev_) ?_); (refine se_ (ex_fieldAddr ev_ asm_) ?_); (apply so_store; (exact ev_); (exact Ev.const); assumption; exact rfl; exact rfl; exact rfl; (repeat (first | exact Turn.left hT0 _ | apply Turn.there | apply Turn.pre)); (focus (repeat (first | exact SetSub.nil | apply SetSub.take | apply SetSub.drop)))); refine sn_ ?_; refine sr_ ?_; (refine ac_ ?_); refine sn_ ?_; (apply sc_ret); (apply ret_ok; (focus ((apply Res.tmp; (exact ev_)); exact Res.nil)); (exact ⟨rfl, rfl, hInv, rfl, rfl, rfl, rfl, rfl, rfl, rfl, rfl, rfl⟩); (exact sel_); (exact appb_)))
    · have e1 : g.checkQ tx = (41, g) := by unfold Gr.checkQ; rw [h1]; dsimp only; rw [if_pos h0]
      rw [e1]
      (refine sr_ ?_; (refine ac_ ?_); refine sn_ ?_; refine sr_ ?_; (refine mv_ ?_); (refine mv_ ?_); (apply so_callq; (exact Ev.func); (focus ((apply EvL.cons; (exact ev_)); (apply EvL.cons; (exact ev_)); exact EvL.nil)); (focus (repeat (first | exact App.nil | apply App.cons))); assumption; exact hf1; (exact sel_); exact rfl); (refine asg_ ?_); refine sn_ ?_; (apply sc_seq); refine sr_ ?_; (refine mv_ ?_); (refine se_ (ex_eqp_f ev_ .const asm_) ?_); (refine mv_ ?_); (refine wt_ ?_); (refine mv_ ?_); (refine wt_ ?_); (refine se_ (ex_nilCheck ev_) ?_); (refine wt_ ?_); (refine se_ (ex_fieldAddr ev_ asm_) ?_); (refine wt_ ?_); (refine se_ (ex_load1 ev_ asm_ mem_ nth_) ?_); (refine wt_ ?_); (refine se_ (ex_neq_t ev_ .const om_) ?_); (refine se_ (ex_pick_f ev_ ev_) ?_); refine sn_ ?_; (refine ct_ ?_); refine sr_ ?_; (refine ac_ ?_); refine sn_ ?_; (apply sc_ret); (apply rt_then); (apply ret_ok; (focus ((apply Res.tmp; (exact ev_)); exact Res.nil)); (exact ⟨rfl, rfl, hI, rfl, rfl, rfl, rfl, rfl, rfl, rfl, rfl, rfl⟩); (exact sel_); (exact appb_)))
end Go.Proofs.Ytomgkmoecbnddaa
