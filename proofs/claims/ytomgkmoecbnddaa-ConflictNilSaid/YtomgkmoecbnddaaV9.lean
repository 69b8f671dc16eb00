/- Conflict: the reference: Commit, without. -/
import Derived.Test.YtomgkmoecbnddaaV8
set_option linter.unusedVariables false
set_option linter.unusedSimpArgs false
set_option linter.unnecessarySimpa false
namespace Go.Proofs.Ytomgkmoecbnddaa
open Go.Sym
theorem commR_tri {K : Nat} {g : RG} {p : Nat} {Lb : List Blk} (hR : RRep K g p Lb) (hok : (g.L.map (·.id)).Nodup) (hK : K + 1 ≤ 500) (tx : Int) :
    Tri Try.prog 42 #[.pointer (some ⟨p, 0, none⟩), .int .i64 tx] Lb fun v L' => v = .tuple #[] ∧ RRep (K + 1) (g.commit tx) p L' := by
  have f_mixed := mixed; have f_by85 := by85; have f_en44 := en44; have f_fo59_0 := fo59_0; have f_fo59_2 := fo59_2; have f_fo85_2 := fo85_2; have f_fo85_3 := fo85_3; have f_ty3 := ty3; have f_ty56 := ty56; have f_ty85 := ty85; have f_un_56 : Und Try.prog 56 _ := ⟨Try.underlying56⟩; have f_zero85 := zero85; have f_zv85 := zv85
  obtain ⟨ol, cl, oe, ce, sv, BL, BE, BB, rfl, h⟩ := hR
  have hk := h.k
  have hn := h.n
  have hat := at_tri (p := p) (cl := cl) (ve := .slice oe g.E.length ce) (n := g.n) (row_tx h.l (BE ++ BB)) (by have := h.sl; omega) tx
  refine tri_intro (args := [_, _]) Try.func42 rfl Try.ntmps42 rfl (rs := []) rfl rfl fun E R => ?_
  simp only [fr, hdr, List.cons_append, List.append_assoc] at hat ⊢
  unfold RG.commit
  cases hf : findR g.L tx with
  | none =>
    rw [atV_none hf] at hat
    (refine sr_ ?_; (refine mv_ ?_); (refine mv_ ?_); (apply so_callq; (exact Ev.func); (focus ((apply EvL.cons; (exact ev_)); (apply EvL.cons; (exact ev_)); exact EvL.nil)); (focus (repeat (first | exact App.nil | apply App.cons))); assumption; exact hat; (exact sel_); exact rfl); (refine asg_ ?_); refine sn_ ?_; refine sr_ ?_; (refine mv_ ?_); (refine se_ (ex_geq_f ev_ .const om_) ?_); (refine mv_ ?_); (refine sk_ ?_); (refine sk_ ?_); (refine sk_ ?_); (refine sk_ ?_); (refine sk_ ?_); (refine sk_ ?_); (refine sk_ ?_); (refine sk_ ?_); (refine sk_ ?_); (refine se_ (ex_pick_f ev_ .const) ?_); refine sn_ ?_; (refine cf_ ?_); (apply sc_skip); (apply ret_ok'; (focus (exact Res.nil)); (exact ⟨rfl, ol, cl, oe, ce, sv, BL, BE, BB, rfl, h.same (Nat.le_succ K) hK⟩); (exact sel_); (exact appb_)))
  | some x =>
    obtain ⟨i, hi, hx, hv⟩ := atV_some hf
    rw [hv] at hat
    obtain ⟨b, junk, ho, rfl, hl, hj⟩ := row_open h.l (by omega)
    subst ho
    obtain ⟨_, _, h2, _, _, _⟩ := t_cells (sv := sv) junk hi hx
    simp only [List.cons_append, List.nil_append] at hat ⊢
    have hid := (findR_some hf).2
    by_cases hs : x.st = 3
    · rw [if_pos hs]
      (refine sr_ ?_; (refine mv_ ?_); (refine mv_ ?_); (apply so_callq; (exact Ev.func); (focus ((apply EvL.cons; (exact ev_)); (apply EvL.cons; (exact ev_)); exact EvL.nil)); (focus (repeat (first | exact App.nil | apply App.cons))); assumption; exact hat; (exact sel_); exact rfl); (refine asg_ ?_); refine sn_ ?_; refine sr_ ?_; (refine mv_ ?_); (refine se_ (ex_geq_t ev_ .const om_) ?_); (refine mv_ ?_); (refine wt_ ?_); (refine mv_ ?_); (refine wt_ ?_); (refine se_ (ex_nilCheck ev_) ?_); (refine wt_ ?_); (refine se_ (ex_fieldAddr ev_ asm_) ?_); (refine wt_ ?_); (refine se_ (ex_load1 ev_ asm_ mem_ nth_) ?_); (refine wt_ ?_); (refine mv_ ?_); (refine wt_ ?_); (refine se_ (ex_indexAddr ev_ ev_ asm_ asm_ lit_ lt_) ?_); (refine wt_ ?_); (refine se_ (ex_fieldAddr ev_ asm_) ?_); (refine wt_ ?_); (apply so_ex; (apply ex_load1r; (exact ev_); assumption; (exact mem_); exact h2); exact rfl); (refine wt_ ?_); (refine se_ (ex_neq_f ev_ .const om_) ?_); (refine se_ (ex_pick_t ev_ ev_) ?_); refine sn_ ?_; (refine cf_ ?_); (apply sc_skip); (apply ret_ok'; (focus (exact Res.nil)); (exact ⟨rfl, _, cl, oe, ce, sv, _, BE, BB, rfl, h.same (Nat.le_succ K) hK⟩); (exact sel_); (exact appb_)))
    · rw [if_neg hs]
      have f_n : IntKind.i64.wrap (g.n + 1) = g.n + 1 := wrap_in (by unfold InI; omega)
      obtain ⟨hst1, hln1⟩ := t_store (sv := sv) junk hi { g.L[i] with st := 3 } 2 [Value.int .i64 3] (by decide) (by rw [hx]; rfl)
      obtain ⟨hst2, hln2⟩ := t_store (sv := sv) (l := g.L.set i { g.L[i] with st := 3 }) junk (i := i) (by simpa using hi) (setDone tx (g.n + 1) g.L[i]) 3 [Value.int .i64 (g.n + 1)] (by simp) (by rw [List.getElem_set_self, hx]; unfold setDone; rw [if_pos hid]; rfl)
      have e2 : (g.L.set i { g.L[i] with st := 3 }).set i (setDone tx (g.n + 1) g.L[i]) = g.L.map (setDone tx (g.n + 1)) := by
        rw [List.set_set]
        exact set_map hok hi (F := setDone tx (g.n + 1)) (fun y hy => by unfold setDone; rw [if_neg (fun e => hy (e.trans (by rw [hx, hid])))])
      rw [e2] at hst2
      have hm := h.map rfl hl hj (setDone tx (g.n + 1)) (fun x => by unfold setDone; split <;> exact ⟨rfl, rfl⟩) (Nat.le_succ K) hK (n' := g.n + 1) (by omega)
      have hlm : (g.L.map (setDone tx (g.n + 1))).length = g.L.length := List.length_map ..
      (refine sr_ ?_; (refine mv_ ?_); (refine mv_ ?_); (apply so_callq; (exact Ev.func); (focus ((apply EvL.cons; (exact ev_)); (apply EvL.cons; (exact ev_)); exact EvL.nil)); (focus (repeat (first | exact App.nil | apply App.cons))); assumption; exact hat; (exact sel_); exact rfl); (refine asg_ ?_); refine sn_ ?_; refine sr_ ?_; (refine mv_ ?_); (refine se_ (ex_geq_t ev_ .const om_) ?_); (refine mv_ ?_); (refine wt_ ?_); (refine mv_ ?_); (refine wt_ ?_); (refine se_ (ex_nilCheck ev_) ?_); (refine wt_ ?_); (refine se_ (ex_fieldAddr ev_ asm_) ?_); (refine wt_ ?_); (refine se_ (ex_load1 ev_ asm_ mem_ nth_) ?_); (refine wt_ ?_); (refine mv_ ?_); (refine wt_ ?_); (refine se_ (ex_indexAddr ev_ ev_ asm_ asm_ lit_ lt_) ?_); (refine wt_ ?_); (refine se_ (ex_fieldAddr ev_ asm_) ?_); (refine wt_ ?_); (apply so_ex; (apply ex_load1r; (exact ev_); assumption; (exact mem_); exact h2); exact rfl); (refine wt_ ?_); (refine se_ (ex_neq_t ev_ .const om_) ?_); (refine se_ (ex_pick_t ev_ ev_) ?_); refine sn_ ?_; (refine ct_ ?_); refine sr_ ?_; (refine mv_ ?_); (refine se_ (ex_nilCheck ev_) ?_); (refine se_ (ex_fieldAddr ev_ asm_) ?_); (refine se_ (ex_load1 ev_ asm_ mem_ nth_) ?_); (refine se_ (ex_add ev_ .const wr_) ?_); (refine se_ (ex_nilCheck ev_) ?_); (refine se_ (ex_fieldAddr ev_ asm_) ?_); (apply so_store; (exact ev_); (exact ev_); assumption; exact rfl; exact rfl; exact rfl; (focus (repeat (first | exact Turn.here | apply Turn.there | apply Turn.pre))); (focus (repeat (first | exact SetSub.nil | apply SetSub.take | apply SetSub.drop)))); refine sn_ ?_; refine sr_ ?_; (refine mv_ ?_); (refine se_ (ex_nilCheck ev_) ?_); (refine se_ (ex_fieldAddr ev_ asm_) ?_); (refine se_ (ex_load1 ev_ asm_ mem_ nth_) ?_); (refine mv_ ?_); (refine se_ (ex_indexAddr ev_ ev_ asm_ asm_ lit_ lt_) ?_); (refine se_ (ex_fieldAddr ev_ asm_) ?_); (apply so_storer (r := [Value.int .i64 3]); (exact ev_); (exact Ev.const); assumption; exact rfl; exact rfl; exact rfl; (focus (repeat (first | exact Turn.here | apply Turn.there | apply Turn.pre))); exact hst1; exact hln1); refine sn_ ?_; (apply sc_tail (id := 4) 11; assumption; kernel_rfl; rfl; rfl); (refine qe_ (ex_move ev_) ?_); (refine qe_ (ex_nilCheck ev_) ?_); (refine qe_ (ex_fieldAddr ev_ asm_) ?_); (refine qe_ (ex_load1 ev_ asm_ mem_ nth_) ?_); (refine qe_ (ex_move ev_) ?_); (refine qe_ (ex_move ev_) ?_); (refine qe_ (ex_nilCheck ev_) ?_); (refine qe_ (ex_fieldAddr ev_ asm_) ?_); (refine qe_ (ex_load1 ev_ asm_ mem_ nth_) ?_); (refine qe_ (ex_indexAddr ev_ ev_ asm_ asm_ lit_ lt_) ?_); (refine qe_ (ex_fieldAddr ev_ asm_) ?_); (apply sq_tail); (apply so_storer (r := [Value.int .i64 (g.n + 1)]); (exact ev_); (exact ev_); assumption; exact rfl; exact rfl; exact rfl; (focus (repeat (first | exact Turn.here | apply Turn.there | apply Turn.pre))); exact hst2; exact hln2); (apply so_nil))
      rw [← hlm]
      (apply ret_ok'; (focus (exact Res.nil)); (exact ⟨rfl, _, cl, oe, ce, sv, _, BE, BB, rfl, hm⟩); (exact sel_); (exact appb_))
theorem ecells_snoc (l : List (Int × Int)) (e : Int × Int) : ecells (l ++ [e]) = ecells l ++ [Value.int .i64 e.1, .int .i64 e.2] := by simp [ecells, ecell]
/-- an edge is appended -/
theorem so_appE {E : Env} {n : Nat} {Q : SPost} {f : Nat → Value} {L R : List Blk} {ops rest : List Oper} {x y : Operand} {ty : TypeId} {pos : String} {after : Array Edge} {d b2 cap : Nat} {o : Option Addr} {l : List (Int × Int)} {e1 e2 : Int} {B : List Blk}
    (hx : Ev f x (.slice o l.length cap)) (hy : Ev f y (.slice (some ⟨b2, 0, none⟩) 1 1)) (h1 : Row 92 2 (.slice o l.length cap) (ecells l) B) (hs : Sel L B R) (hm2 : (b2, .cells [Value.int .i64 e1, .int .i64 e2].toArray 92) ∈ L) (hb1 : l.length ≤ 1000000000)
    (ht : Und Try.prog 57 (.slice 92)) (hT : tyOf Try.prog 92 = some (true, 2)) (hz : zeroOf Try.prog 92 = some [.int .i64 0, .int .i64 0]) (hby : bytesT Try.prog 92 = some 16) (hd : Nat.blt d n = true)
    (h : ∀ o' cap' B', Row 92 2 (.slice o' (l ++ [(e1, e2)]).length cap') (ecells (l ++ [(e1, e2)])) B' → SO Try.prog E n ops Q rest (upd f d (.slice o' (l ++ [(e1, e2)]).length cap')) (B' ++ R)) : SO Try.prog E n ops Q (⟨some d, .call ⟨.builtin .append, #[x, y], #[57, 57]⟩, ty, pos, after, none⟩ :: rest) f L := by
  refine so_appR (ys := [Value.int .i64 e1, .int .i64 e2]) hx hy h1 hs hm2 rfl (fun j hj => by rw [Nat.zero_add]) ht hT hz rfl hby (by omega) (by omega) rfl rfl hd fun p' cap' H' hr' => ?_
  rw [← ecells_snoc l (e1, e2)] at hr'
  have := h p' cap' H' (by rw [List.length_append]; exact hr')
  rw [List.length_append] at this
  exact this
def keepE (tx : Int) (e : Int × Int) : Bool := !decide (e.1 = tx) && !decide (e.2 = tx)
theorem withoutE_eq (E : List (Int × Int)) (tx : Int) : withoutE E tx = E.filter (keepE tx) := rfl
theorem without_tri {E : List (Int × Int)} {p ce : Nat} {oe : Option Addr} {vl : Value} {n : Int} {BE : List Blk} (hE : Row 92 2 (.slice oe E.length ce) (ecells E) BE) (hS : E.length ≤ 1000) (tx : Int) :
    Tri Try.prog 53 #[.pointer (some ⟨p, 0, none⟩), .int .i64 tx] (hdr p vl (.slice oe E.length ce) n :: BE) fun v L' => v = .tuple #[] ∧ ∃ o c B, Row 92 2 (.slice o (withoutE E tx).length c) (ecells (withoutE E tx)) B ∧ L' = hdr p vl (.slice o (withoutE E tx).length c) n :: B := by
  have f_mixed := mixed; have f_by92 := by92; have f_fo59_1 := fo59_1; have f_fo92_0 := fo92_0; have f_fo92_1 := fo92_1; have f_ty3 := ty3; have f_ty57 := ty57; have f_ty92 := ty92; have f_un_57 : Und Try.prog 57 _ := ⟨Try.underlying57⟩; have f_zero92 := zero92; have f_zv92 := zv92
  refine tri_intro (args := [_, _]) Try.func53 rfl Try.ntmps53 rfl (rs := []) rfl rfl fun E' R => ?_
  simp only [fr, hdr, List.cons_append]
  (refine sr_ ?_; (apply so_buildS; (focus (exact EvP.nil)); assumption; assumption; assumption; (focus (repeat (first | exact SeqP.nil | (apply SeqP.cons; exact rfl; exact rfl) | exact App.nil | apply App.cons))); exact rfl; exact rfl; exact rfl; intro _); (refine asg_ ?_); refine sn_ ?_; (apply sc_seq); refine sr_ ?_; (refine ac_ ?_); refine sn_ ?_; (apply sc_block))
  rename_i b0
  refine sc_loop (fun q f L' => ∃ (i : Nat) (W : List (Int × Int)) (o : Option Addr) (cap : Nat) (B : List Blk), i ≤ E.length ∧ q = E.length - i ∧ W = (E.take i).filter (keepE tx) ∧ Row 92 2 (.slice o W.length cap) (ecells W) B ∧
      At f 0 (.pointer (some ⟨p, 0, none⟩)) ∧ At f 1 (.int .i64 tx) ∧ At f 4 (.slice o W.length cap) ∧ At f 5 (.int .i64 (i : Int)) ∧ Held L' ((p, Obj.cells [vl, .slice oe E.length ce, .int .i64 n].toArray 59) :: (B ++ BE)) R) _
    ⟨0, [], some ⟨b0, 0, none⟩, 0, [(b0, Obj.cells ([] ++ []).toArray 92)], by omega, rfl, rfl, .row rfl rfl, at_, at_, at_, at_, held_⟩ ?_
  rintro q f L' ⟨i, W, o, cap, B, hi, hq, hW, hB, a0, a1, a4, a5, ⟨G, hG⟩⟩
  refine sc_perm hG ?_
  simp only [List.cons_append, List.append_assoc]
  have hWl : W.length ≤ 1000000000 := by
    rw [hW]; have := List.length_filter_le (keepE tx) (E.take i); have := List.length_take_le i E; omega
  ((apply sc_seq); (apply sc_seq); ((fail_if_success (apply sc_region (id := 4))); apply sc_region); (refine mv_ ?_); (refine mv_ ?_); (refine se_ (ex_nilCheck ev_) ?_); (refine se_ (ex_fieldAddr ev_ asm_) ?_); (refine se_ (ex_load1 ev_ asm_ mem_ nth_) ?_); (refine se_ (ex_len_slice ev_ asm_) ?_); (apply so_split; (apply ex_lss; (exact ev_); (exact ev_)); exact rfl; refine ⟨fun _ => ?_, fun _ => ?_⟩); refine sn_ ?_; (refine ct_ ?_); (apply sc_skip); (apply nm_then); (apply sc_seq); (apply sc_block); (apply sc_seq))
  · rename_i hlt
    have hil : i < E.length := by omega
    have htk : E.take (i + 1) = E.take i ++ [E[i]] := List.take_succ_eq_append_getElem hil
    obtain ⟨bE, junkE, ho, rfl, _, _⟩ := row_open hE (by omega)
    have hld := e_get junkE hil
    generalize E[i] = x at htk hld
    obtain ⟨x1, x2⟩ := x
    have k0 : (ecells E ++ junkE)[0 + i * 2 + 0]? = some (.int .i64 x1) := hld 0 (by omega)
    have k1 : (ecells E ++ junkE)[0 + i * 2 + 1]? = some (.int .i64 x2) := hld 1 (by omega)
    have kk : ∀ q, q < [Value.int .i64 x1, .int .i64 x2].length → (ecells E ++ junkE)[0 + i * 2 + q]? = [Value.int .i64 x1, .int .i64 x2][q]? := hld
    subst ho
    simp only [List.cons_append, List.nil_append]
    have hfl : (E.take (i + 1)).filter (keepE tx) = W ++ [(x1, x2)].filter (keepE tx) := by rw [htk, List.filter_append, ← hW]
    by_cases h1 : x1 = tx
    · have : [(x1, x2)].filter (keepE tx) = [] := by simp [keepE, h1]
      rw [this, List.append_nil] at hfl
      ((apply sc_region); (refine mv_ ?_); (refine se_ (ex_nilCheck ev_) ?_); (refine se_ (ex_fieldAddr ev_ asm_) ?_); (refine se_ (ex_load1 ev_ asm_ mem_ nth_) ?_); (refine mv_ ?_); (refine se_ (ex_indexAddr ev_ ev_ asm_ asm_ lit_ lt_) ?_); (refine se_ (ex_fieldAddr ev_ asm_) ?_); (apply so_ex; (apply ex_load1r; (exact ev_); assumption; (exact mem_); (first | exact k0 | exact k1)); exact rfl); (refine mv_ ?_); (refine se_ (ex_neq_f ev_ ev_ om_) ?_); (refine mv_ ?_); (refine sk_ ?_); (refine sk_ ?_); (refine sk_ ?_); (refine sk_ ?_); (refine sk_ ?_); (refine sk_ ?_); (refine sk_ ?_); (refine sk_ ?_); (refine sk_ ?_); (refine sk_ ?_); (refine se_ (ex_pick_f ev_ .const) ?_); refine sn_ ?_; (refine cf_ ?_); (apply sc_skip); (apply nm_block); (apply nm_then); (apply sc_region); (refine mv_ ?_); (refine se_ (ex_add ev_ .const wr_) ?_); (refine asg_ ?_); (apply so_nil); (apply nm_then))
      exact ⟨_, by rw [hq]; omega, i + 1, W, o, cap, B, by omega, rfl, hfl.symm, hB, at_, at_, at_, at_, held_⟩
    · by_cases h2 : x2 = tx
      · have : [(x1, x2)].filter (keepE tx) = [] := by simp [keepE, h2]
        rw [this, List.append_nil] at hfl
        ((apply sc_region); (refine mv_ ?_); (refine se_ (ex_nilCheck ev_) ?_); (refine se_ (ex_fieldAddr ev_ asm_) ?_); (refine se_ (ex_load1 ev_ asm_ mem_ nth_) ?_); (refine mv_ ?_); (refine se_ (ex_indexAddr ev_ ev_ asm_ asm_ lit_ lt_) ?_); (refine se_ (ex_fieldAddr ev_ asm_) ?_); (apply so_ex; (apply ex_load1r; (exact ev_); assumption; (exact mem_); (first | exact k0 | exact k1)); exact rfl); (refine mv_ ?_); (refine se_ (ex_neq_t ev_ ev_ om_) ?_); (refine mv_ ?_); (refine wt_ ?_); (refine mv_ ?_); (refine wt_ ?_); (refine se_ (ex_nilCheck ev_) ?_); (refine wt_ ?_); (refine se_ (ex_fieldAddr ev_ asm_) ?_); (refine wt_ ?_); (refine se_ (ex_load1 ev_ asm_ mem_ nth_) ?_); (refine wt_ ?_); (refine mv_ ?_); (refine wt_ ?_); (refine se_ (ex_indexAddr ev_ ev_ asm_ asm_ lit_ lt_) ?_); (refine wt_ ?_); (refine se_ (ex_fieldAddr ev_ asm_) ?_); (refine wt_ ?_); (apply so_ex; (apply ex_load1r; (exact ev_); assumption; (exact mem_); (first | exact k0 | exact k1)); exact rfl); (refine wt_ ?_); (refine mv_ ?_); (refine wt_ ?_); (refine se_ (ex_neq_f ev_ ev_ om_) ?_); (refine se_ (ex_pick_t ev_ ev_) ?_); refine sn_ ?_; (refine cf_ ?_); (apply sc_skip); (apply nm_block); (apply nm_then); (apply sc_region); (refine mv_ ?_); (refine se_ (ex_add ev_ .const wr_) ?_); (refine asg_ ?_); (apply so_nil); (apply nm_then))
        exact ⟨_, by rw [hq]; omega, i + 1, W, o, cap, B, by omega, rfl, hfl.symm, hB, at_, at_, at_, at_, held_⟩
      · have : [(x1, x2)].filter (keepE tx) = [(x1, x2)] := by simp [keepE, h1, h2]
        rw [this] at hfl
        ((apply sc_region); (refine mv_ ?_); (refine se_ (ex_nilCheck ev_) ?_); (refine se_ (ex_fieldAddr ev_ asm_) ?_); (refine se_ (ex_load1 ev_ asm_ mem_ nth_) ?_); (refine mv_ ?_); (refine se_ (ex_indexAddr ev_ ev_ asm_ asm_ lit_ lt_) ?_); (refine se_ (ex_fieldAddr ev_ asm_) ?_); (apply so_ex; (apply ex_load1r; (exact ev_); assumption; (exact mem_); (first | exact k0 | exact k1)); exact rfl); (refine mv_ ?_); (refine se_ (ex_neq_t ev_ ev_ om_) ?_); (refine mv_ ?_); (refine wt_ ?_); (refine mv_ ?_); (refine wt_ ?_); (refine se_ (ex_nilCheck ev_) ?_); (refine wt_ ?_); (refine se_ (ex_fieldAddr ev_ asm_) ?_); (refine wt_ ?_); (refine se_ (ex_load1 ev_ asm_ mem_ nth_) ?_); (refine wt_ ?_); (refine mv_ ?_); (refine wt_ ?_); (refine se_ (ex_indexAddr ev_ ev_ asm_ asm_ lit_ lt_) ?_); (refine wt_ ?_); (refine se_ (ex_fieldAddr ev_ asm_) ?_); (refine wt_ ?_); (apply so_ex; (apply ex_load1r; (exact ev_); assumption; (exact mem_); (first | exact k0 | exact k1)); exact rfl); (refine wt_ ?_); (refine mv_ ?_); (refine wt_ ?_); (refine se_ (ex_neq_t ev_ ev_ om_) ?_); (refine se_ (ex_pick_t ev_ ev_) ?_); refine sn_ ?_; (refine ct_ ?_); (apply sc_region); (refine mv_ ?_); (refine mv_ ?_); (refine se_ (ex_nilCheck ev_) ?_); (refine se_ (ex_fieldAddr ev_ asm_) ?_); (refine se_ (ex_load1 ev_ asm_ mem_ nth_) ?_); (refine mv_ ?_); (refine se_ (ex_indexAddr ev_ ev_ asm_ asm_ lit_ lt_) ?_); (apply so_ex; (apply ex_loadNr (r := [Value.int .i64 x1, .int .i64 x2]); (exact ev_); assumption; (exact mem_); exact rfl; exact kk); exact rfl); (apply so_buildS; (focus ((apply EvP.cons; (exact ev_)); exact EvP.nil)); assumption; assumption; assumption; (focus (repeat (first | exact SeqP.nil | (apply SeqP.cons; exact rfl; exact rfl) | exact App.nil | apply App.cons))); exact rfl; exact rfl; exact rfl; intro _))
        (apply so_appE (e1 := x1) (e2 := x2); (exact ev_); (exact ev_); exact hB; (exact sel_); (exact mem_); exact hWl; assumption; assumption; assumption; assumption; exact rfl)
        intro o3 cap3 B3 hB3
        ((refine asg_ ?_); (apply so_nil); (apply nm_block); (apply nm_then); (apply sc_region); (refine mv_ ?_); (refine se_ (ex_add ev_ .const wr_) ?_); (refine asg_ ?_); (apply so_nil); (apply nm_then))
        exact ⟨_, by rw [hq]; omega, i + 1, _, o3, cap3, B3, by omega, rfl, hfl.symm, hB3, at_, at_, at_, at_, held_⟩
  · rename_i hge
    obtain rfl : i = E.length := by omega
    rw [List.take_length, ← withoutE_eq] at hW
    subst hW
    (refine sn_ ?_; (refine cf_ ?_); (apply sc_exit); (apply et_then); (apply et_then); (apply et_hit); (apply nm_then); (apply sc_region); (refine mv_ ?_); (refine mv_ ?_); (refine se_ (ex_nilCheck ev_) ?_); (refine se_ (ex_fieldAddr ev_ asm_) ?_); (apply so_store; (exact ev_); (exact ev_); assumption; exact rfl; exact rfl; exact rfl; (focus (repeat (first | exact Turn.here | apply Turn.there | apply Turn.pre))); (focus (repeat (first | exact SetSub.nil | apply SetSub.take | apply SetSub.drop)))); (apply so_nil))
    (apply ret_ok'; (focus (exact Res.nil)); (exact ⟨rfl, o, cap, B, hB, rfl⟩); (exact sel_); (exact appb_))
end Go.Proofs.Ytomgkmoecbnddaa
