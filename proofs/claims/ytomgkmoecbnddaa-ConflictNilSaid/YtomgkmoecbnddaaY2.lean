/- Conflict: script: the graph and the reference agree after each operation. -/
import Derived.Test.YtomgkmoecbnddaaY0
import Derived.Test.YtomgkmoecbnddaaY1
set_option linter.unusedVariables false
set_option linter.unusedSimpArgs false
set_option linter.unnecessarySimpa false
namespace Go.Proofs.Ytomgkmoecbnddaa
open Go.Sym
theorem RRep.nb {K : Nat} {r : RG} {q : Nat} {L : List Blk} (h : RRep K r q L) : r.n ≤ K ∧ r.L.length ≤ K := by
  obtain ⟨_, _, _, _, _, _, _, _, _, h⟩ := h
  exact ⟨h.n.2, h.sl⟩
def Ids (r : RG) (nx : Nat) : Prop := ∀ x ∈ r.L, x.id < (nx : Int)
theorem Ids.map {r : RG} {nx : Nat} (h : Ids r nx) {F : RT → RT} (hF : ∀ x, (F x).id = x.id) : ∀ x ∈ r.L.map F, x.id < (nx : Int) := fun x hx => by
  obtain ⟨y, hy, rfl⟩ := List.mem_map.1 hx; rw [hF]; exact h y hy
theorem Ids.begin {r : RG} {nx : Nat} {ro : Bool} (h : Ids r nx) (hno : findR r.L (nx : Int) = none) : Ids (r.begin (nx : Int) ro) (nx + 1) := fun x hx => by
  unfold RG.begin at hx
  rw [hno] at hx
  rcases List.mem_append.1 hx with hx | hx
  · have := h x hx; omega
  · rw [List.mem_singleton] at hx; subst hx; show (nx : Int) < _; omega
theorem Ids.again {r : RG} {nx : Nat} {ro : Bool} {a : Int} {x : RT} (h : Ids r nx) (hf : findR r.L a = some x) : Ids (r.begin a ro) nx := by
  unfold RG.begin
  rw [hf]
  dsimp only
  split
  · exact h
  · intro y hy
    obtain ⟨z, hz, rfl⟩ := List.mem_map.1 hy
    by_cases e : z.id = a
    · rw [if_pos e]; have := h z hz; rw [e] at this; exact this
    · rw [if_neg e]; exact h z hz
theorem Ids.edge {r : RG} {nx : Nat} {a b : Int} (h : Ids r nx) : Ids (r.edgeG a b) nx := by
  unfold RG.edgeG
  cases findR r.L a with
  | none => exact h
  | some x =>
    cases findR r.L b with
    | none => exact h
    | some y =>
      dsimp only
      split
      · exact h
      · exact h.map (rDm_id _)
theorem Ids.check {r : RG} {nx : Nat} {a : Int} (h : Ids r nx) : Ids (r.checkQ a).2 nx := by
  unfold RG.checkQ
  cases findR r.L a with
  | none => exact h
  | some x =>
    dsimp only
    split
    · exact h
    · split
      · exact h
      · split
        · exact h.map (rDm_id _)
        · have h2 : Ids (r.doom (vics r.L r.E (0, a) true)) nx := h.map (rDm_id _)
          exact Ids.map h2 (F := setSt a 2) fun x => by unfold setSt; split <;> rfl
theorem Ids.commit {r : RG} {nx : Nat} {a : Int} (h : Ids r nx) : Ids (r.commit a) nx := by
  unfold RG.commit
  cases findR r.L a with
  | none => exact h
  | some x =>
    dsimp only
    split
    · exact h
    · exact h.map (setDone_id _ _)
theorem Ids.prep {r : RG} {nx : Nat} {a : Int} (h : Ids r nx) : Ids (r.prepare a) nx := by
  unfold RG.prepare
  cases findR r.L a with
  | none => exact h
  | some x =>
    dsimp only
    split
    · exact Ids.map h (F := setSt a 2) fun x => by unfold setSt; split <;> rfl
    · exact h
theorem Ids.abort {r : RG} {nx : Nat} {a : Int} (h : Ids r nx) : Ids (r.abort a) nx := by
  unfold RG.abort
  cases findR r.L a with
  | none => exact h
  | some x =>
    dsimp only
    split
    · exact h
    · exact fun y hy => h y (List.mem_filter.1 hy).1
theorem abort_most (g : Gr) (a : Int) : (g.abortQ a).most = g.most := by
  unfold Gr.abortQ
  cases findL g.nodes a with
  | none => rfl
  | some n => dsimp only; split <;> rfl
theorem begin_most (g : Gr) (a : Int) (ro : Bool) : (g.beginQ a ro).most = g.most := by
  unfold Gr.beginQ
  cases findL g.nodes a with
  | none => rfl
  | some n =>
    dsimp only
    split
    · rfl
    · exact abort_most g a
theorem commit_most (g : Gr) (a : Int) : (g.commitQ a).most = g.most := by
  unfold Gr.commitQ
  cases findL g.nodes a with
  | none => rfl
  | some n => dsimp only; split <;> rfl
theorem prep_most (g : Gr) (a : Int) : (g.prepQ a).most = g.most := by
  unfold Gr.prepQ
  cases findL g.nodes a with
  | none => rfl
  | some n => dsimp only; split <;> rfl
theorem check_most (g : Gr) (a : Int) : (g.checkQ a).2.most = g.most := by
  unfold Gr.checkQ
  cases findL g.nodes a with
  | none => rfl
  | some n =>
    dsimp only
    split
    · rfl
    · split
      · rfl
      · split <;> rfl
theorem edge_most (g : Gr) (a b : Int) : (g.edgeG a b).most = g.most := by
  have hl : ∀ x y, (g.linkQ x y).most = g.most := fun x y => by unfold Gr.linkQ; split; rfl; split <;> rfl
  unfold Gr.edgeG
  cases findL g.nodes a with
  | none => rfl
  | some x =>
    cases findL g.nodes b with
    | none => rfl
    | some y =>
      dsimp only
      split
      · rfl
      · split
        · exact hl x y
        · exact hl x y
theorem mod12u (z : Int) (h : 0 ≤ z) : ∃ a : Int, z.tmod 12 = a ∧ 0 ≤ a ∧ a ≤ 11 := by
  have h1 := Int.tmod_nonneg 12 h
  have h2 := Int.tmod_lt_of_pos z (show (0:Int) < 12 by decide)
  exact ⟨_, rfl, by omega, by omega⟩
set_option maxHeartbeats 16000000 in
theorem script_tri {p qr : Nat} {g0 : Gr} {r0 : RG} {N1 N2 : List Blk} {most : Int} (hG0 : GRep 0 g0 p N1) (hR0 : RRep 0 r0 qr N2) (hC0 : Cp g0 r0) (hi0 : Ids r0 1) (hm0 : g0.most = most) {bb off len cap : Nat} {cl : List Value} {T : TypeId} {fz : Nat × Nat} (hl : len ≤ maxLen) (hcs : ∀ q j, q < len → j < 4 → ∃ z : Int, cl[off + q * 4 + j]? = some (.int .u8 z) ∧ 0 ≤ z ∧ z < 256) :
    Tri Try.prog 19 #[.pointer (some ⟨p, 0, none⟩), .pointer (some ⟨qr, 0, none⟩), .slice (some ⟨bb, off, none⟩) len cap] ((bb, .cells cl.toArray T fz) :: (N1 ++ N2))
      fun v L => v = .bool true ∧ ∃ (K1 K2 nx : Nat) (g : Gr) (r : RG) (L1 L2 : List Blk), K1 ≤ 60 ∧ K2 ≤ 60 ∧ 1 ≤ nx ∧ nx ≤ 13 ∧ GRep K1 g p L1 ∧ RRep K2 r qr L2 ∧ Cp g r ∧ Ids r nx ∧ g.most = most ∧ L = (bb, .cells cl.toArray T fz) :: (L1 ++ L2) := by
  have f_mixed := mixed; have f_by50 := by50; have f_by85 := by85; have f_en12 := en12; have f_en13 := en13; have f_en14 := en14; have f_en15 := en15; have f_en16 := en16; have f_en22 := en22; have f_en23 := en23; have f_en39 := en39; have f_en40 := en40; have f_en41 := en41; have f_en42 := en42; have f_en43 := en43; have f_en44 := en44; have f_en45 := en45; have f_fo50_0 := fo50_0; have f_fo50_1 := fo50_1; have f_fo50_2 := fo50_2; have f_fo50_3 := fo50_3; have f_fo59_0 := fo59_0; have f_fo85_2 := fo85_2; have f_ty3 := ty3; have f_ty4 := ty4; have f_ty47 := ty47; have f_ty48 := ty48; have f_ty5 := ty5; have f_ty50 := ty50; have f_ty56 := ty56; have f_ty85 := ty85; have f_un_3 : Und Try.prog 3 _ := ⟨Try.underlying3⟩; have f_un_47 : Und Try.prog 47 _ := ⟨Try.underlying47⟩; have f_un_48 : Und Try.prog 48 _ := ⟨Try.underlying48⟩; have f_un_5 : Und Try.prog 5 _ := ⟨Try.underlying5⟩; have f_un_56 : Und Try.prog 56 _ := ⟨Try.underlying56⟩; have f_zero4 := zero4; have f_zero48 := zero48; have f_zero50 := zero50; have f_zero85 := zero85; have f_zv4 := zv4; have f_zv50 := zv50; have f_zv85 := zv85
  have hmax : len < 9223372036854775808 := by unfold maxLen at hl; omega
  have f_ty50' : tyOf Try.prog 50 = some (true, 4) := f_ty50
  refine tri_intro (args := [_, _, _]) Try.func19 rfl Try.ntmps19 rfl (rs := _) rfl rfl fun E R => ?_
  simp only [fr, List.cons_append, List.nil_append, List.append_assoc]
  (refine sr_ ?_; (refine ac_ ?_); refine sn_ ?_; refine sr_ ?_; (refine se_ (ex_build0 asm_ asm_ asm_) ?_); (apply so_alloc; assumption; exact rfl; intro _); (apply so_store; (exact ev_); (exact ev_); assumption; exact rfl; exact rfl; exact rfl; (focus (repeat (first | exact Turn.here | apply Turn.there | apply Turn.pre))); (focus (repeat (first | exact SetSub.nil | apply SetSub.take | apply SetSub.drop)))); refine sn_ ?_; refine sr_ ?_; (refine ac_ ?_); refine sn_ ?_; (apply sc_seq); refine sr_ ?_; (refine ac_ ?_); refine sn_ ?_; (apply sc_block))
  rename_i b7
  refine sc_loop (fun k f L => ∃ (i K1 K2 nx : Nat) (g : Gr) (r : RG) (L1 L2 : List Blk) (bg : Nat → Bool), k = 60 - i ∧ i ≤ 60 ∧ K1 ≤ i ∧ K2 ≤ i ∧ 1 ≤ nx ∧ nx ≤ 13 ∧ GRep K1 g p L1 ∧ RRep K2 r qr L2 ∧ Cp g r ∧ Ids r nx ∧ g.most = most ∧ At f 0 (.pointer (some ⟨p, 0, none⟩)) ∧ At f 1 (.pointer (some ⟨qr, 0, none⟩)) ∧ At f 2 (.slice (some ⟨bb, off, none⟩) len cap) ∧ At f 7 (.pointer (some ⟨b7, 0, none⟩)) ∧ At f 8 (.int .i64 (nx : Int)) ∧ At f 9 (.int .i64 (i : Int)) ∧ Held L ((b7, .cells (bl bg).toArray 48) :: (bb, .cells cl.toArray T fz) :: (L1 ++ L2)) R)
    _ ⟨0, 0, 0, 1, g0, r0, N1, N2, fun _ => false, rfl, by omega, by omega, by omega, by omega, by omega, hG0, hR0, hC0, hi0, hm0, at_, at_, at_, at_, at_, at_, held_⟩ ?_
  rintro k f L ⟨i, K1, K2, nx, g, r, L1, L2, bg, hk, hi, hK1, hK2, hnx1, hnx, hG, hR, hC, hids, hmost, a0, a1, a2, a7, a8, a9, ⟨G, hP⟩⟩
  refine sc_perm hP ?_
  simp only [List.cons_append, List.append_assoc]
  have hnb := hR.nb
  by_cases hlt : i < len ∧ i < 60
  · obtain ⟨hil, h60⟩ := hlt
    have hil' : (i : Int) < (len : Int) := by omega
    have h60' : (i : Int) < 60 := by omega
    obtain ⟨z0, hz0, p0, q0⟩ := hcs i 0 hil (by omega)
    obtain ⟨z1, hz1, p1, q1⟩ := hcs i 1 hil (by omega)
    obtain ⟨z2, hz2, p2, q2⟩ := hcs i 2 hil (by omega)
    obtain ⟨z3, hz3, p3, q3⟩ := hcs i 3 hil (by omega)
    obtain ⟨a, ha, ha1, ha12⟩ := mod12 z1 p1
    obtain ⟨b, hb, hb1, hb12⟩ := mod12 z2 p2
    obtain ⟨w, hw, hw0, hw9⟩ := mod12u z0 p0
    have f_w1 : IntKind.i64.wrap z1 = z1 := wrap_in (by unfold InI; omega)
    have f_w2 : IntKind.i64.wrap z2 = z2 := wrap_in (by unfold InI; omega)
    have f_a : IntKind.i64.wrap (1 + z1.tmod 12) = (a : Int) := by rw [ha]; exact wrap_in (by unfold InI; omega)
    have f_b : IntKind.i64.wrap (1 + z2.tmod 12) = (b : Int) := by rw [hb]; exact wrap_in (by unfold InI; omega)
    ((apply sc_seq); refine sr_ ?_; (refine mv_ ?_); (refine mv_ ?_); (refine se_ (ex_len_slice ev_ asm_) ?_); (refine se_ (ex_lss_t ev_ ev_ om_) ?_); (refine mv_ ?_); (refine wt_ ?_); (refine mv_ ?_); (refine wt_ ?_); (refine se_ (ex_lss_t ev_ .const om_) ?_); (refine se_ (ex_pick_t ev_ ev_) ?_); refine sn_ ?_; (refine ct_ ?_); (apply sc_skip); (apply nm_then); (apply sc_seq); ((fail_if_success (apply sc_block (id := 2))); apply sc_block); refine sr_ ?_; (refine mv_ ?_); (refine mv_ ?_); (refine se_ (ex_indexAddr ev_ ev_ asm_ asm_ lit_ lt_) ?_); (refine se_ (ex_fieldAddr ev_ asm_) ?_); (apply so_ex; (apply ex_load1r; (exact ev_); assumption; (exact mem_); (first | exact hz0 | exact hz1 | exact hz2 | exact hz3)); exact rfl); (apply so_ex; (apply ex_convert; (exact ev_); assumption; assumption; (first | assumption | exact rfl)); exact rfl); (apply so_ex; (apply ex_rem; (exact ev_); ((exact Ev.const)); (first | assumption | decide | omega); (first | assumption | exact rfl)); exact rfl); (refine se_ (ex_add .const ev_ wr_) ?_); (refine asg_ ?_); refine sn_ ?_; refine sr_ ?_; (refine mv_ ?_); (refine mv_ ?_); (refine se_ (ex_indexAddr ev_ ev_ asm_ asm_ lit_ lt_) ?_); (refine se_ (ex_fieldAddr ev_ asm_) ?_); (apply so_ex; (apply ex_load1r; (exact ev_); assumption; (exact mem_); (first | exact hz0 | exact hz1 | exact hz2 | exact hz3)); exact rfl); (apply so_ex; (apply ex_convert; (exact ev_); assumption; assumption; (first | assumption | exact rfl)); exact rfl); (apply so_ex; (apply ex_rem; (exact ev_); ((exact Ev.const)); (first | assumption | decide | omega); (first | assumption | exact rfl)); exact rfl); (refine se_ (ex_add .const ev_ wr_) ?_); (refine asg_ ?_); refine sn_ ?_; refine sr_ ?_; (refine ac_ ?_); refine sn_ ?_; (apply sc_seq); refine sr_ ?_; (refine mv_ ?_); (refine mv_ ?_); (refine se_ (ex_indexAddr ev_ ev_ asm_ asm_ lit_ lt_) ?_); (refine se_ (ex_fieldAddr ev_ asm_) ?_); (apply so_ex; (apply ex_load1r; (exact ev_); assumption; (exact mem_); (first | exact hz0 | exact hz1 | exact hz2 | exact hz3)); exact rfl); (apply so_ex; (apply ex_rem; (exact ev_); ((exact Ev.const)); (first | assumption | decide | omega); (first | assumption | exact rfl)); exact rfl); (apply so_nil); (apply nm_then))
    refine SC.mono (Q := fun u f L => u = .normal ∧ ∃ (K1' K2' nx' : Nat) (g' : Gr) (r' : RG) (L1' L2' : List Blk) (bg' : Nat → Bool), K1' ≤ i + 1 ∧ K2' ≤ i + 1 ∧ 1 ≤ nx' ∧ nx' ≤ 13 ∧ GRep K1' g' p L1' ∧ RRep K2' r' qr L2' ∧ Cp g' r' ∧ Ids r' nx' ∧ g'.most = most ∧ At f 0 (.pointer (some ⟨p, 0, none⟩)) ∧ At f 1 (.pointer (some ⟨qr, 0, none⟩)) ∧ At f 2 (.slice (some ⟨bb, off, none⟩) len cap) ∧ At f 7 (.pointer (some ⟨b7, 0, none⟩)) ∧ At f 8 (.int .i64 (nx' : Int)) ∧ At f 9 (.int .i64 (i : Int)) ∧ At f 12 (.bool true) ∧ Held L ((b7, .cells (bl bg').toArray 48) :: (bb, .cells cl.toArray T fz) :: (L1' ++ L2')) R) ?_ ?_
    · have hw' : w = 0 ∨ w = 1 ∨ w = 2 ∨ w = 3 ∨ w = 4 ∨ w = 5 ∨ w = 6 ∨ w = 7 ∨ w = 8 ∨ w = 9 ∨ w = 10 ∨ w = 11 := by omega
      rcases hw' with rfl | rfl | rfl | rfl | rfl | rfl | rfl | rfl | rfl | rfl | rfl | rfl
      · by_cases h12 : nx ≤ 12
        · have h12' : (nx : Int) ≤ 12 := by omega
          have f_nx : IntKind.i64.wrap ((nx : Int) + 1) = ((nx + 1 : Nat) : Int) := by rw [wrap_in (by unfold InI; omega)]; omega
          have hnx13 : nx < 13 := by omega
          have hnxl : 0 + nx * 1 + [Value.bool true].length ≤ (bl bg).length := by show 0 + nx * 1 + 1 ≤ 13; omega
          ((apply sc_block); (apply sc_seq); refine sr_ ?_; (refine se_ (ex_eql ev_ .const) ?_); (refine asg_ ?_); refine sn_ ?_; (refine ct_ ?_); (apply sc_skip); (apply nm_then); (refine ct_ ?_); refine sr_ ?_; (refine mv_ ?_); (refine se_ (ex_leq_t ev_ .const om_) ?_); refine sn_ ?_; (refine ct_ ?_); refine sr_ ?_; (refine mv_ ?_); (refine mv_ ?_); (refine mv_ ?_); (refine mv_ ?_); (refine se_ (ex_indexAddr ev_ ev_ asm_ asm_ lit_ lt_) ?_); (refine se_ (ex_fieldAddr ev_ asm_) ?_); (apply so_ex; (apply ex_load1r; (exact ev_); assumption; (exact mem_); (first | exact hz0 | exact hz1 | exact hz2 | exact hz3)); exact rfl); (apply so_ex; (apply ex_rem; (exact ev_); ((exact Ev.const)); (first | assumption | decide | omega); (first | assumption | exact rfl)); exact rfl); (refine se_ (ex_eql ev_ .const) ?_))
          (apply so_call; (exact Ev.func); (focus ((apply EvL.cons; (exact ev_)); (apply EvL.cons; (exact ev_)); (apply EvL.cons; (exact ev_)); exact EvL.nil)); (focus (repeat (first | exact App.nil | apply App.cons))); assumption; (exact beginR_tri (tx := (nx : Int)) (ro := decide (z3.tmod 4 = 0)) hG (by omega)); (exact sel_); exact rfl)
          rintro v M1 ⟨rfl, hG2⟩
          (refine sn_ ?_; refine sr_ ?_; (refine mv_ ?_); (refine mv_ ?_); (refine mv_ ?_); (refine mv_ ?_); (refine se_ (ex_indexAddr ev_ ev_ asm_ asm_ lit_ lt_) ?_); (refine se_ (ex_fieldAddr ev_ asm_) ?_); (apply so_ex; (apply ex_load1r; (exact ev_); assumption; (exact mem_); (first | exact hz0 | exact hz1 | exact hz2 | exact hz3)); exact rfl); (apply so_ex; (apply ex_rem; (exact ev_); ((exact Ev.const)); (first | assumption | decide | omega); (first | assumption | exact rfl)); exact rfl); (refine se_ (ex_eql ev_ .const) ?_))
          (apply so_call; (exact Ev.func); (focus ((apply EvL.cons; (exact ev_)); (apply EvL.cons; (exact ev_)); (apply EvL.cons; (exact ev_)); exact EvL.nil)); (focus (repeat (first | exact App.nil | apply App.cons))); assumption; (exact beginR2_tri hR hC.ok (by omega) (nx : Int) (decide (z3.tmod 4 = 0))); (exact sel_); exact rfl)
          rintro v M2 ⟨rfl, hR2⟩
          (refine sn_ ?_; refine sr_ ?_; (refine mv_ ?_); (refine se_ (ex_indexArr ev_ ev_ asm_ asm_ lit_ lt_) ?_); (apply so_storer (r := [Value.bool true]); (exact ev_); (exact Ev.const); assumption; exact rfl; exact rfl; exact rfl; (focus (repeat (first | exact Turn.here | apply Turn.there | apply Turn.pre))); exact bl_set bg true hnx13; exact hnxl); refine sn_ ?_; (apply sc_region); (refine mv_ ?_); (refine se_ (ex_add ev_ .const wr_) ?_); (refine asg_ ?_); (apply so_nil); (apply nm_block))
          have hno : findR r.L (nx : Int) = none := findR_no fun x hx e => by have := hids x hx; omega
          have hC2 := hC.begin (by omega) (by omega) (nx : Int) (decide (z3.tmod 4 = 0)) (fun x e => by rw [hno] at e; cases e)
          exact ⟨rfl, K1 + 1, K2 + 1, nx + 1, _, _, _, _, _, by omega, by omega, by omega, by omega, hG2, hR2, hC2, Ids.begin hids hno, by rw [begin_most]; exact hmost, at_, at_, at_, at_, at_, at_, at_, held_⟩
        · have h12' : ¬ (nx : Int) ≤ 12 := by omega
          ((apply sc_block); (apply sc_seq); refine sr_ ?_; (refine se_ (ex_eql_t ev_ .const om_) ?_); (refine asg_ ?_); refine sn_ ?_; (refine ct_ ?_); (apply sc_skip); (apply nm_then); (refine ct_ ?_); refine sr_ ?_; (refine mv_ ?_); (refine se_ (ex_leq_f ev_ .const om_) ?_); refine sn_ ?_; (refine cf_ ?_); (apply sc_skip); (apply nm_block))
          exact ⟨rfl, K1, K2, nx, _, _, _, _, bg, by omega, by omega, hnx1, hnx, hG, hR, hC, hids, hmost, at_, at_, at_, at_, at_, at_, at_, held_⟩
      · by_cases h12 : nx ≤ 12
        · have h12' : (nx : Int) ≤ 12 := by omega
          have f_nx : IntKind.i64.wrap ((nx : Int) + 1) = ((nx + 1 : Nat) : Int) := by rw [wrap_in (by unfold InI; omega)]; omega
          have hnx13 : nx < 13 := by omega
          have hnxl : 0 + nx * 1 + [Value.bool true].length ≤ (bl bg).length := by show 0 + nx * 1 + 1 ≤ 13; omega
          ((apply sc_block); (apply sc_seq); refine sr_ ?_; (refine se_ (ex_eql ev_ .const) ?_); (refine asg_ ?_); refine sn_ ?_; (refine cf_ ?_); refine sr_ ?_; (refine se_ (ex_eql ev_ .const) ?_); (refine asg_ ?_); refine sn_ ?_; (refine ct_ ?_); (apply sc_skip); (apply nm_then); (refine ct_ ?_); refine sr_ ?_; (refine mv_ ?_); (refine se_ (ex_leq_t ev_ .const om_) ?_); refine sn_ ?_; (refine ct_ ?_); refine sr_ ?_; (refine mv_ ?_); (refine mv_ ?_); (refine mv_ ?_); (refine mv_ ?_); (refine se_ (ex_indexAddr ev_ ev_ asm_ asm_ lit_ lt_) ?_); (refine se_ (ex_fieldAddr ev_ asm_) ?_); (apply so_ex; (apply ex_load1r; (exact ev_); assumption; (exact mem_); (first | exact hz0 | exact hz1 | exact hz2 | exact hz3)); exact rfl); (apply so_ex; (apply ex_rem; (exact ev_); ((exact Ev.const)); (first | assumption | decide | omega); (first | assumption | exact rfl)); exact rfl); (refine se_ (ex_eql ev_ .const) ?_))
          (apply so_call; (exact Ev.func); (focus ((apply EvL.cons; (exact ev_)); (apply EvL.cons; (exact ev_)); (apply EvL.cons; (exact ev_)); exact EvL.nil)); (focus (repeat (first | exact App.nil | apply App.cons))); assumption; (exact beginR_tri (tx := (nx : Int)) (ro := decide (z3.tmod 4 = 0)) hG (by omega)); (exact sel_); exact rfl)
          rintro v M1 ⟨rfl, hG2⟩
          (refine sn_ ?_; refine sr_ ?_; (refine mv_ ?_); (refine mv_ ?_); (refine mv_ ?_); (refine mv_ ?_); (refine se_ (ex_indexAddr ev_ ev_ asm_ asm_ lit_ lt_) ?_); (refine se_ (ex_fieldAddr ev_ asm_) ?_); (apply so_ex; (apply ex_load1r; (exact ev_); assumption; (exact mem_); (first | exact hz0 | exact hz1 | exact hz2 | exact hz3)); exact rfl); (apply so_ex; (apply ex_rem; (exact ev_); ((exact Ev.const)); (first | assumption | decide | omega); (first | assumption | exact rfl)); exact rfl); (refine se_ (ex_eql ev_ .const) ?_))
          (apply so_call; (exact Ev.func); (focus ((apply EvL.cons; (exact ev_)); (apply EvL.cons; (exact ev_)); (apply EvL.cons; (exact ev_)); exact EvL.nil)); (focus (repeat (first | exact App.nil | apply App.cons))); assumption; (exact beginR2_tri hR hC.ok (by omega) (nx : Int) (decide (z3.tmod 4 = 0))); (exact sel_); exact rfl)
          rintro v M2 ⟨rfl, hR2⟩
          (refine sn_ ?_; refine sr_ ?_; (refine mv_ ?_); (refine se_ (ex_indexArr ev_ ev_ asm_ asm_ lit_ lt_) ?_); (apply so_storer (r := [Value.bool true]); (exact ev_); (exact Ev.const); assumption; exact rfl; exact rfl; exact rfl; (focus (repeat (first | exact Turn.here | apply Turn.there | apply Turn.pre))); exact bl_set bg true hnx13; exact hnxl); refine sn_ ?_; (apply sc_region); (refine mv_ ?_); (refine se_ (ex_add ev_ .const wr_) ?_); (refine asg_ ?_); (apply so_nil); (apply nm_block))
          have hno : findR r.L (nx : Int) = none := findR_no fun x hx e => by have := hids x hx; omega
          have hC2 := hC.begin (by omega) (by omega) (nx : Int) (decide (z3.tmod 4 = 0)) (fun x e => by rw [hno] at e; cases e)
          exact ⟨rfl, K1 + 1, K2 + 1, nx + 1, _, _, _, _, _, by omega, by omega, by omega, by omega, hG2, hR2, hC2, Ids.begin hids hno, by rw [begin_most]; exact hmost, at_, at_, at_, at_, at_, at_, at_, held_⟩
        · have h12' : ¬ (nx : Int) ≤ 12 := by omega
          ((apply sc_block); (apply sc_seq); refine sr_ ?_; (refine se_ (ex_eql_f ev_ .const om_) ?_); (refine asg_ ?_); refine sn_ ?_; (refine cf_ ?_); refine sr_ ?_; (refine se_ (ex_eql_t ev_ .const om_) ?_); (refine asg_ ?_); refine sn_ ?_; (refine ct_ ?_); (apply sc_skip); (apply nm_then); (refine ct_ ?_); refine sr_ ?_; (refine mv_ ?_); (refine se_ (ex_leq_f ev_ .const om_) ?_); refine sn_ ?_; (refine cf_ ?_); (apply sc_skip); (apply nm_block))
          exact ⟨rfl, K1, K2, nx, _, _, _, _, bg, by omega, by omega, hnx1, hnx, hG, hR, hC, hids, hmost, at_, at_, at_, at_, at_, at_, at_, held_⟩
      · by_cases h12 : nx ≤ 12
        · have h12' : (nx : Int) ≤ 12 := by omega
          have f_nx : IntKind.i64.wrap ((nx : Int) + 1) = ((nx + 1 : Nat) : Int) := by rw [wrap_in (by unfold InI; omega)]; omega
          have hnx13 : nx < 13 := by omega
          have hnxl : 0 + nx * 1 + [Value.bool true].length ≤ (bl bg).length := by show 0 + nx * 1 + 1 ≤ 13; omega
          ((apply sc_block); (apply sc_seq); refine sr_ ?_; (refine se_ (ex_eql ev_ .const) ?_); (refine asg_ ?_); refine sn_ ?_; (refine cf_ ?_); refine sr_ ?_; (refine se_ (ex_eql ev_ .const) ?_); (refine asg_ ?_); refine sn_ ?_; (refine cf_ ?_); (apply sc_region); (refine se_ (ex_eql ev_ .const) ?_); (refine asg_ ?_); refine sn_ ?_; (refine ct_ ?_); refine sr_ ?_; (refine mv_ ?_); (refine se_ (ex_leq_t ev_ .const om_) ?_); refine sn_ ?_; (refine ct_ ?_); refine sr_ ?_; (refine mv_ ?_); (refine mv_ ?_); (refine mv_ ?_); (refine mv_ ?_); (refine se_ (ex_indexAddr ev_ ev_ asm_ asm_ lit_ lt_) ?_); (refine se_ (ex_fieldAddr ev_ asm_) ?_); (apply so_ex; (apply ex_load1r; (exact ev_); assumption; (exact mem_); (first | exact hz0 | exact hz1 | exact hz2 | exact hz3)); exact rfl); (apply so_ex; (apply ex_rem; (exact ev_); ((exact Ev.const)); (first | assumption | decide | omega); (first | assumption | exact rfl)); exact rfl); (refine se_ (ex_eql ev_ .const) ?_))
          (apply so_call; (exact Ev.func); (focus ((apply EvL.cons; (exact ev_)); (apply EvL.cons; (exact ev_)); (apply EvL.cons; (exact ev_)); exact EvL.nil)); (focus (repeat (first | exact App.nil | apply App.cons))); assumption; (exact beginR_tri (tx := (nx : Int)) (ro := decide (z3.tmod 4 = 0)) hG (by omega)); (exact sel_); exact rfl)
          rintro v M1 ⟨rfl, hG2⟩
          (refine sn_ ?_; refine sr_ ?_; (refine mv_ ?_); (refine mv_ ?_); (refine mv_ ?_); (refine mv_ ?_); (refine se_ (ex_indexAddr ev_ ev_ asm_ asm_ lit_ lt_) ?_); (refine se_ (ex_fieldAddr ev_ asm_) ?_); (apply so_ex; (apply ex_load1r; (exact ev_); assumption; (exact mem_); (first | exact hz0 | exact hz1 | exact hz2 | exact hz3)); exact rfl); (apply so_ex; (apply ex_rem; (exact ev_); ((exact Ev.const)); (first | assumption | decide | omega); (first | assumption | exact rfl)); exact rfl); (refine se_ (ex_eql ev_ .const) ?_))
          (apply so_call; (exact Ev.func); (focus ((apply EvL.cons; (exact ev_)); (apply EvL.cons; (exact ev_)); (apply EvL.cons; (exact ev_)); exact EvL.nil)); (focus (repeat (first | exact App.nil | apply App.cons))); assumption; (exact beginR2_tri hR hC.ok (by omega) (nx : Int) (decide (z3.tmod 4 = 0))); (exact sel_); exact rfl)
          rintro v M2 ⟨rfl, hR2⟩
          (refine sn_ ?_; refine sr_ ?_; (refine mv_ ?_); (refine se_ (ex_indexArr ev_ ev_ asm_ asm_ lit_ lt_) ?_); (apply so_storer (r := [Value.bool true]); (exact ev_); (exact Ev.const); assumption; exact rfl; exact rfl; exact rfl; (focus (repeat (first | exact Turn.here | apply Turn.there | apply Turn.pre))); exact bl_set bg true hnx13; exact hnxl); refine sn_ ?_; (apply sc_region); (refine mv_ ?_); (refine se_ (ex_add ev_ .const wr_) ?_); (refine asg_ ?_); (apply so_nil); (apply nm_block))
          have hno : findR r.L (nx : Int) = none := findR_no fun x hx e => by have := hids x hx; omega
          have hC2 := hC.begin (by omega) (by omega) (nx : Int) (decide (z3.tmod 4 = 0)) (fun x e => by rw [hno] at e; cases e)
          exact ⟨rfl, K1 + 1, K2 + 1, nx + 1, _, _, _, _, _, by omega, by omega, by omega, by omega, hG2, hR2, hC2, Ids.begin hids hno, by rw [begin_most]; exact hmost, at_, at_, at_, at_, at_, at_, at_, held_⟩
        · have h12' : ¬ (nx : Int) ≤ 12 := by omega
          ((apply sc_block); (apply sc_seq); refine sr_ ?_; (refine se_ (ex_eql_f ev_ .const om_) ?_); (refine asg_ ?_); refine sn_ ?_; (refine cf_ ?_); refine sr_ ?_; (refine se_ (ex_eql_f ev_ .const om_) ?_); (refine asg_ ?_); refine sn_ ?_; (refine cf_ ?_); (apply sc_region); (refine se_ (ex_eql_t ev_ .const om_) ?_); (refine asg_ ?_); refine sn_ ?_; (refine ct_ ?_); refine sr_ ?_; (refine mv_ ?_); (refine se_ (ex_leq_f ev_ .const om_) ?_); refine sn_ ?_; (refine cf_ ?_); (apply sc_skip); (apply nm_block))
          exact ⟨rfl, K1, K2, nx, _, _, _, _, bg, by omega, by omega, hnx1, hnx, hG, hR, hC, hids, hmost, at_, at_, at_, at_, at_, at_, at_, held_⟩
      · by_cases hc2 : z3.tmod 2 = 1
        · ((apply sc_block); (apply sc_seq); refine sr_ ?_; (refine se_ (ex_eql_f ev_ .const om_) ?_); (refine asg_ ?_); refine sn_ ?_; (refine cf_ ?_); refine sr_ ?_; (refine se_ (ex_eql_f ev_ .const om_) ?_); (refine asg_ ?_); refine sn_ ?_; (refine cf_ ?_); (apply sc_region); (refine se_ (ex_eql_f ev_ .const om_) ?_); (refine asg_ ?_); refine sn_ ?_; (refine cf_ ?_); (apply sc_seq); refine sr_ ?_; (refine se_ (ex_eql_t ev_ .const om_) ?_); (refine asg_ ?_); refine sn_ ?_; (refine ct_ ?_); (apply sc_skip); (apply nm_then); (refine ct_ ?_); refine sr_ ?_; (refine mv_ ?_); (refine asg_ ?_); refine sn_ ?_; (apply sc_seq); refine sr_ ?_; (refine mv_ ?_); (refine mv_ ?_); (refine se_ (ex_indexAddr ev_ ev_ asm_ asm_ lit_ lt_) ?_); (refine se_ (ex_fieldAddr ev_ asm_) ?_); (apply so_ex; (apply ex_load1r; (exact ev_); assumption; (exact mem_); (first | exact hz0 | exact hz1 | exact hz2 | exact hz3)); exact rfl); (apply so_ex; (apply ex_rem; (exact ev_); ((exact Ev.const)); (first | assumption | decide | omega); (first | assumption | exact rfl)); exact rfl); (refine se_ (ex_eql_t ev_ .const om_) ?_); refine sn_ ?_; (refine ct_ ?_); (apply sc_region); (refine mv_ ?_); (refine asg_ ?_); refine sn_ ?_; (apply sc_region); (refine mv_ ?_); (refine mv_ ?_); (refine mv_ ?_); (refine mv_ ?_))
          (apply so_call; (exact Ev.func); (focus ((apply EvL.cons; (exact ev_)); (apply EvL.cons; (exact ev_)); (apply EvL.cons; (exact ev_)); (apply EvL.cons; (exact ev_)); exact EvL.nil)); (focus (repeat (first | exact App.nil | apply App.cons))); assumption; (exact edgeR_tri (a := (a : Int)) (b := (b : Int)) (c := (b : Int)) hG); (exact sel_); exact rfl)
          rintro v M1 ⟨rfl, hG2⟩
          ((refine mv_ ?_); (refine mv_ ?_); (refine mv_ ?_); (refine mv_ ?_))
          (apply so_call; (exact Ev.func); (focus ((apply EvL.cons; (exact ev_)); (apply EvL.cons; (exact ev_)); (apply EvL.cons; (exact ev_)); (apply EvL.cons; (exact ev_)); exact EvL.nil)); (focus (repeat (first | exact App.nil | apply App.cons))); assumption; (exact edgeR2_tri hR hC.ok (by omega) (a : Int) (b : Int) (b : Int)); (exact sel_); exact rfl)
          rintro v M2 ⟨rfl, hR2⟩
          obtain ⟨hC2, heq⟩ := hC.edge (by omega) (a : Int) (b : Int)
          rw [← heq (b : Int)]
          ((refine se_ (ex_eql_t ev_ ev_ om_) ?_); (refine asg_ ?_); (apply so_nil); (apply nm_block))
          exact ⟨rfl, K1, K2 + 1, nx, _, _, _, _, bg, by omega, by omega, hnx1, hnx, hG2, hR2, hC2, Ids.edge hids, by rw [edge_most]; exact hmost, at_, at_, at_, at_, at_, at_, at_, held_⟩
        · ((apply sc_block); (apply sc_seq); refine sr_ ?_; (refine se_ (ex_eql_f ev_ .const om_) ?_); (refine asg_ ?_); refine sn_ ?_; (refine cf_ ?_); refine sr_ ?_; (refine se_ (ex_eql_f ev_ .const om_) ?_); (refine asg_ ?_); refine sn_ ?_; (refine cf_ ?_); (apply sc_region); (refine se_ (ex_eql_f ev_ .const om_) ?_); (refine asg_ ?_); refine sn_ ?_; (refine cf_ ?_); (apply sc_seq); refine sr_ ?_; (refine se_ (ex_eql_t ev_ .const om_) ?_); (refine asg_ ?_); refine sn_ ?_; (refine ct_ ?_); (apply sc_skip); (apply nm_then); (refine ct_ ?_); refine sr_ ?_; (refine mv_ ?_); (refine asg_ ?_); refine sn_ ?_; (apply sc_seq); refine sr_ ?_; (refine mv_ ?_); (refine mv_ ?_); (refine se_ (ex_indexAddr ev_ ev_ asm_ asm_ lit_ lt_) ?_); (refine se_ (ex_fieldAddr ev_ asm_) ?_); (apply so_ex; (apply ex_load1r; (exact ev_); assumption; (exact mem_); (first | exact hz0 | exact hz1 | exact hz2 | exact hz3)); exact rfl); (apply so_ex; (apply ex_rem; (exact ev_); ((exact Ev.const)); (first | assumption | decide | omega); (first | assumption | exact rfl)); exact rfl); (refine se_ (ex_eql_f ev_ .const om_) ?_); refine sn_ ?_; (refine cf_ ?_); (apply sc_skip); (apply nm_then); (apply sc_region); (refine mv_ ?_); (refine mv_ ?_); (refine mv_ ?_); (refine mv_ ?_))
          (apply so_call; (exact Ev.func); (focus ((apply EvL.cons; (exact ev_)); (apply EvL.cons; (exact ev_)); (apply EvL.cons; (exact ev_)); (apply EvL.cons; (exact ev_)); exact EvL.nil)); (focus (repeat (first | exact App.nil | apply App.cons))); assumption; (exact edgeR_tri (a := (a : Int)) (b := (b : Int)) (c := (a : Int)) hG); (exact sel_); exact rfl)
          rintro v M1 ⟨rfl, hG2⟩
          ((refine mv_ ?_); (refine mv_ ?_); (refine mv_ ?_); (refine mv_ ?_))
          (apply so_call; (exact Ev.func); (focus ((apply EvL.cons; (exact ev_)); (apply EvL.cons; (exact ev_)); (apply EvL.cons; (exact ev_)); (apply EvL.cons; (exact ev_)); exact EvL.nil)); (focus (repeat (first | exact App.nil | apply App.cons))); assumption; (exact edgeR2_tri hR hC.ok (by omega) (a : Int) (b : Int) (a : Int)); (exact sel_); exact rfl)
          rintro v M2 ⟨rfl, hR2⟩
          obtain ⟨hC2, heq⟩ := hC.edge (by omega) (a : Int) (b : Int)
          rw [← heq (a : Int)]
          ((refine se_ (ex_eql_t ev_ ev_ om_) ?_); (refine asg_ ?_); (apply so_nil); (apply nm_block))
          exact ⟨rfl, K1, K2 + 1, nx, _, _, _, _, bg, by omega, by omega, hnx1, hnx, hG2, hR2, hC2, Ids.edge hids, by rw [edge_most]; exact hmost, at_, at_, at_, at_, at_, at_, at_, held_⟩
      · by_cases hc2 : z3.tmod 2 = 1
        · ((apply sc_block); (apply sc_seq); refine sr_ ?_; (refine se_ (ex_eql_f ev_ .const om_) ?_); (refine asg_ ?_); refine sn_ ?_; (refine cf_ ?_); refine sr_ ?_; (refine se_ (ex_eql_f ev_ .const om_) ?_); (refine asg_ ?_); refine sn_ ?_; (refine cf_ ?_); (apply sc_region); (refine se_ (ex_eql_f ev_ .const om_) ?_); (refine asg_ ?_); refine sn_ ?_; (refine cf_ ?_); (apply sc_seq); refine sr_ ?_; (refine se_ (ex_eql_f ev_ .const om_) ?_); (refine asg_ ?_); refine sn_ ?_; (refine cf_ ?_); refine sr_ ?_; (refine se_ (ex_eql_t ev_ .const om_) ?_); (refine asg_ ?_); refine sn_ ?_; (refine ct_ ?_); (apply sc_skip); (apply nm_then); (refine ct_ ?_); refine sr_ ?_; (refine mv_ ?_); (refine asg_ ?_); refine sn_ ?_; (apply sc_seq); refine sr_ ?_; (refine mv_ ?_); (refine mv_ ?_); (refine se_ (ex_indexAddr ev_ ev_ asm_ asm_ lit_ lt_) ?_); (refine se_ (ex_fieldAddr ev_ asm_) ?_); (apply so_ex; (apply ex_load1r; (exact ev_); assumption; (exact mem_); (first | exact hz0 | exact hz1 | exact hz2 | exact hz3)); exact rfl); (apply so_ex; (apply ex_rem; (exact ev_); ((exact Ev.const)); (first | assumption | decide | omega); (first | assumption | exact rfl)); exact rfl); (refine se_ (ex_eql_t ev_ .const om_) ?_); refine sn_ ?_; (refine ct_ ?_); (apply sc_region); (refine mv_ ?_); (refine asg_ ?_); refine sn_ ?_; (apply sc_region); (refine mv_ ?_); (refine mv_ ?_); (refine mv_ ?_); (refine mv_ ?_))
          (apply so_call; (exact Ev.func); (focus ((apply EvL.cons; (exact ev_)); (apply EvL.cons; (exact ev_)); (apply EvL.cons; (exact ev_)); (apply EvL.cons; (exact ev_)); exact EvL.nil)); (focus (repeat (first | exact App.nil | apply App.cons))); assumption; (exact edgeR_tri (a := (a : Int)) (b := (b : Int)) (c := (b : Int)) hG); (exact sel_); exact rfl)
          rintro v M1 ⟨rfl, hG2⟩
          ((refine mv_ ?_); (refine mv_ ?_); (refine mv_ ?_); (refine mv_ ?_))
          (apply so_call; (exact Ev.func); (focus ((apply EvL.cons; (exact ev_)); (apply EvL.cons; (exact ev_)); (apply EvL.cons; (exact ev_)); (apply EvL.cons; (exact ev_)); exact EvL.nil)); (focus (repeat (first | exact App.nil | apply App.cons))); assumption; (exact edgeR2_tri hR hC.ok (by omega) (a : Int) (b : Int) (b : Int)); (exact sel_); exact rfl)
          rintro v M2 ⟨rfl, hR2⟩
          obtain ⟨hC2, heq⟩ := hC.edge (by omega) (a : Int) (b : Int)
          rw [← heq (b : Int)]
          ((refine se_ (ex_eql_t ev_ ev_ om_) ?_); (refine asg_ ?_); (apply so_nil); (apply nm_block))
          exact ⟨rfl, K1, K2 + 1, nx, _, _, _, _, bg, by omega, by omega, hnx1, hnx, hG2, hR2, hC2, Ids.edge hids, by rw [edge_most]; exact hmost, at_, at_, at_, at_, at_, at_, at_, held_⟩
        · ((apply sc_block); (apply sc_seq); refine sr_ ?_; (refine se_ (ex_eql_f ev_ .const om_) ?_); (refine asg_ ?_); refine sn_ ?_; (refine cf_ ?_); refine sr_ ?_; (refine se_ (ex_eql_f ev_ .const om_) ?_); (refine asg_ ?_); refine sn_ ?_; (refine cf_ ?_); (apply sc_region); (refine se_ (ex_eql_f ev_ .const om_) ?_); (refine asg_ ?_); refine sn_ ?_; (refine cf_ ?_); (apply sc_seq); refine sr_ ?_; (refine se_ (ex_eql_f ev_ .const om_) ?_); (refine asg_ ?_); refine sn_ ?_; (refine cf_ ?_); refine sr_ ?_; (refine se_ (ex_eql_t ev_ .const om_) ?_); (refine asg_ ?_); refine sn_ ?_; (refine ct_ ?_); (apply sc_skip); (apply nm_then); (refine ct_ ?_); refine sr_ ?_; (refine mv_ ?_); (refine asg_ ?_); refine sn_ ?_; (apply sc_seq); refine sr_ ?_; (refine mv_ ?_); (refine mv_ ?_); (refine se_ (ex_indexAddr ev_ ev_ asm_ asm_ lit_ lt_) ?_); (refine se_ (ex_fieldAddr ev_ asm_) ?_); (apply so_ex; (apply ex_load1r; (exact ev_); assumption; (exact mem_); (first | exact hz0 | exact hz1 | exact hz2 | exact hz3)); exact rfl); (apply so_ex; (apply ex_rem; (exact ev_); ((exact Ev.const)); (first | assumption | decide | omega); (first | assumption | exact rfl)); exact rfl); (refine se_ (ex_eql_f ev_ .const om_) ?_); refine sn_ ?_; (refine cf_ ?_); (apply sc_skip); (apply nm_then); (apply sc_region); (refine mv_ ?_); (refine mv_ ?_); (refine mv_ ?_); (refine mv_ ?_))
          (apply so_call; (exact Ev.func); (focus ((apply EvL.cons; (exact ev_)); (apply EvL.cons; (exact ev_)); (apply EvL.cons; (exact ev_)); (apply EvL.cons; (exact ev_)); exact EvL.nil)); (focus (repeat (first | exact App.nil | apply App.cons))); assumption; (exact edgeR_tri (a := (a : Int)) (b := (b : Int)) (c := (a : Int)) hG); (exact sel_); exact rfl)
          rintro v M1 ⟨rfl, hG2⟩
          ((refine mv_ ?_); (refine mv_ ?_); (refine mv_ ?_); (refine mv_ ?_))
          (apply so_call; (exact Ev.func); (focus ((apply EvL.cons; (exact ev_)); (apply EvL.cons; (exact ev_)); (apply EvL.cons; (exact ev_)); (apply EvL.cons; (exact ev_)); exact EvL.nil)); (focus (repeat (first | exact App.nil | apply App.cons))); assumption; (exact edgeR2_tri hR hC.ok (by omega) (a : Int) (b : Int) (a : Int)); (exact sel_); exact rfl)
          rintro v M2 ⟨rfl, hR2⟩
          obtain ⟨hC2, heq⟩ := hC.edge (by omega) (a : Int) (b : Int)
          rw [← heq (a : Int)]
          ((refine se_ (ex_eql_t ev_ ev_ om_) ?_); (refine asg_ ?_); (apply so_nil); (apply nm_block))
          exact ⟨rfl, K1, K2 + 1, nx, _, _, _, _, bg, by omega, by omega, hnx1, hnx, hG2, hR2, hC2, Ids.edge hids, by rw [edge_most]; exact hmost, at_, at_, at_, at_, at_, at_, at_, held_⟩
      · by_cases hc2 : z3.tmod 2 = 1
        · ((apply sc_block); (apply sc_seq); refine sr_ ?_; (refine se_ (ex_eql_f ev_ .const om_) ?_); (refine asg_ ?_); refine sn_ ?_; (refine cf_ ?_); refine sr_ ?_; (refine se_ (ex_eql_f ev_ .const om_) ?_); (refine asg_ ?_); refine sn_ ?_; (refine cf_ ?_); (apply sc_region); (refine se_ (ex_eql_f ev_ .const om_) ?_); (refine asg_ ?_); refine sn_ ?_; (refine cf_ ?_); (apply sc_seq); refine sr_ ?_; (refine se_ (ex_eql_f ev_ .const om_) ?_); (refine asg_ ?_); refine sn_ ?_; (refine cf_ ?_); refine sr_ ?_; (refine se_ (ex_eql_f ev_ .const om_) ?_); (refine asg_ ?_); refine sn_ ?_; (refine cf_ ?_); refine sr_ ?_; (refine se_ (ex_eql_t ev_ .const om_) ?_); (refine asg_ ?_); refine sn_ ?_; (refine ct_ ?_); (apply sc_skip); (apply nm_then); (refine ct_ ?_); refine sr_ ?_; (refine mv_ ?_); (refine asg_ ?_); refine sn_ ?_; (apply sc_seq); refine sr_ ?_; (refine mv_ ?_); (refine mv_ ?_); (refine se_ (ex_indexAddr ev_ ev_ asm_ asm_ lit_ lt_) ?_); (refine se_ (ex_fieldAddr ev_ asm_) ?_); (apply so_ex; (apply ex_load1r; (exact ev_); assumption; (exact mem_); (first | exact hz0 | exact hz1 | exact hz2 | exact hz3)); exact rfl); (apply so_ex; (apply ex_rem; (exact ev_); ((exact Ev.const)); (first | assumption | decide | omega); (first | assumption | exact rfl)); exact rfl); (refine se_ (ex_eql_t ev_ .const om_) ?_); refine sn_ ?_; (refine ct_ ?_); (apply sc_region); (refine mv_ ?_); (refine asg_ ?_); refine sn_ ?_; (apply sc_region); (refine mv_ ?_); (refine mv_ ?_); (refine mv_ ?_); (refine mv_ ?_))
          (apply so_call; (exact Ev.func); (focus ((apply EvL.cons; (exact ev_)); (apply EvL.cons; (exact ev_)); (apply EvL.cons; (exact ev_)); (apply EvL.cons; (exact ev_)); exact EvL.nil)); (focus (repeat (first | exact App.nil | apply App.cons))); assumption; (exact edgeR_tri (a := (a : Int)) (b := (b : Int)) (c := (b : Int)) hG); (exact sel_); exact rfl)
          rintro v M1 ⟨rfl, hG2⟩
          ((refine mv_ ?_); (refine mv_ ?_); (refine mv_ ?_); (refine mv_ ?_))
          (apply so_call; (exact Ev.func); (focus ((apply EvL.cons; (exact ev_)); (apply EvL.cons; (exact ev_)); (apply EvL.cons; (exact ev_)); (apply EvL.cons; (exact ev_)); exact EvL.nil)); (focus (repeat (first | exact App.nil | apply App.cons))); assumption; (exact edgeR2_tri hR hC.ok (by omega) (a : Int) (b : Int) (b : Int)); (exact sel_); exact rfl)
          rintro v M2 ⟨rfl, hR2⟩
          obtain ⟨hC2, heq⟩ := hC.edge (by omega) (a : Int) (b : Int)
          rw [← heq (b : Int)]
          ((refine se_ (ex_eql_t ev_ ev_ om_) ?_); (refine asg_ ?_); (apply so_nil); (apply nm_block))
          exact ⟨rfl, K1, K2 + 1, nx, _, _, _, _, bg, by omega, by omega, hnx1, hnx, hG2, hR2, hC2, Ids.edge hids, by rw [edge_most]; exact hmost, at_, at_, at_, at_, at_, at_, at_, held_⟩
        · ((apply sc_block); (apply sc_seq); refine sr_ ?_; (refine se_ (ex_eql_f ev_ .const om_) ?_); (refine asg_ ?_); refine sn_ ?_; (refine cf_ ?_); refine sr_ ?_; (refine se_ (ex_eql_f ev_ .const om_) ?_); (refine asg_ ?_); refine sn_ ?_; (refine cf_ ?_); (apply sc_region); (refine se_ (ex_eql_f ev_ .const om_) ?_); (refine asg_ ?_); refine sn_ ?_; (refine cf_ ?_); (apply sc_seq); refine sr_ ?_; (refine se_ (ex_eql_f ev_ .const om_) ?_); (refine asg_ ?_); refine sn_ ?_; (refine cf_ ?_); refine sr_ ?_; (refine se_ (ex_eql_f ev_ .const om_) ?_); (refine asg_ ?_); refine sn_ ?_; (refine cf_ ?_); refine sr_ ?_; (refine se_ (ex_eql_t ev_ .const om_) ?_); (refine asg_ ?_); refine sn_ ?_; (refine ct_ ?_); (apply sc_skip); (apply nm_then); (refine ct_ ?_); refine sr_ ?_; (refine mv_ ?_); (refine asg_ ?_); refine sn_ ?_; (apply sc_seq); refine sr_ ?_; (refine mv_ ?_); (refine mv_ ?_); (refine se_ (ex_indexAddr ev_ ev_ asm_ asm_ lit_ lt_) ?_); (refine se_ (ex_fieldAddr ev_ asm_) ?_); (apply so_ex; (apply ex_load1r; (exact ev_); assumption; (exact mem_); (first | exact hz0 | exact hz1 | exact hz2 | exact hz3)); exact rfl); (apply so_ex; (apply ex_rem; (exact ev_); ((exact Ev.const)); (first | assumption | decide | omega); (first | assumption | exact rfl)); exact rfl); (refine se_ (ex_eql_f ev_ .const om_) ?_); refine sn_ ?_; (refine cf_ ?_); (apply sc_skip); (apply nm_then); (apply sc_region); (refine mv_ ?_); (refine mv_ ?_); (refine mv_ ?_); (refine mv_ ?_))
          (apply so_call; (exact Ev.func); (focus ((apply EvL.cons; (exact ev_)); (apply EvL.cons; (exact ev_)); (apply EvL.cons; (exact ev_)); (apply EvL.cons; (exact ev_)); exact EvL.nil)); (focus (repeat (first | exact App.nil | apply App.cons))); assumption; (exact edgeR_tri (a := (a : Int)) (b := (b : Int)) (c := (a : Int)) hG); (exact sel_); exact rfl)
          rintro v M1 ⟨rfl, hG2⟩
          ((refine mv_ ?_); (refine mv_ ?_); (refine mv_ ?_); (refine mv_ ?_))
          (apply so_call; (exact Ev.func); (focus ((apply EvL.cons; (exact ev_)); (apply EvL.cons; (exact ev_)); (apply EvL.cons; (exact ev_)); (apply EvL.cons; (exact ev_)); exact EvL.nil)); (focus (repeat (first | exact App.nil | apply App.cons))); assumption; (exact edgeR2_tri hR hC.ok (by omega) (a : Int) (b : Int) (a : Int)); (exact sel_); exact rfl)
          rintro v M2 ⟨rfl, hR2⟩
          obtain ⟨hC2, heq⟩ := hC.edge (by omega) (a : Int) (b : Int)
          rw [← heq (a : Int)]
          ((refine se_ (ex_eql_t ev_ ev_ om_) ?_); (refine asg_ ?_); (apply so_nil); (apply nm_block))
          exact ⟨rfl, K1, K2 + 1, nx, _, _, _, _, bg, by omega, by omega, hnx1, hnx, hG2, hR2, hC2, Ids.edge hids, by rw [edge_most]; exact hmost, at_, at_, at_, at_, at_, at_, at_, held_⟩
      · by_cases hc2 : z3.tmod 2 = 1
        · ((apply sc_block); (apply sc_seq); refine sr_ ?_; (refine se_ (ex_eql_f ev_ .const om_) ?_); (refine asg_ ?_); refine sn_ ?_; (refine cf_ ?_); refine sr_ ?_; (refine se_ (ex_eql_f ev_ .const om_) ?_); (refine asg_ ?_); refine sn_ ?_; (refine cf_ ?_); (apply sc_region); (refine se_ (ex_eql_f ev_ .const om_) ?_); (refine asg_ ?_); refine sn_ ?_; (refine cf_ ?_); (apply sc_seq); refine sr_ ?_; (refine se_ (ex_eql_f ev_ .const om_) ?_); (refine asg_ ?_); refine sn_ ?_; (refine cf_ ?_); refine sr_ ?_; (refine se_ (ex_eql_f ev_ .const om_) ?_); (refine asg_ ?_); refine sn_ ?_; (refine cf_ ?_); refine sr_ ?_; (refine se_ (ex_eql_f ev_ .const om_) ?_); (refine asg_ ?_); refine sn_ ?_; (refine cf_ ?_); (apply sc_region); (refine se_ (ex_eql_t ev_ .const om_) ?_); (refine asg_ ?_); refine sn_ ?_; (refine ct_ ?_); refine sr_ ?_; (refine mv_ ?_); (refine asg_ ?_); refine sn_ ?_; (apply sc_seq); refine sr_ ?_; (refine mv_ ?_); (refine mv_ ?_); (refine se_ (ex_indexAddr ev_ ev_ asm_ asm_ lit_ lt_) ?_); (refine se_ (ex_fieldAddr ev_ asm_) ?_); (apply so_ex; (apply ex_load1r; (exact ev_); assumption; (exact mem_); (first | exact hz0 | exact hz1 | exact hz2 | exact hz3)); exact rfl); (apply so_ex; (apply ex_rem; (exact ev_); ((exact Ev.const)); (first | assumption | decide | omega); (first | assumption | exact rfl)); exact rfl); (refine se_ (ex_eql_t ev_ .const om_) ?_); refine sn_ ?_; (refine ct_ ?_); (apply sc_region); (refine mv_ ?_); (refine asg_ ?_); refine sn_ ?_; (apply sc_region); (refine mv_ ?_); (refine mv_ ?_); (refine mv_ ?_); (refine mv_ ?_))
          (apply so_call; (exact Ev.func); (focus ((apply EvL.cons; (exact ev_)); (apply EvL.cons; (exact ev_)); (apply EvL.cons; (exact ev_)); (apply EvL.cons; (exact ev_)); exact EvL.nil)); (focus (repeat (first | exact App.nil | apply App.cons))); assumption; (exact edgeR_tri (a := (a : Int)) (b := (b : Int)) (c := (b : Int)) hG); (exact sel_); exact rfl)
          rintro v M1 ⟨rfl, hG2⟩
          ((refine mv_ ?_); (refine mv_ ?_); (refine mv_ ?_); (refine mv_ ?_))
          (apply so_call; (exact Ev.func); (focus ((apply EvL.cons; (exact ev_)); (apply EvL.cons; (exact ev_)); (apply EvL.cons; (exact ev_)); (apply EvL.cons; (exact ev_)); exact EvL.nil)); (focus (repeat (first | exact App.nil | apply App.cons))); assumption; (exact edgeR2_tri hR hC.ok (by omega) (a : Int) (b : Int) (b : Int)); (exact sel_); exact rfl)
          rintro v M2 ⟨rfl, hR2⟩
          obtain ⟨hC2, heq⟩ := hC.edge (by omega) (a : Int) (b : Int)
          rw [← heq (b : Int)]
          ((refine se_ (ex_eql_t ev_ ev_ om_) ?_); (refine asg_ ?_); (apply so_nil); (apply nm_block))
          exact ⟨rfl, K1, K2 + 1, nx, _, _, _, _, bg, by omega, by omega, hnx1, hnx, hG2, hR2, hC2, Ids.edge hids, by rw [edge_most]; exact hmost, at_, at_, at_, at_, at_, at_, at_, held_⟩
        · ((apply sc_block); (apply sc_seq); refine sr_ ?_; (refine se_ (ex_eql_f ev_ .const om_) ?_); (refine asg_ ?_); refine sn_ ?_; (refine cf_ ?_); refine sr_ ?_; (refine se_ (ex_eql_f ev_ .const om_) ?_); (refine asg_ ?_); refine sn_ ?_; (refine cf_ ?_); (apply sc_region); (refine se_ (ex_eql_f ev_ .const om_) ?_); (refine asg_ ?_); refine sn_ ?_; (refine cf_ ?_); (apply sc_seq); refine sr_ ?_; (refine se_ (ex_eql_f ev_ .const om_) ?_); (refine asg_ ?_); refine sn_ ?_; (refine cf_ ?_); refine sr_ ?_; (refine se_ (ex_eql_f ev_ .const om_) ?_); (refine asg_ ?_); refine sn_ ?_; (refine cf_ ?_); refine sr_ ?_; (refine se_ (ex_eql_f ev_ .const om_) ?_); (refine asg_ ?_); refine sn_ ?_; (refine cf_ ?_); (apply sc_region); (refine se_ (ex_eql_t ev_ .const om_) ?_); (refine asg_ ?_); refine sn_ ?_; (refine ct_ ?_); refine sr_ ?_; (refine mv_ ?_); (refine asg_ ?_); refine sn_ ?_; (apply sc_seq); refine sr_ ?_; (refine mv_ ?_); (refine mv_ ?_); (refine se_ (ex_indexAddr ev_ ev_ asm_ asm_ lit_ lt_) ?_); (refine se_ (ex_fieldAddr ev_ asm_) ?_); (apply so_ex; (apply ex_load1r; (exact ev_); assumption; (exact mem_); (first | exact hz0 | exact hz1 | exact hz2 | exact hz3)); exact rfl); (apply so_ex; (apply ex_rem; (exact ev_); ((exact Ev.const)); (first | assumption | decide | omega); (first | assumption | exact rfl)); exact rfl); (refine se_ (ex_eql_f ev_ .const om_) ?_); refine sn_ ?_; (refine cf_ ?_); (apply sc_skip); (apply nm_then); (apply sc_region); (refine mv_ ?_); (refine mv_ ?_); (refine mv_ ?_); (refine mv_ ?_))
          (apply so_call; (exact Ev.func); (focus ((apply EvL.cons; (exact ev_)); (apply EvL.cons; (exact ev_)); (apply EvL.cons; (exact ev_)); (apply EvL.cons; (exact ev_)); exact EvL.nil)); (focus (repeat (first | exact App.nil | apply App.cons))); assumption; (exact edgeR_tri (a := (a : Int)) (b := (b : Int)) (c := (a : Int)) hG); (exact sel_); exact rfl)
          rintro v M1 ⟨rfl, hG2⟩
          ((refine mv_ ?_); (refine mv_ ?_); (refine mv_ ?_); (refine mv_ ?_))
          (apply so_call; (exact Ev.func); (focus ((apply EvL.cons; (exact ev_)); (apply EvL.cons; (exact ev_)); (apply EvL.cons; (exact ev_)); (apply EvL.cons; (exact ev_)); exact EvL.nil)); (focus (repeat (first | exact App.nil | apply App.cons))); assumption; (exact edgeR2_tri hR hC.ok (by omega) (a : Int) (b : Int) (a : Int)); (exact sel_); exact rfl)
          rintro v M2 ⟨rfl, hR2⟩
          obtain ⟨hC2, heq⟩ := hC.edge (by omega) (a : Int) (b : Int)
          rw [← heq (a : Int)]
          ((refine se_ (ex_eql_t ev_ ev_ om_) ?_); (refine asg_ ?_); (apply so_nil); (apply nm_block))
          exact ⟨rfl, K1, K2 + 1, nx, _, _, _, _, bg, by omega, by omega, hnx1, hnx, hG2, hR2, hC2, Ids.edge hids, by rw [edge_most]; exact hmost, at_, at_, at_, at_, at_, at_, at_, held_⟩
      · ((apply sc_block); (apply sc_seq); refine sr_ ?_; (refine se_ (ex_eql_f ev_ .const om_) ?_); (refine asg_ ?_); refine sn_ ?_; (refine cf_ ?_); refine sr_ ?_; (refine se_ (ex_eql_f ev_ .const om_) ?_); (refine asg_ ?_); refine sn_ ?_; (refine cf_ ?_); (apply sc_region); (refine se_ (ex_eql_f ev_ .const om_) ?_); (refine asg_ ?_); refine sn_ ?_; (refine cf_ ?_); (apply sc_seq); refine sr_ ?_; (refine se_ (ex_eql_f ev_ .const om_) ?_); (refine asg_ ?_); refine sn_ ?_; (refine cf_ ?_); refine sr_ ?_; (refine se_ (ex_eql_f ev_ .const om_) ?_); (refine asg_ ?_); refine sn_ ?_; (refine cf_ ?_); refine sr_ ?_; (refine se_ (ex_eql_f ev_ .const om_) ?_); (refine asg_ ?_); refine sn_ ?_; (refine cf_ ?_); (apply sc_region); (refine se_ (ex_eql_f ev_ .const om_) ?_); (refine asg_ ?_); refine sn_ ?_; (refine cf_ ?_); (apply sc_seq); refine sr_ ?_; (refine se_ (ex_eql_t ev_ .const om_) ?_); (refine asg_ ?_); refine sn_ ?_; (refine ct_ ?_); (apply sc_skip); (apply nm_then); (refine ct_ ?_); (apply sc_region); (refine mv_ ?_); (refine mv_ ?_))
        (apply so_call; (exact Ev.func); (focus ((apply EvL.cons; (exact ev_)); (apply EvL.cons; (exact ev_)); exact EvL.nil)); (focus (repeat (first | exact App.nil | apply App.cons))); assumption; (exact checkR_tri (a := (a : Int)) hG); (exact sel_); exact rfl)
        rintro v M1 ⟨rfl, hG2⟩
        ((refine mv_ ?_); (refine mv_ ?_))
        (apply so_call; (exact Ev.func); (focus ((apply EvL.cons; (exact ev_)); (apply EvL.cons; (exact ev_)); exact EvL.nil)); (focus (repeat (first | exact App.nil | apply App.cons))); assumption; (exact checkR2_tri hR hC.ok (a : Int)); (exact sel_); exact rfl)
        rintro v M2 ⟨rfl, hR2⟩
        obtain ⟨hC2, heq⟩ := hC.check (a : Int)
        rw [← heq]
        ((refine se_ (ex_eql_t ev_ ev_ om_) ?_); (refine asg_ ?_); (apply so_nil); (apply nm_block))
        exact ⟨rfl, K1, K2, nx, _, _, _, _, bg, by omega, by omega, hnx1, hnx, hG2, hR2, hC2, Ids.check hids, by rw [check_most]; exact hmost, at_, at_, at_, at_, at_, at_, at_, held_⟩
      · ((apply sc_block); (apply sc_seq); refine sr_ ?_; (refine se_ (ex_eql_f ev_ .const om_) ?_); (refine asg_ ?_); refine sn_ ?_; (refine cf_ ?_); refine sr_ ?_; (refine se_ (ex_eql_f ev_ .const om_) ?_); (refine asg_ ?_); refine sn_ ?_; (refine cf_ ?_); (apply sc_region); (refine se_ (ex_eql_f ev_ .const om_) ?_); (refine asg_ ?_); refine sn_ ?_; (refine cf_ ?_); (apply sc_seq); refine sr_ ?_; (refine se_ (ex_eql_f ev_ .const om_) ?_); (refine asg_ ?_); refine sn_ ?_; (refine cf_ ?_); refine sr_ ?_; (refine se_ (ex_eql_f ev_ .const om_) ?_); (refine asg_ ?_); refine sn_ ?_; (refine cf_ ?_); refine sr_ ?_; (refine se_ (ex_eql_f ev_ .const om_) ?_); (refine asg_ ?_); refine sn_ ?_; (refine cf_ ?_); (apply sc_region); (refine se_ (ex_eql_f ev_ .const om_) ?_); (refine asg_ ?_); refine sn_ ?_; (refine cf_ ?_); (apply sc_seq); refine sr_ ?_; (refine se_ (ex_eql_f ev_ .const om_) ?_); (refine asg_ ?_); refine sn_ ?_; (refine cf_ ?_); (apply sc_region); (refine se_ (ex_eql_t ev_ .const om_) ?_); (refine asg_ ?_); refine sn_ ?_; (refine ct_ ?_); (apply sc_region); (refine mv_ ?_); (refine mv_ ?_))
        (apply so_call; (exact Ev.func); (focus ((apply EvL.cons; (exact ev_)); (apply EvL.cons; (exact ev_)); exact EvL.nil)); (focus (repeat (first | exact App.nil | apply App.cons))); assumption; (exact checkR_tri (a := (a : Int)) hG); (exact sel_); exact rfl)
        rintro v M1 ⟨rfl, hG2⟩
        ((refine mv_ ?_); (refine mv_ ?_))
        (apply so_call; (exact Ev.func); (focus ((apply EvL.cons; (exact ev_)); (apply EvL.cons; (exact ev_)); exact EvL.nil)); (focus (repeat (first | exact App.nil | apply App.cons))); assumption; (exact checkR2_tri hR hC.ok (a : Int)); (exact sel_); exact rfl)
        rintro v M2 ⟨rfl, hR2⟩
        obtain ⟨hC2, heq⟩ := hC.check (a : Int)
        rw [← heq]
        ((refine se_ (ex_eql_t ev_ ev_ om_) ?_); (refine asg_ ?_); (apply so_nil); (apply nm_block))
        exact ⟨rfl, K1, K2, nx, _, _, _, _, bg, by omega, by omega, hnx1, hnx, hG2, hR2, hC2, Ids.check hids, by rw [check_most]; exact hmost, at_, at_, at_, at_, at_, at_, at_, held_⟩
      · ((apply sc_block); (apply sc_seq); refine sr_ ?_; (refine se_ (ex_eql_f ev_ .const om_) ?_); (refine asg_ ?_); refine sn_ ?_; (refine cf_ ?_); refine sr_ ?_; (refine se_ (ex_eql_f ev_ .const om_) ?_); (refine asg_ ?_); refine sn_ ?_; (refine cf_ ?_); (apply sc_region); (refine se_ (ex_eql_f ev_ .const om_) ?_); (refine asg_ ?_); refine sn_ ?_; (refine cf_ ?_); (apply sc_seq); refine sr_ ?_; (refine se_ (ex_eql_f ev_ .const om_) ?_); (refine asg_ ?_); refine sn_ ?_; (refine cf_ ?_); refine sr_ ?_; (refine se_ (ex_eql_f ev_ .const om_) ?_); (refine asg_ ?_); refine sn_ ?_; (refine cf_ ?_); refine sr_ ?_; (refine se_ (ex_eql_f ev_ .const om_) ?_); (refine asg_ ?_); refine sn_ ?_; (refine cf_ ?_); (apply sc_region); (refine se_ (ex_eql_f ev_ .const om_) ?_); (refine asg_ ?_); refine sn_ ?_; (refine cf_ ?_); (apply sc_seq); refine sr_ ?_; (refine se_ (ex_eql_f ev_ .const om_) ?_); (refine asg_ ?_); refine sn_ ?_; (refine cf_ ?_); (apply sc_region); (refine se_ (ex_eql_f ev_ .const om_) ?_); (refine asg_ ?_); refine sn_ ?_; (refine cf_ ?_); refine sr_ ?_; (refine se_ (ex_eql_t ev_ .const om_) ?_); (refine asg_ ?_); refine sn_ ?_; (refine ct_ ?_); refine sr_ ?_; (refine mv_ ?_); (refine mv_ ?_))
        (apply so_call; (exact Ev.func); (focus ((apply EvL.cons; (exact ev_)); (apply EvL.cons; (exact ev_)); exact EvL.nil)); (focus (repeat (first | exact App.nil | apply App.cons))); assumption; (exact commitR_tri (a := (a : Int)) hG (by omega)); (exact sel_); exact rfl)
        rintro v M1 ⟨rfl, hG2⟩
        (refine sn_ ?_; (apply sc_region); (refine mv_ ?_); (refine mv_ ?_))
        (apply so_call; (exact Ev.func); (focus ((apply EvL.cons; (exact ev_)); (apply EvL.cons; (exact ev_)); exact EvL.nil)); (focus (repeat (first | exact App.nil | apply App.cons))); assumption; (exact commR_tri hR hC.ok.nd (by omega) (a : Int)); (exact sel_); exact rfl)
        rintro v M2 ⟨rfl, hR2⟩
        have hC2 := hC.commit (by omega) (a : Int)
        ((apply so_nil); (apply nm_block))
        exact ⟨rfl, K1 + 1, K2 + 1, nx, _, _, _, _, bg, by omega, by omega, hnx1, hnx, hG2, hR2, hC2, Ids.commit hids, by rw [commit_most]; exact hmost, at_, at_, at_, at_, at_, at_, at_, held_⟩
      · ((apply sc_block); (apply sc_seq); refine sr_ ?_; (refine se_ (ex_eql_f ev_ .const om_) ?_); (refine asg_ ?_); refine sn_ ?_; (refine cf_ ?_); refine sr_ ?_; (refine se_ (ex_eql_f ev_ .const om_) ?_); (refine asg_ ?_); refine sn_ ?_; (refine cf_ ?_); (apply sc_region); (refine se_ (ex_eql_f ev_ .const om_) ?_); (refine asg_ ?_); refine sn_ ?_; (refine cf_ ?_); (apply sc_seq); refine sr_ ?_; (refine se_ (ex_eql_f ev_ .const om_) ?_); (refine asg_ ?_); refine sn_ ?_; (refine cf_ ?_); refine sr_ ?_; (refine se_ (ex_eql_f ev_ .const om_) ?_); (refine asg_ ?_); refine sn_ ?_; (refine cf_ ?_); refine sr_ ?_; (refine se_ (ex_eql_f ev_ .const om_) ?_); (refine asg_ ?_); refine sn_ ?_; (refine cf_ ?_); (apply sc_region); (refine se_ (ex_eql_f ev_ .const om_) ?_); (refine asg_ ?_); refine sn_ ?_; (refine cf_ ?_); (apply sc_seq); refine sr_ ?_; (refine se_ (ex_eql_f ev_ .const om_) ?_); (refine asg_ ?_); refine sn_ ?_; (refine cf_ ?_); (apply sc_region); (refine se_ (ex_eql_f ev_ .const om_) ?_); (refine asg_ ?_); refine sn_ ?_; (refine cf_ ?_); refine sr_ ?_; (refine se_ (ex_eql_f ev_ .const om_) ?_); (refine asg_ ?_); refine sn_ ?_; (refine cf_ ?_); refine sr_ ?_; (refine se_ (ex_eql_t ev_ .const om_) ?_); (refine asg_ ?_); refine sn_ ?_; (refine ct_ ?_); refine sr_ ?_; (refine mv_ ?_); (refine mv_ ?_))
        (apply so_call; (exact Ev.func); (focus ((apply EvL.cons; (exact ev_)); (apply EvL.cons; (exact ev_)); exact EvL.nil)); (focus (repeat (first | exact App.nil | apply App.cons))); assumption; (exact abortR_tri (a := (a : Int)) hG); (exact sel_); exact rfl)
        rintro v M1 ⟨rfl, hG2⟩
        (refine sn_ ?_; (apply sc_region); (refine mv_ ?_); (refine mv_ ?_))
        (apply so_call; (exact Ev.func); (focus ((apply EvL.cons; (exact ev_)); (apply EvL.cons; (exact ev_)); exact EvL.nil)); (focus (repeat (first | exact App.nil | apply App.cons))); assumption; (exact abortR2_tri hR hC.ok.nd (a : Int)); (exact sel_); exact rfl)
        rintro v M2 ⟨rfl, hR2⟩
        have hC2 := hC.abort (by omega) (a : Int)
        ((apply so_nil); (apply nm_block))
        exact ⟨rfl, K1, K2, nx, _, _, _, _, bg, by omega, by omega, hnx1, hnx, hG2, hR2, hC2, Ids.abort hids, by rw [abort_most]; exact hmost, at_, at_, at_, at_, at_, at_, at_, held_⟩
      · -- Begin again, or Prepare
        have hprep : True := trivial
        obtain ⟨ol, cll, oe, ce, sv, BL, BE, BB, rfl, hB⟩ := id hR
        have hat := at_tri (p := qr) (cl := cll) (ve := .slice oe r.E.length ce) (n := r.n) (row_tx hB.l (BE ++ BB)) (by have := hB.sl; omega) (a : Int)
        simp only [hdr, List.cons_append, List.append_assoc] at hat hR ⊢
        cases hf : findR r.L (a : Int) with
        | none =>
          rw [atV_none hf] at hat
          ((apply sc_block); (apply sc_seq); refine sr_ ?_; (refine se_ (ex_eql_f ev_ .const om_) ?_); (refine asg_ ?_); refine sn_ ?_; (refine cf_ ?_); refine sr_ ?_; (refine se_ (ex_eql_f ev_ .const om_) ?_); (refine asg_ ?_); refine sn_ ?_; (refine cf_ ?_); (apply sc_region); (refine se_ (ex_eql_f ev_ .const om_) ?_); (refine asg_ ?_); refine sn_ ?_; (refine cf_ ?_); (apply sc_seq); refine sr_ ?_; (refine se_ (ex_eql_f ev_ .const om_) ?_); (refine asg_ ?_); refine sn_ ?_; (refine cf_ ?_); refine sr_ ?_; (refine se_ (ex_eql_f ev_ .const om_) ?_); (refine asg_ ?_); refine sn_ ?_; (refine cf_ ?_); refine sr_ ?_; (refine se_ (ex_eql_f ev_ .const om_) ?_); (refine asg_ ?_); refine sn_ ?_; (refine cf_ ?_); (apply sc_region); (refine se_ (ex_eql_f ev_ .const om_) ?_); (refine asg_ ?_); refine sn_ ?_; (refine cf_ ?_); (apply sc_seq); refine sr_ ?_; (refine se_ (ex_eql_f ev_ .const om_) ?_); (refine asg_ ?_); refine sn_ ?_; (refine cf_ ?_); (apply sc_region); (refine se_ (ex_eql_f ev_ .const om_) ?_); (refine asg_ ?_); refine sn_ ?_; (refine cf_ ?_); refine sr_ ?_; (refine se_ (ex_eql_f ev_ .const om_) ?_); (refine asg_ ?_); refine sn_ ?_; (refine cf_ ?_); refine sr_ ?_; (refine se_ (ex_eql_f ev_ .const om_) ?_); (refine asg_ ?_); refine sn_ ?_; (refine cf_ ?_); refine sr_ ?_; (refine mv_ ?_); (refine mv_ ?_); (apply so_callq; (exact Ev.func); (focus ((apply EvL.cons; (exact ev_)); (apply EvL.cons; (exact ev_)); exact EvL.nil)); (focus (repeat (first | exact App.nil | apply App.cons))); assumption; exact hat; (exact sel_); exact rfl); (refine asg_ ?_); refine sn_ ?_; refine sr_ ?_; (refine mv_ ?_); (refine se_ (ex_geq_f ev_ .const om_) ?_); (refine mv_ ?_); (refine sk_ ?_); (refine sk_ ?_); (refine sk_ ?_); (refine sk_ ?_); (refine sk_ ?_); (refine sk_ ?_); (refine sk_ ?_); (refine sk_ ?_); (refine sk_ ?_); (refine se_ (ex_pick_f ev_ .const) ?_); (refine mv_ ?_); (refine sk_ ?_); (refine sk_ ?_); (refine sk_ ?_); (refine sk_ ?_); (refine sk_ ?_); (refine sk_ ?_); (refine sk_ ?_); (refine se_ (ex_pick_f ev_ .const) ?_); refine sn_ ?_; (refine cf_ ?_); refine sr_ ?_; (refine mv_ ?_); (refine mv_ ?_))
          (apply so_call; (exact Ev.func); (focus ((apply EvL.cons; (exact ev_)); (apply EvL.cons; (exact ev_)); exact EvL.nil)); (focus (repeat (first | exact App.nil | apply App.cons))); assumption; (exact prepR1_tri (a := (a : Int)) hG); (exact sel_); exact rfl)
          rintro v M1 ⟨rfl, hG2⟩
          (refine sn_ ?_; (apply sc_region); (refine mv_ ?_); (refine mv_ ?_))
          (apply so_call; (exact Ev.func); (focus ((apply EvL.cons; (exact ev_)); (apply EvL.cons; (exact ev_)); exact EvL.nil)); (focus (repeat (first | exact App.nil | apply App.cons))); assumption; (exact prepR_tri hR hC.ok.nd (a : Int)); (exact sel_); exact rfl)
          rintro v M2 ⟨rfl, hR2⟩
          have hC2 := hC.prep (a : Int)
          ((apply so_nil); (apply nm_block))
          exact ⟨rfl, K1, K2, nx, _, _, _, _, bg, by omega, by omega, hnx1, hnx, hG2, hR2, hC2, Ids.prep hids, by rw [prep_most]; exact hmost, at_, at_, at_, at_, at_, at_, at_, held_⟩
        | some x =>
          obtain ⟨ix, hix, hxe, hv⟩ := atV_some hf
          rw [hv] at hat
          obtain ⟨bL, junk, ho, rfl, hl, hj⟩ := row_open hB.l (by omega)
          subst ho
          obtain ⟨_, _, x2, _⟩ := t_cells (sv := sv) junk hix hxe
          simp only [List.cons_append, List.nil_append] at hat hR ⊢
          by_cases hs : x.st = 1
          · by_cases hc2 : z3.tmod 2 = 0
            · ((apply sc_block); (apply sc_seq); (apply sc_seq); ((fail_if_success (apply sc_region (id := 12))); apply sc_region); (refine se_ (ex_eql_f ev_ .const om_) ?_); (refine asg_ ?_); refine sn_ ?_; (refine cf_ ?_); (apply sc_seq); ((fail_if_success (apply sc_region (id := 12))); apply sc_region); (refine se_ (ex_eql_f ev_ .const om_) ?_); (refine asg_ ?_); refine sn_ ?_; (refine cf_ ?_); ((fail_if_success (apply sc_region (id := 12))); apply sc_region); (refine se_ (ex_eql_f ev_ .const om_) ?_); (refine asg_ ?_); refine sn_ ?_; (refine cf_ ?_); (apply sc_seq); (apply sc_seq); ((fail_if_success (apply sc_region (id := 12))); apply sc_region); (refine se_ (ex_eql_f ev_ .const om_) ?_); (refine asg_ ?_); refine sn_ ?_; (refine cf_ ?_); (apply sc_seq); ((fail_if_success (apply sc_region (id := 12))); apply sc_region); (refine se_ (ex_eql_f ev_ .const om_) ?_); (refine asg_ ?_); refine sn_ ?_; (refine cf_ ?_); (apply sc_seq); ((fail_if_success (apply sc_region (id := 12))); apply sc_region); (refine se_ (ex_eql_f ev_ .const om_) ?_); (refine asg_ ?_); refine sn_ ?_; (refine cf_ ?_); ((fail_if_success (apply sc_region (id := 12))); apply sc_region); (refine se_ (ex_eql_f ev_ .const om_) ?_); (refine asg_ ?_); refine sn_ ?_; (refine cf_ ?_); (apply sc_seq); (apply sc_seq); ((fail_if_success (apply sc_region (id := 12))); apply sc_region); (refine se_ (ex_eql_f ev_ .const om_) ?_); (refine asg_ ?_); refine sn_ ?_; (refine cf_ ?_); ((fail_if_success (apply sc_region (id := 12))); apply sc_region); (refine se_ (ex_eql_f ev_ .const om_) ?_); (refine asg_ ?_); refine sn_ ?_; (refine cf_ ?_); (apply sc_seq); ((fail_if_success (apply sc_region (id := 12))); apply sc_region); (refine se_ (ex_eql_f ev_ .const om_) ?_); (refine asg_ ?_); refine sn_ ?_; (refine cf_ ?_); (apply sc_seq); ((fail_if_success (apply sc_region (id := 12))); apply sc_region); (refine se_ (ex_eql_f ev_ .const om_) ?_); (refine asg_ ?_); refine sn_ ?_; (refine cf_ ?_); (apply sc_seq); ((fail_if_success (apply sc_region (id := 12))); apply sc_region); (refine mv_ ?_); (refine mv_ ?_); (apply so_callq; (exact Ev.func); (focus ((apply EvL.cons; (exact ev_)); (apply EvL.cons; (exact ev_)); exact EvL.nil)); (focus (repeat (first | exact App.nil | apply App.cons))); assumption; exact hat; (exact sel_); exact rfl); (refine asg_ ?_); refine sn_ ?_; (apply sc_seq); ((fail_if_success (apply sc_region (id := 12))); apply sc_region); (refine mv_ ?_); (refine se_ (ex_geq_t ev_ .const om_) ?_); (refine mv_ ?_); (refine wt_ ?_); (refine mv_ ?_); (refine wt_ ?_); (refine se_ (ex_nilCheck ev_) ?_); (refine wt_ ?_); (refine se_ (ex_fieldAddr ev_ asm_) ?_); (refine wt_ ?_); (refine se_ (ex_load1 ev_ asm_ mem_ nth_) ?_); (refine wt_ ?_); (refine mv_ ?_); (refine wt_ ?_); (refine se_ (ex_indexAddr ev_ ev_ asm_ asm_ lit_ lt_) ?_); (refine wt_ ?_); (refine se_ (ex_fieldAddr ev_ asm_) ?_); (refine wt_ ?_); (apply so_ex; (apply ex_load1r; (exact ev_); assumption; (exact mem_); (first | exact hz0 | exact hz1 | exact hz2 | exact hz3 | exact x2)); exact rfl); (refine wt_ ?_); (refine se_ (ex_eql_t ev_ .const om_) ?_); (refine se_ (ex_pick_t ev_ ev_) ?_); (refine mv_ ?_); (refine wt_ ?_); (refine mv_ ?_); (refine wt_ ?_); (refine mv_ ?_); (refine wt_ ?_); (refine se_ (ex_indexAddr ev_ ev_ asm_ asm_ lit_ lt_) ?_); (refine wt_ ?_); (refine se_ (ex_fieldAddr ev_ asm_) ?_); (refine wt_ ?_); (apply so_ex; (apply ex_load1r; (exact ev_); assumption; (exact mem_); (first | exact hz0 | exact hz1 | exact hz2 | exact hz3 | exact x2)); exact rfl); (refine wt_ ?_); (apply so_ex; (apply ex_rem; (exact ev_); ((exact Ev.const)); (first | assumption | decide | omega); (first | assumption | exact rfl)); exact rfl); (refine wt_ ?_); (refine se_ (ex_eql_t ev_ .const om_) ?_); (refine se_ (ex_pick_t ev_ ev_) ?_); refine sn_ ?_; (refine ct_ ?_); (apply sc_seq))
              ((apply sc_region); (refine mv_ ?_); (refine mv_ ?_); (refine mv_ ?_); (refine mv_ ?_); (refine se_ (ex_indexAddr ev_ ev_ asm_ asm_ lit_ lt_) ?_); (refine se_ (ex_fieldAddr ev_ asm_) ?_); (apply so_ex; (apply ex_load1r; (exact ev_); assumption; (exact mem_); (first | exact hz0 | exact hz1 | exact hz2 | exact hz3 | exact x2)); exact rfl); (apply so_ex; (apply ex_rem; (exact ev_); ((exact Ev.const)); (first | assumption | decide | omega); (first | assumption | exact rfl)); exact rfl); (refine se_ (ex_eql ev_ .const) ?_))
              (apply so_call; (exact Ev.func); (focus ((apply EvL.cons; (exact ev_)); (apply EvL.cons; (exact ev_)); (apply EvL.cons; (exact ev_)); exact EvL.nil)); (focus (repeat (first | exact App.nil | apply App.cons))); assumption; (exact beginR_tri (tx := (a : Int)) (ro := decide (z3.tmod 4 = 0)) hG (by omega)); (exact sel_); exact rfl)
              rintro v M1 ⟨rfl, hG2⟩
              (refine sn_ ?_; (apply sc_region); (refine mv_ ?_); (refine mv_ ?_); (refine mv_ ?_); (refine mv_ ?_); (refine se_ (ex_indexAddr ev_ ev_ asm_ asm_ lit_ lt_) ?_); (refine se_ (ex_fieldAddr ev_ asm_) ?_); (apply so_ex; (apply ex_load1r; (exact ev_); assumption; (exact mem_); (first | exact hz0 | exact hz1 | exact hz2 | exact hz3 | exact x2)); exact rfl); (apply so_ex; (apply ex_rem; (exact ev_); ((exact Ev.const)); (first | assumption | decide | omega); (first | assumption | exact rfl)); exact rfl); (refine se_ (ex_eql ev_ .const) ?_))
              (apply so_call; (exact Ev.func); (focus ((apply EvL.cons; (exact ev_)); (apply EvL.cons; (exact ev_)); (apply EvL.cons; (exact ev_)); exact EvL.nil)); (focus (repeat (first | exact App.nil | apply App.cons))); assumption; (exact beginR2_tri hR hC.ok (by omega) (a : Int) (decide (z3.tmod 4 = 0))); (exact sel_); exact rfl)
              rintro v M2 ⟨rfl, hR2⟩
              ((apply so_nil); (apply nm_block))
              have hC2 := hC.begin (by omega) (by omega) (a : Int) (decide (z3.tmod 4 = 0)) (fun y e => by rw [hf] at e; injection e with e; rw [← e]; exact hs)
              exact ⟨rfl, K1 + 1, K2 + 1, nx, _, _, _, _, bg, by omega, by omega, hnx1, hnx, hG2, hR2, hC2, Ids.again hids hf, by rw [begin_most]; exact hmost, at_, at_, at_, at_, at_, at_, at_, held_⟩
            · ((apply sc_block); (apply sc_seq); refine sr_ ?_; (refine se_ (ex_eql_f ev_ .const om_) ?_); (refine asg_ ?_); refine sn_ ?_; (refine cf_ ?_); refine sr_ ?_; (refine se_ (ex_eql_f ev_ .const om_) ?_); (refine asg_ ?_); refine sn_ ?_; (refine cf_ ?_); (apply sc_region); (refine se_ (ex_eql_f ev_ .const om_) ?_); (refine asg_ ?_); refine sn_ ?_; (refine cf_ ?_); (apply sc_seq); refine sr_ ?_; (refine se_ (ex_eql_f ev_ .const om_) ?_); (refine asg_ ?_); refine sn_ ?_; (refine cf_ ?_); refine sr_ ?_; (refine se_ (ex_eql_f ev_ .const om_) ?_); (refine asg_ ?_); refine sn_ ?_; (refine cf_ ?_); refine sr_ ?_; (refine se_ (ex_eql_f ev_ .const om_) ?_); (refine asg_ ?_); refine sn_ ?_; (refine cf_ ?_); (apply sc_region); (refine se_ (ex_eql_f ev_ .const om_) ?_); (refine asg_ ?_); refine sn_ ?_; (refine cf_ ?_); (apply sc_seq); refine sr_ ?_; (refine se_ (ex_eql_f ev_ .const om_) ?_); (refine asg_ ?_); refine sn_ ?_; (refine cf_ ?_); (apply sc_region); (refine se_ (ex_eql_f ev_ .const om_) ?_); (refine asg_ ?_); refine sn_ ?_; (refine cf_ ?_); refine sr_ ?_; (refine se_ (ex_eql_f ev_ .const om_) ?_); (refine asg_ ?_); refine sn_ ?_; (refine cf_ ?_); refine sr_ ?_; (refine se_ (ex_eql_f ev_ .const om_) ?_); (refine asg_ ?_); refine sn_ ?_; (refine cf_ ?_); refine sr_ ?_; (refine mv_ ?_); (refine mv_ ?_); (apply so_callq; (exact Ev.func); (focus ((apply EvL.cons; (exact ev_)); (apply EvL.cons; (exact ev_)); exact EvL.nil)); (focus (repeat (first | exact App.nil | apply App.cons))); assumption; exact hat; (exact sel_); exact rfl); (refine asg_ ?_); refine sn_ ?_; refine sr_ ?_; (refine mv_ ?_); (refine se_ (ex_geq_t ev_ .const om_) ?_); (refine mv_ ?_); (refine wt_ ?_); (refine mv_ ?_); (refine wt_ ?_); (refine se_ (ex_nilCheck ev_) ?_); (refine wt_ ?_); (refine se_ (ex_fieldAddr ev_ asm_) ?_); (refine wt_ ?_); (refine se_ (ex_load1 ev_ asm_ mem_ nth_) ?_); (refine wt_ ?_); (refine mv_ ?_); (refine wt_ ?_); (refine se_ (ex_indexAddr ev_ ev_ asm_ asm_ lit_ lt_) ?_); (refine wt_ ?_); (refine se_ (ex_fieldAddr ev_ asm_) ?_); (refine wt_ ?_); (apply so_ex; (apply ex_load1r; (exact ev_); assumption; (exact mem_); (first | exact hz0 | exact hz1 | exact hz2 | exact hz3 | exact x2)); exact rfl); (refine wt_ ?_); (refine se_ (ex_eql_t ev_ .const om_) ?_); (refine se_ (ex_pick_t ev_ ev_) ?_); (refine mv_ ?_); (refine wt_ ?_); (refine mv_ ?_); (refine wt_ ?_); (refine mv_ ?_); (refine wt_ ?_); (refine se_ (ex_indexAddr ev_ ev_ asm_ asm_ lit_ lt_) ?_); (refine wt_ ?_); (refine se_ (ex_fieldAddr ev_ asm_) ?_); (refine wt_ ?_); (apply so_ex; (apply ex_load1r; (exact ev_); assumption; (exact mem_); (first | exact hz0 | exact hz1 | exact hz2 | exact hz3 | exact x2)); exact rfl); (refine wt_ ?_); (apply so_ex; (apply ex_rem; (exact ev_); ((exact Ev.const)); (first | assumption | decide | omega); (first | assumption | exact rfl)); exact rfl); (refine wt_ ?_); (refine se_ (ex_eql_f ev_ .const om_) ?_); (refine se_ (ex_pick_t ev_ ev_) ?_); refine sn_ ?_; (refine cf_ ?_); refine sr_ ?_; (refine mv_ ?_); (refine mv_ ?_))
              (apply so_call; (exact Ev.func); (focus ((apply EvL.cons; (exact ev_)); (apply EvL.cons; (exact ev_)); exact EvL.nil)); (focus (repeat (first | exact App.nil | apply App.cons))); assumption; (exact prepR1_tri (a := (a : Int)) hG); (exact sel_); exact rfl)
              rintro v M1 ⟨rfl, hG2⟩
              (refine sn_ ?_; (apply sc_region); (refine mv_ ?_); (refine mv_ ?_))
              (apply so_call; (exact Ev.func); (focus ((apply EvL.cons; (exact ev_)); (apply EvL.cons; (exact ev_)); exact EvL.nil)); (focus (repeat (first | exact App.nil | apply App.cons))); assumption; (exact prepR_tri hR hC.ok.nd (a : Int)); (exact sel_); exact rfl)
              rintro v M2 ⟨rfl, hR2⟩
              have hC2 := hC.prep (a : Int)
              ((apply so_nil); (apply nm_block))
              exact ⟨rfl, K1, K2, nx, _, _, _, _, bg, by omega, by omega, hnx1, hnx, hG2, hR2, hC2, Ids.prep hids, by rw [prep_most]; exact hmost, at_, at_, at_, at_, at_, at_, at_, held_⟩
          · ((apply sc_block); (apply sc_seq); refine sr_ ?_; (refine se_ (ex_eql_f ev_ .const om_) ?_); (refine asg_ ?_); refine sn_ ?_; (refine cf_ ?_); refine sr_ ?_; (refine se_ (ex_eql_f ev_ .const om_) ?_); (refine asg_ ?_); refine sn_ ?_; (refine cf_ ?_); (apply sc_region); (refine se_ (ex_eql_f ev_ .const om_) ?_); (refine asg_ ?_); refine sn_ ?_; (refine cf_ ?_); (apply sc_seq); refine sr_ ?_; (refine se_ (ex_eql_f ev_ .const om_) ?_); (refine asg_ ?_); refine sn_ ?_; (refine cf_ ?_); refine sr_ ?_; (refine se_ (ex_eql_f ev_ .const om_) ?_); (refine asg_ ?_); refine sn_ ?_; (refine cf_ ?_); refine sr_ ?_; (refine se_ (ex_eql_f ev_ .const om_) ?_); (refine asg_ ?_); refine sn_ ?_; (refine cf_ ?_); (apply sc_region); (refine se_ (ex_eql_f ev_ .const om_) ?_); (refine asg_ ?_); refine sn_ ?_; (refine cf_ ?_); (apply sc_seq); refine sr_ ?_; (refine se_ (ex_eql_f ev_ .const om_) ?_); (refine asg_ ?_); refine sn_ ?_; (refine cf_ ?_); (apply sc_region); (refine se_ (ex_eql_f ev_ .const om_) ?_); (refine asg_ ?_); refine sn_ ?_; (refine cf_ ?_); refine sr_ ?_; (refine se_ (ex_eql_f ev_ .const om_) ?_); (refine asg_ ?_); refine sn_ ?_; (refine cf_ ?_); refine sr_ ?_; (refine se_ (ex_eql_f ev_ .const om_) ?_); (refine asg_ ?_); refine sn_ ?_; (refine cf_ ?_); refine sr_ ?_; (refine mv_ ?_); (refine mv_ ?_); (apply so_callq; (exact Ev.func); (focus ((apply EvL.cons; (exact ev_)); (apply EvL.cons; (exact ev_)); exact EvL.nil)); (focus (repeat (first | exact App.nil | apply App.cons))); assumption; exact hat; (exact sel_); exact rfl); (refine asg_ ?_); refine sn_ ?_; refine sr_ ?_; (refine mv_ ?_); (refine se_ (ex_geq_t ev_ .const om_) ?_); (refine mv_ ?_); (refine wt_ ?_); (refine mv_ ?_); (refine wt_ ?_); (refine se_ (ex_nilCheck ev_) ?_); (refine wt_ ?_); (refine se_ (ex_fieldAddr ev_ asm_) ?_); (refine wt_ ?_); (refine se_ (ex_load1 ev_ asm_ mem_ nth_) ?_); (refine wt_ ?_); (refine mv_ ?_); (refine wt_ ?_); (refine se_ (ex_indexAddr ev_ ev_ asm_ asm_ lit_ lt_) ?_); (refine wt_ ?_); (refine se_ (ex_fieldAddr ev_ asm_) ?_); (refine wt_ ?_); (apply so_ex; (apply ex_load1r; (exact ev_); assumption; (exact mem_); (first | exact hz0 | exact hz1 | exact hz2 | exact hz3 | exact x2)); exact rfl); (refine wt_ ?_); (refine se_ (ex_eql_f ev_ .const om_) ?_); (refine se_ (ex_pick_t ev_ ev_) ?_); (refine mv_ ?_); (refine sk_ ?_); (refine sk_ ?_); (refine sk_ ?_); (refine sk_ ?_); (refine sk_ ?_); (refine sk_ ?_); (refine sk_ ?_); (refine se_ (ex_pick_f ev_ .const) ?_); refine sn_ ?_; (refine cf_ ?_); refine sr_ ?_; (refine mv_ ?_); (refine mv_ ?_))
            (apply so_call; (exact Ev.func); (focus ((apply EvL.cons; (exact ev_)); (apply EvL.cons; (exact ev_)); exact EvL.nil)); (focus (repeat (first | exact App.nil | apply App.cons))); assumption; (exact prepR1_tri (a := (a : Int)) hG); (exact sel_); exact rfl)
            rintro v M1 ⟨rfl, hG2⟩
            (refine sn_ ?_; (apply sc_region); (refine mv_ ?_); (refine mv_ ?_))
            (apply so_call; (exact Ev.func); (focus ((apply EvL.cons; (exact ev_)); (apply EvL.cons; (exact ev_)); exact EvL.nil)); (focus (repeat (first | exact App.nil | apply App.cons))); assumption; (exact prepR_tri hR hC.ok.nd (a : Int)); (exact sel_); exact rfl)
            rintro v M2 ⟨rfl, hR2⟩
            have hC2 := hC.prep (a : Int)
            ((apply so_nil); (apply nm_block))
            exact ⟨rfl, K1, K2, nx, _, _, _, _, bg, by omega, by omega, hnx1, hnx, hG2, hR2, hC2, Ids.prep hids, by rw [prep_most]; exact hmost, at_, at_, at_, at_, at_, at_, at_, held_⟩
    · rintro u f L ⟨rfl, K1', K2', nx', g', r', L1', L2', bg', k1, k2, hnx1', hnx', hG', hR', hC', hids', hmost', a0, a1, a2, a7, a8, a9, a12, ⟨G, hP⟩⟩
      refine nm_then (sc_perm hP ?_)
      simp only [List.cons_append, List.append_assoc]
      have hnb' := hR'.nb
      have hal := alike_tri hG' hR' hC' (by omega)
      have f_i : IntKind.i64.wrap ((i : Int) + 1) = ((i + 1 : Nat) : Int) := by rw [wrap_in (by unfold InI; omega)]; omega
      (refine sr_ ?_; (refine mv_ ?_); (refine se_ (ex_not ev_) ?_); (refine mv_ ?_); (refine wt_ ?_); (refine mv_ ?_); (refine wt_ ?_); (refine mv_ ?_); (refine wt_ ?_); (apply so_callq; (exact Ev.func); (focus ((apply EvL.cons; (exact ev_)); (apply EvL.cons; (exact ev_)); exact EvL.nil)); (focus (repeat (first | exact App.nil | apply App.cons))); assumption; exact hal; (exact sel_); exact rfl); (refine wt_ ?_); (refine se_ (ex_not ev_) ?_); (refine se_ (ex_pick_f ev_ ev_) ?_); refine sn_ ?_; (refine cf_ ?_); (apply sc_skip); (apply nm_block); (apply nm_then); (apply sc_region); (refine mv_ ?_); (refine se_ (ex_add ev_ .const wr_) ?_); (refine asg_ ?_); (apply so_nil); (apply nm_then))
      exact ⟨_, by rw [hk]; omega, i + 1, K1', K2', nx', g', r', L1', L2', bg', rfl, by omega, k1, k2, hnx1', hnx', hG', hR', hC', hids', hmost', at_, at_, at_, at_, at_, at_, held_⟩
  · by_cases hil : i < len
    · have hil' : (i : Int) < (len : Int) := by omega
      have h60' : ¬ (i : Int) < 60 := by omega
      ((apply sc_seq); refine sr_ ?_; (refine mv_ ?_); (refine mv_ ?_); (refine se_ (ex_len_slice ev_ asm_) ?_); (refine se_ (ex_lss_t ev_ ev_ om_) ?_); (refine mv_ ?_); (refine wt_ ?_); (refine mv_ ?_); (refine wt_ ?_); (refine se_ (ex_lss_f ev_ .const om_) ?_); (refine se_ (ex_pick_t ev_ ev_) ?_); refine sn_ ?_; (refine cf_ ?_); (apply sc_exit); (apply et_then); (apply et_then); (apply et_hit); (apply nm_then); refine sr_ ?_; (refine ac_ ?_); refine sn_ ?_; (apply sc_ret); (apply ret_ok; (focus ((apply Res.tmp; (exact ev_)); exact Res.nil)); (exact ⟨rfl, K1, K2, nx, g, r, L1, L2, by omega, by omega, hnx1, hnx, hG, hR, hC, hids, hmost, rfl⟩); (exact sel_); (exact appb_)))
    · have hil' : ¬ (i : Int) < (len : Int) := by omega
      ((apply sc_seq); refine sr_ ?_; (refine mv_ ?_); (refine mv_ ?_); (refine se_ (ex_len_slice ev_ asm_) ?_); (refine se_ (ex_lss_f ev_ ev_ om_) ?_); (refine mv_ ?_); (refine sk_ ?_); (refine sk_ ?_); (refine se_ (ex_pick_f ev_ .const) ?_); refine sn_ ?_; (refine cf_ ?_); (apply sc_exit); (apply et_then); (apply et_then); (apply et_hit); (apply nm_then); refine sr_ ?_; (refine ac_ ?_); refine sn_ ?_; (apply sc_ret); (apply ret_ok; (focus ((apply Res.tmp; (exact ev_)); exact Res.nil)); (exact ⟨rfl, K1, K2, nx, g, r, L1, L2, by omega, by omega, hnx1, hnx, hG, hR, hC, hids, hmost, rfl⟩); (exact sel_); (exact appb_)))
end Go.Proofs.Ytomgkmoecbnddaa
