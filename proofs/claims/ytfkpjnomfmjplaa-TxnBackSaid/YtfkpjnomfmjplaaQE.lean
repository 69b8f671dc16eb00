/- Txn: New of nothing, Failed, two lists of numbers compared, a text of one byte. Txn: TxnBack in plain words. Txn: TxnBack: the walk. Txn: TxnBack's first argument, opened: a slice of truth values. -/
import Derived.Test.YtfkpjnomfmjplaaQD
import Derived.Test.YtfkpjnomfmjplaaQS
import Derived.Test.YtfkpjnomfmjplaaFin
set_option linter.unusedVariables false
set_option linter.unusedSimpArgs false
set_option linter.unnecessarySimpa false
namespace Go.Sym
open Go
theorem ex_bytes1 {P : Program} {E : Env} {f : Nat → Value} {L : List Blk} {ty : TypeId} {pos : String} {after : Array Edge} {d : Nat} {x : Operand} {src dst e : TypeId} {b cap : Nat} {n : Int} {T : TypeId} {fz : Nat × Nat} (hx : Ev f x (.slice (some ⟨b, 0, none⟩) 1 cap)) (hm : (b, .cells [Value.int .u8 n].toArray T fz) ∈ L) (hs : Und P src (.slice e)) (he : Und P e (.int .u8)) (hd : Und P dst .string) :
    Ex P E f L ⟨some d, .convert src dst x, ty, pos, after, none⟩ (.string ⟨#[UInt8.ofNat n.toNat]⟩) := .mk fun w hw => by
  have hb := hw.get hm
  have hl : (loadCells ⟨b, 0, none⟩ 1).run P w = .ok [Value.int .u8 n].toArray w := by
    refine run_loadCells_list w ⟨b, 0, none⟩ [Value.int .u8 n] fun j v hj => ?_
    have hlt : j < 1 := (List.getElem?_eq_some_iff.1 hj).1
    obtain rfl : j = 0 := by omega
    have h1 : (Addr.add ⟨b, 0, none⟩ 0) = ⟨b, 0, none⟩ := by simp [Addr.add]
    rw [h1, cell_of hb 0]; exact hj
  simp [execOp, hx.eq, convert, run_underlying hs.eq, run_underlying he.eq, run_underlying hd.eq, Conv.bytesToString, hl]
  rfl
end Go.Sym
namespace Go.Proofs.Ytfkpjnomfmjplaa
open Go.Sym
theorem row_block {et : TypeId} {s : Nat} {p : Option Addr} {n cap : Nat} {X : List Value} {B : List Blk} (h : Row et s (.slice p n cap) X B) (hn : n ≠ 0) : ∃ b junk, p = some ⟨b, 0, none⟩ ∧ B = [(b, .cells (X ++ junk).toArray et)] := by
  cases h with
  | nil => exact absurd rfl hn
  | row _ _ => exact ⟨_, _, rfl, rfl⟩
theorem ck_zero : zeroOf Try.prog 105 = some (ck ⟨0, 0, fun _ => 0, fun _ => 0⟩) := by
  rw [zero105]; unfold ck; kernel_rfl
theorem newC_tri {n : Int} (h : onR n = true) : Tri Try.prog 38 #[.int .i64 n] [] fun v L => ∃ cb, v = cP cb ∧ L = [cB cb (Clk.new n)] := by
  have f_mixed := mixed; have f_en54 := en54; have f_pl105_0 := pl105_0; have f_pl105_1 := pl105_1; have f_st105 := st105; have f_ty105 := ty105; have f_zero105 := zero105
  clear f_zero105
  have c1 := on_tri n
  rw [h] at c1
  have hz := ck_zero
  have e1 : Clk.new n = ⟨n, n, fun _ => 0, fun _ => 0⟩ := by unfold Clk.new; rw [if_pos h]
  rw [e1]
  refine tri_intro (args := [_]) Try.func38 rfl Try.ntmps38 rfl (rs := _) rfl rfl fun E R => ?_
  simp only [fr, List.cons_append, List.nil_append]
  (refine sr_ ?_; (refine ac_ ?_); refine sn_ ?_; (apply sc_seq); refine sr_ ?_; (refine mv_ ?_); (apply so_callq; (exact Ev.func); (focus ((apply EvL.cons; (exact ev_)); exact EvL.nil)); (focus (repeat (first | exact App.nil | apply App.cons))); assumption; exact c1; (exact sel_); exact rfl); (refine se_ (ex_not ev_) ?_); refine sn_ ?_; (refine cf_ ?_); (apply sc_skip); (apply nm_then); refine sr_ ?_; (refine mv_ ?_); (refine mv_ ?_); (apply so_ex; (apply ex_build; (focus ((apply EvP.cons; (exact ev_)); (apply EvP.cons; (exact ev_)); exact EvP.nil)); exact hz; (apply Bld.cons; assumption; exact rfl; exact rfl; exact ck_sub4; apply Bld.cons; assumption; exact rfl; exact rfl; exact ck_sub3; exact Bld.nil (by assumption))); exact rfl); (apply so_box; (exact ev_); exact rfl; exact rfl; intro _); (refine asg_ ?_); refine sn_ ?_; (apply sc_ret); (apply ret_ok; (focus ((apply Res.tmp; (exact ev_)); exact Res.nil)); (exact ⟨_, rfl, rfl⟩); (exact sel_); (exact appb_)))
def T0 : Ts := ⟨Clk.new (3 + 0 % 125), [], 0⟩
theorem newN_tri : Tri Try.prog 10 #[.pointer none] [] fun v L => ∃ tb, v = tP tb ∧ TsIn 0 T0 tb L := by
  have f_mixed := mixed; have f_en38 := en38; have f_pl74_0 := pl74_0; have f_pl74_1 := pl74_1; have f_st74 := st74; have f_ty74 := ty74; have f_un_53 : Und Try.prog 53 _ := ⟨Try.underlying53⟩; have f_zero74 := zero74
  have f_me : MapOf (K := Int) (Value.int .i64) [] #[] 0 := .empty
  refine tri_intro (args := [_]) Try.func10 rfl Try.ntmps10 rfl (rs := _) rfl rfl fun E R => ?_
  simp only [fr, List.cons_append, List.nil_append]
  (refine sr_ ?_; (refine ac_ ?_); refine sn_ ?_; (apply sc_seq); refine sr_ ?_; (refine mv_ ?_); (refine se_ (ex_eqp_t ev_ .const asm_) ?_); refine sn_ ?_; (refine ct_ ?_); (apply sc_region))
  (apply so_call; (exact Ev.func); (focus ((apply EvL.cons; (exact Ev.const)); exact EvL.nil)); (focus (repeat (first | exact App.nil | apply App.cons))); assumption; (exact newC_tri (n := 3) rfl); (exact sel_); exact rfl)
  rintro v L ⟨cb, rfl, rfl⟩
  have hon : onR 3 = true := rfl
  have hok : TsOk 0 T0 #[] 0 (fun _ => ⟨0, .pointer none, [], .pointer none, [], .pointer none, []⟩) := ⟨.empty, fun _ h => (by cases h), fun _ h => (by cases h), ⟨Int.le_refl _, Int.le_refl _⟩, fun _ h => (by cases h), ⟨rfl, rfl⟩, Nat.zero_le _⟩
  simp only [List.cons_append, List.nil_append]
  ((refine asg_ ?_); refine sn_ ?_; refine sr_ ?_; (refine mv_ ?_); (apply so_makeMap; exact rfl; intro _); (apply so_ex; (apply ex_build; ((focus ((apply EvP.cons; (exact ev_)); (apply EvP.cons; (exact ev_)); exact EvP.nil))); assumption; ((focus (repeat (first | exact Bld.nil (by assumption) | (apply Bld.cons; assumption; exact rfl; exact rfl; (focus (repeat (first | exact SetSub.nil | apply SetSub.take | apply SetSub.drop))))))))); exact rfl); (apply so_box; (exact ev_); exact rfl; exact rfl; intro _); (refine asg_ ?_); refine sn_ ?_; (apply sc_ret))
  rename_i mm tb
  (apply ret_ok; (focus ((apply Res.tmp; (exact ev_)); exact Res.nil)); (exact ⟨tb, rfl, cb, mm, #[], 0, _, rfl, hok⟩); (exact sel_); (exact appb_))
/-- has it failed? -/
def failedT (T : Ts) (id : Int) : Bool := ((findT T.l id).map (·.failed)).getD false
theorem failed_tri {K : Nat} {T : Ts} {tb : Nat} {L : List Blk} (h : TsIn K T tb L) (id : Int) : TriQ Try.prog 30 #[tP tb, .int .i64 id] L (.bool (failedT T id)) := by
  obtain ⟨cb, mm, es, cl, ρ, rfl, hI⟩ := h
  have f_mixed := mixed; have f_en41 := en41; have f_fo80_4 := fo80_4; have f_ty4 := ty4; have f_un_76 : Und Try.prog 76 _ := ⟨Try.underlying76⟩
  have c1 := at_tri hI tb cb mm id
  unfold ptrT at c1
  unfold failedT
  unfold TsB
  cases hf : findT T.l id with
  | none =>
    rw [hf] at c1
    simp only [Option.map_none, Option.getD_none] at c1 ⊢
    refine tri_intro (args := [_, _]) Try.func30 rfl Try.ntmps30 rfl (rs := _) rfl rfl fun E R => ?_
    simp only [fr, List.cons_append, List.nil_append]
    (refine sr_ ?_; (refine ac_ ?_); refine sn_ ?_; refine sr_ ?_; (refine mv_ ?_); (refine mv_ ?_); (apply so_callq; (exact Ev.func); (focus ((apply EvL.cons; (exact ev_)); (apply EvL.cons; (exact ev_)); exact EvL.nil)); (focus (repeat (first | exact App.nil | apply App.cons))); assumption; exact c1; (exact sel_); exact rfl); (refine asg_ ?_); refine sn_ ?_; refine sr_ ?_; (refine mv_ ?_); (refine se_ (ex_nep_f ev_ .const asm_) ?_); (refine mv_ ?_); (refine sk_ ?_); (refine sk_ ?_); (refine sk_ ?_); (refine sk_ ?_); (refine se_ (ex_pick_f ev_ .const) ?_); (refine asg_ ?_); refine sn_ ?_; (apply sc_ret); (apply ret_ok; (focus ((apply Res.tmp; (exact ev_)); exact Res.nil)); (exact ⟨rfl, rfl⟩); (exact sel_); (exact appb_)))
  | some t =>
    rw [hf] at c1
    simp only [Option.map_some, Option.getD_some] at c1 ⊢
    have htm := (findT_some hf).1
    have hid := (findT_some hf).2
    have hth := pb_hdr (ρ := ρ) htm
    unfold thdr at hth
    rw [hid] at hth
    refine tri_intro (args := [_, _]) Try.func30 rfl Try.ntmps30 rfl (rs := _) rfl rfl fun E R => ?_
    simp only [fr, List.cons_append, List.nil_append]
    (refine sr_ ?_; (refine ac_ ?_); refine sn_ ?_; refine sr_ ?_; (refine mv_ ?_); (refine mv_ ?_); (apply so_callq; (exact Ev.func); (focus ((apply EvL.cons; (exact ev_)); (apply EvL.cons; (exact ev_)); exact EvL.nil)); (focus (repeat (first | exact App.nil | apply App.cons))); assumption; exact c1; (exact sel_); exact rfl); (refine asg_ ?_); refine sn_ ?_; refine sr_ ?_; (refine mv_ ?_); (refine se_ (ex_nep_t ev_ .const asm_) ?_); (refine mv_ ?_); (refine wt_ ?_); (refine mv_ ?_); (refine wt_ ?_); (refine se_ (ex_nilCheck ev_) ?_); (refine wt_ ?_); (refine se_ (ex_fieldAddr ev_ asm_) ?_); (refine wt_ ?_); (refine se_ (ex_load1 ev_ asm_ mem_ nth_) ?_); (refine se_ (ex_pick_t ev_ ev_) ?_); (refine asg_ ?_); refine sn_ ?_; (apply sc_ret); (apply ret_ok; (focus ((apply Res.tmp; (exact ev_)); exact Res.nil)); (exact ⟨rfl, rfl⟩); (exact sel_); (exact appb_)))
theorem nums_tri {xs ys : List Int} {u v : Value} {A B : List Blk} (hA : SlI xs u A) (hB : SlI ys v B) (hx : xs.length ≤ 1000000) (hy : ys.length ≤ 1000000) : TriQ Try.prog 20 #[u, v] (A ++ B) (.bool (decide (xs = ys))) := by
  have f_mixed := mixed; have f_by3 := by3; have f_ty3 := ty3; have f_ty36 := ty36; have f_un_36 : Und Try.prog 36 _ := ⟨Try.underlying36⟩; have f_zero3 := zero3; have f_zv3 := zv3
  obtain ⟨p1, cap1, rfl, hr1⟩ := hA
  obtain ⟨p2, cap2, rfl, hr2⟩ := hB
  refine tri_intro (args := [_, _]) Try.func20 rfl Try.ntmps20 rfl (rs := _) rfl rfl fun E R => ?_
  simp only [fr, List.cons_append, List.nil_append]
  by_cases hl : xs.length = ys.length
  · have hl' : ¬ (xs.length : Int) ≠ (ys.length : Int) := by omega
    have hl2 : (xs.length : Int) = (ys.length : Int) := by omega
    rw [← hl] at hr2 hl' hl2 ⊢
    (refine sr_ ?_; (refine ac_ ?_); refine sn_ ?_; (apply sc_seq); refine sr_ ?_; (refine mv_ ?_); (refine se_ (ex_len_slice ev_ asm_) ?_); (refine mv_ ?_); (refine se_ (ex_len_slice ev_ asm_) ?_); (refine se_ (ex_neq_f ev_ ev_ om_) ?_); refine sn_ ?_; (refine cf_ ?_); (apply sc_skip); (apply nm_then); (apply sc_seq); refine sr_ ?_; (refine ac_ ?_); refine sn_ ?_; (apply sc_block))
    refine sc_loop (fun k f L => ∃ i : Nat, k = xs.length - i ∧ i ≤ xs.length ∧ xs.take i = ys.take i ∧ At f 0 (.slice p1 xs.length cap1) ∧ At f 1 (.slice p2 xs.length cap2) ∧ At f 5 (.int .i64 (i : Int)) ∧ Held L (A ++ B) R) _ ⟨0, rfl, Nat.zero_le _, rfl, at_, at_, at_, held_⟩ ?_
    rintro k f L ⟨i, hk, hi, hni, a0, a1, a5, ⟨G, hG⟩⟩
    refine sc_perm hG ?_
    clear hG
    by_cases hlt : i < xs.length
    · have hlt' : (i : Int) < (xs.length : Int) := by omega
      have hly : i < ys.length := by omega
      have e1 : ((i + 1 : Nat) : Int) = (i : Int) + 1 := by omega
      obtain ⟨b6, junk6, rfl, rfl⟩ := row_block hr1 (by omega)
      obtain ⟨b7, junk7, rfl, rfl⟩ := row_block hr2 (by omega)
      have hz := zs_nth (junk := junk6) hlt
      have hz2 := zs_nth (junk := junk7) hly
      simp only [List.append_assoc, List.cons_append, List.nil_append]
      by_cases he : xs[i] = ys[i]
      · rw [← he] at hz2
        ((apply sc_seq); refine sr_ ?_; (refine mv_ ?_); (refine mv_ ?_); (refine se_ (ex_len_slice ev_ asm_) ?_); (refine se_ (ex_lss_t ev_ ev_ om_) ?_); refine sn_ ?_; (refine ct_ ?_); (apply sc_skip); (apply nm_then); (apply sc_seq); (apply sc_block); (apply sc_seq); (apply sc_quiet (id := 6); assumption; kernel_rfl); (refine qe_ (ex_move ev_) ?_); (refine qe_ (ex_move ev_) ?_); (refine qe_ (ex_indexAddr ev_ ev_ asm_ asm_ lit_ lt_) ?_); (apply sq_ex; (apply ex_load1r; (exact ev_); assumption; (exact mem_); first | exact hz | exact hz2); exact rfl); (refine qe_ (ex_move ev_) ?_); (refine qe_ (ex_move ev_) ?_); (refine qe_ (ex_indexAddr ev_ ev_ asm_ asm_ lit_ lt_) ?_); (apply sq_ex; (apply ex_load1r; (exact ev_); assumption; (exact mem_); first | exact hz | exact hz2); exact rfl); (refine qe_ (ex_neq_f ev_ ev_ om_) ?_); (apply sq_nil); (apply nm_then); (refine cf_ ?_); (apply sc_skip); (apply nm_block); (apply nm_then); (apply sc_region); (refine mv_ ?_); (refine se_ (ex_add ev_ .const wr_) ?_); (refine asg_ ?_); (apply so_nil); (apply nm_then))
        exact ⟨xs.length - (i + 1), by omega, i + 1, rfl, by omega, by rw [List.take_succ_eq_append_getElem hlt, List.take_succ_eq_append_getElem hly, hni, he], at_, at_, by rw [e1]; exact at_, held_⟩
      · have hne : ¬ xs = ys := fun h => by subst h; exact he rfl
        rw [decide_eq_false hne]
        ((apply sc_seq); refine sr_ ?_; (refine mv_ ?_); (refine mv_ ?_); (refine se_ (ex_len_slice ev_ asm_) ?_); (refine se_ (ex_lss_t ev_ ev_ om_) ?_); refine sn_ ?_; (refine ct_ ?_); (apply sc_skip); (apply nm_then); (apply sc_seq); (apply sc_block); (apply sc_seq); (apply sc_quiet (id := 6); assumption; kernel_rfl); (refine qe_ (ex_move ev_) ?_); (refine qe_ (ex_move ev_) ?_); (refine qe_ (ex_indexAddr ev_ ev_ asm_ asm_ lit_ lt_) ?_); (apply sq_ex; (apply ex_load1r; (exact ev_); assumption; (exact mem_); first | exact hz | exact hz2); exact rfl); (refine qe_ (ex_move ev_) ?_); (refine qe_ (ex_move ev_) ?_); (refine qe_ (ex_indexAddr ev_ ev_ asm_ asm_ lit_ lt_) ?_); (apply sq_ex; (apply ex_load1r; (exact ev_); assumption; (exact mem_); first | exact hz | exact hz2); exact rfl); (refine qe_ (ex_neq_t ev_ ev_ om_) ?_); (apply sq_nil); (apply nm_then); (refine ct_ ?_); refine sr_ ?_; (refine ac_ ?_); refine sn_ ?_; (apply sc_ret); (apply rt_block); (apply rt_then); (apply rt_then); (apply rt_block); (apply rt_then))
        (apply ret_ok; (focus ((apply Res.tmp; (exact ev_)); exact Res.nil)); (exact ⟨rfl, rfl⟩); (exact sel_); (exact appb_))
    · have hlt' : ¬ (i : Int) < (xs.length : Int) := by omega
      obtain rfl : i = xs.length := by omega
      have : xs = ys := by rw [List.take_length, hl, List.take_length] at hni; exact hni
      rw [decide_eq_true this]
      ((apply sc_seq); refine sr_ ?_; (refine mv_ ?_); (refine mv_ ?_); (refine se_ (ex_len_slice ev_ asm_) ?_); (refine se_ (ex_lss_f ev_ ev_ om_) ?_); refine sn_ ?_; (refine cf_ ?_); (apply sc_exit); (apply et_then); (apply et_then); (apply et_hit); (apply nm_then); refine sr_ ?_; (refine ac_ ?_); refine sn_ ?_; (apply sc_ret); (apply ret_ok; (focus ((apply Res.tmp; (exact ev_)); exact Res.nil)); (exact ⟨rfl, rfl⟩); (exact sel_); (exact appb_)))
  · have hne : ¬ xs = ys := fun h => hl (by rw [h])
    have hl' : ¬ (xs.length : Int) = (ys.length : Int) := by omega
    rw [decide_eq_false hne]
    (refine sr_ ?_; (refine ac_ ?_); refine sn_ ?_; (apply sc_seq); refine sr_ ?_; (refine mv_ ?_); (refine se_ (ex_len_slice ev_ asm_) ?_); (refine mv_ ?_); (refine se_ (ex_len_slice ev_ asm_) ?_); (refine se_ (ex_neq_t ev_ ev_ om_) ?_); refine sn_ ?_; (refine ct_ ?_); refine sr_ ?_; (refine ac_ ?_); refine sn_ ?_; (apply sc_ret); (apply rt_then); (apply ret_ok; (focus ((apply Res.tmp; (exact ev_)); exact Res.nil)); (exact ⟨rfl, rfl⟩); (exact sel_); (exact appb_)))
end Go.Proofs.Ytfkpjnomfmjplaa
namespace Go.Proofs.Ytfkpjnomfmjplaa
open Go.Sym
/-- the name of the i-th savepoint -/
def nmS (i : Nat) : ByteArray := ⟨#[UInt8.ofNat ((97 + (i : Int)).toNat)]⟩
theorem one_toList (x : UInt8) : (⟨#[x]⟩ : ByteArray).toList = [x] := by
  simp [ByteArray.toList, ByteArray.toList.loop, ByteArray.size, ByteArray.get!]
theorem nm_all : ∀ i j : Fin 8, ([UInt8.ofNat ((97 + ((i : Nat) : Int)).toNat)] == [UInt8.ofNat ((97 + ((j : Nat) : Int)).toNat)]) = decide (i = j) := by decide
theorem nmS_same {i j : Nat} (hi : i < 8) (hj : j < 8) : sameS (nmS i) (nmS j) = decide (i = j) := by
  have := nm_all ⟨i, hi⟩ ⟨j, hj⟩
  unfold sameS nmS
  rw [one_toList, one_toList, this]
  simp
structure BInv (i : Nat) (T : Ts) (t : Tx) (b : Bool) : Prop where
  inv : InvT T
  l : T.l = [t]
  id : t.id = 1
  fl : t.failed = b
  pr : t.prepared = false
  nm : t.lvs.map (·.1) = ByteArray.empty :: (List.range i).map nmS
theorem BInv.find {i : Nat} {T : Ts} {t : Tx} {b : Bool} (h : BInv i T t b) : findT T.l 1 = some t := by
  unfold findT; rw [h.l, List.find?_cons, h.id]; rfl
theorem BInv.runs {i : Nat} {T : Ts} {t : Tx} {b : Bool} (h : BInv i T t b) : T.runs 1 = some t := by
  unfold Ts.runs; rw [h.find, Option.bind_some, h.pr]; rfl
theorem BInv.set {i : Nat} {T : Ts} {t : Tx} {b : Bool} (h : BInv i T t b) (f : Tx → Tx) : setT T.l 1 f = [f t] := by
  unfold setT; rw [h.l, List.map_cons, if_pos h.id]; rfl
theorem BInv.len {i : Nat} {T : Ts} {t : Tx} {b : Bool} (h : BInv i T t b) : t.lvs.length = i + 1 := by
  have := congrArg List.length h.nm
  simpa using this
theorem begin_eq : T0.begin 1 = T0.add (newTx 1 1) := by
  unfold Ts.begin
  rw [if_pos ⟨by kernel_rfl, by decide⟩]; rfl
theorem b_begin : BInv 0 (T0.begin 1) (newTx 1 1) false := by
  refine ⟨invT_do (invT_T0 0) (.begin 1), by rw [begin_eq]; rfl, rfl, rfl, rfl, rfl⟩
theorem b_save {i : Nat} {T : Ts} {t : Tx} (h : BInv i T t false) (hi : i < 8) : SaveOk T 1 ∧ ∃ t', BInv (i + 1) (T.save 1 (nmS i)) t' false := by
  have hl := h.len
  refine ⟨⟨t, h.runs, h.fl, by omega⟩, { t with lvs := t.lvs ++ [(nmS i, 0)] }, invT_do h.inv (.save 1 _), ?_, h.id, h.fl, h.pr, ?_⟩
  · unfold Ts.save
    rw [h.runs]
    dsimp only
    rw [if_neg (by rw [h.fl]; simp; omega)]
    exact h.set _
  · show (t.lvs ++ [(nmS i, 0)]).map (fun p : ByteArray × Int => p.1) = _
    rw [List.map_append, h.nm, List.range_succ, List.map_append]; rfl
theorem xidL_names : ∀ (l : List (ByteArray × Int)) (c : Clk) (n : Int), (xidL c n l).2.map (·.1) = l.map (·.1)
  | [], _, _ => rfl
  | (s, x) :: r, c, n => by
    unfold xidL
    split
    · split
      · rfl
      · simp [xidL_names r]
    · simp [xidL_names r]
theorem b_xid {i : Nat} {T : Ts} {t : Tx} (h : BInv i T t false) : ∃ t', BInv i (T.xid 1) t' false := by
  by_cases hm : bitsZ .and .i64 t.mode 4 ≠ 0
  · refine ⟨t, invT_do h.inv (.xid 1), ?_, h.id, h.fl, h.pr, h.nm⟩
    unfold Ts.xid; rw [h.runs]; dsimp only; rw [if_pos hm]; exact h.l
  · refine ⟨{ t with lvs := (xidL T.c 0 t.lvs).2 }, invT_do h.inv (.xid 1), ?_, h.id, h.fl, h.pr, (xidL_names _ _ _).trans h.nm⟩
    unfold Ts.xid; rw [h.runs]; dsimp only; rw [if_neg hm]; exact h.set _
theorem b_fail {i : Nat} {T : Ts} {t : Tx} (h : BInv i T t false) : BInv i (T.fail 1 true) { t with failed := true } true := by
  refine ⟨invT_do h.inv (.fail 1 true), ?_, h.id, rfl, h.pr, h.nm⟩
  unfold Ts.fail; rw [h.runs]; exact h.set _
theorem b_at {i : Nat} {T : Ts} {t : Tx} {b : Bool} (h : BInv i T t b) (hi : i ≤ 8) {k : Nat} (hk : k < i) : ∀ m, k + 1 ≤ m → m ≤ i → backAt t.lvs (nmS k) m = k + 1
  | 0, h1, _ => by omega
  | m + 1, h1, h2 => by
    have hn : t.lvs[m + 1]?.map (·.1) = some (nmS m) := by
      have := congrArg (fun l => l[m + 1]?) h.nm
      simp only [List.getElem?_map, List.getElem?_cons_succ] at this
      rw [this, List.getElem?_range (by omega)]; rfl
    have hs : (t.lvs[m + 1]?.map fun p => sameS p.1 (nmS k)) = some (decide (m = k)) := by
      cases hg : t.lvs[m + 1]? with
      | none => rw [hg] at hn; cases hn
      | some p =>
        rw [hg] at hn
        injection hn with hn
        have hn : p.1 = nmS m := hn
        show some (sameS p.1 (nmS k)) = _
        rw [hn, nmS_same (by omega) (by omega)]
    unfold backAt
    rw [hs]
    by_cases hmk : m = k
    · rw [if_pos (by simp [hmk]), hmk]
    · rw [if_neg (by simp [hmk])]
      exact b_at h hi hk m (by omega) (by omega)
theorem state_of {c : Clk} {x e : Int} (hk : c.knows x = true) (hs : c.st x = e) : c.state x = e := by
  have h2 : ¬ x = 2 := by have := (knows_iff.1 hk).1; rw [onR_iff] at this; omega
  unfold Clk.state
  rw [if_neg h2, if_pos hk, hs]
theorem kn_2 {c : Clk} {x : Int} (hk : c.knows x = true) : x ≠ 2 := by
  have := (knows_iff.1 hk).1; rw [onR_iff] at this; omega
theorem xids_len2 (l : List (ByteArray × Int)) (s : ByteArray) : xidsOf (l ++ [(s, 0)]) = xidsOf l := by
  rw [xids_nz, List.map_append, nz_app]
  show nz (l.map (·.2)) ++ nz [0] = _
  rw [show nz [(0 : Int)] = [] from nz_rep 1, List.append_nil]; rfl
theorem b_back {n k : Nat} {T : Ts} {t : Tx} (h : BInv n T t true) (hn : n ≤ 8) (hk : k < n) :
    ∃ gl t2, BackOk T 1 (nmS k) gl ∧ InvT (T.back 1 (nmS k)) ∧ (T.back 1 (nmS k)).l = [t2] ∧ t2.id = 1 ∧ t2.failed = false ∧ t2.prepared = false ∧ gl.length + t2.own.length = t.own.length ∧ t2.own.length ≤ k + 1 ∧ gl.length ≤ 9 ∧
      ∀ x ∈ gl, (T.back 1 (nmS k)).c.state x = 3 ∧ x ≠ 2 ∧ Has t2 x := by
  have hl := h.len
  have hb : backAt t.lvs (nmS k) (t.lvs.length - 1) = k + 1 := b_at h hn hk _ (by omega) (by omega)
  have hI := h.inv.inv
  have htm : t ∈ T.l := by rw [h.l]; exact List.mem_singleton.2 rfl
  have hA := hI.tx t htm
  obtain ⟨kk, hkk⟩ := hA.pre
  obtain ⟨_, h3, h4⟩ := pre_take hkk (k + 1)
  have e : T.back 1 (nmS k) = { T.upd 1 fun u => { u with lvs := t.lvs.take (k + 1) ++ [(nmS k, 0)], gone := t.gone ++ xidsOf (t.lvs.drop (k + 1)), failed := false } with c := T.c.endHd (xidsOf (t.lvs.drop (k + 1))) 3 } := by
    unfold Ts.back; rw [h.runs]; dsimp only; rw [hb]
  have ho : Tx.own { t with lvs := t.lvs.take (k + 1) ++ [(nmS k, 0)], gone := t.gone ++ xidsOf (t.lvs.drop (k + 1)), failed := false } = t.own.take (k + 1) := (xids_len2 _ _).trans h3
  have h4' : xidsOf (t.lvs.drop (k + 1)) = t.own.drop (k + 1) := h4
  have hol : t.own.length ≤ t.lvs.length := xids_len t.lvs
  refine ⟨_, { t with lvs := t.lvs.take (k + 1) ++ [(nmS k, 0)], gone := t.gone ++ xidsOf (t.lvs.drop (k + 1)), failed := false }, ⟨t, k, h.runs, hb, rfl⟩, invT_do h.inv (.back 1 _), ?_, h.id, rfl, h.pr, ?_, ?_, ?_, fun x hx => ?_⟩
  · rw [e]; exact h.set _
  · rw [ho, h4', List.length_take, List.length_drop]; omega
  · rw [ho, List.length_take]; omega
  · rw [h4', List.length_drop]; omega
  · have hx2 := hx
    rw [h4'] at hx
    have hxo : x ∈ t.own := List.mem_of_mem_drop hx
    have hkx := hA.kn x hxo
    refine ⟨?_, kn_2 hkx, .inr (List.mem_append_right _ hx2)⟩
    rw [e]
    show (T.c.endHd (xidsOf (t.lvs.drop (k + 1))) 3).state x = 3
    rw [h4']
    cases hg : t.own.drop (k + 1) with
    | nil => rw [hg] at hx; cases hx
    | cons y suf =>
      have hsp : t.own = t.own.take (k + 1) ++ y :: suf := by rw [← hg, List.take_append_drop]
      have hy : y ∈ t.own := by rw [hsp]; simp
      have hst := endAt_exact hI htm (e := 3) hsp (by omega) (by rw [hA.st y hy, h.pr]; decide) x
      rw [hg] at hx
      rw [if_pos hx] at hst
      exact state_of ((endAt_knows (c := T.c) y 3 x).trans hkx) hst
theorem b_done {T : Ts} {t : Tx} (hI : InvT T) (hl : T.l = [t]) (hid : t.id = 1) (hf : t.failed = false) (hp : t.prepared = false) :
    findT T.l 1 = some t ∧ (T.done 1 true).runs 1 = none ∧ ∀ x ∈ t.own, (T.done 1 true).c.state x = 2 := by
  have hfd : findT T.l 1 = some t := by unfold findT; rw [hl, List.find?_cons, hid]; rfl
  have e : T.done 1 true = { T with l := delT T.l 1, c := T.c.endHd t.own 2 } := by
    unfold Ts.done; rw [hfd]; dsimp only; rw [if_neg (by rw [hf]; simp)]; rfl
  have hd : delT T.l 1 = [] := by unfold delT; rw [hl]; simp [hid]
  have htm : t ∈ T.l := by rw [hl]; exact List.mem_singleton.2 rfl
  have hA := hI.inv.tx t htm
  refine ⟨hfd, ?_, fun x hx => ?_⟩
  · rw [e]
    unfold Ts.runs
    show (findT (delT T.l 1) 1).bind _ = none
    rw [hd]; rfl
  · rw [e]
    show (T.c.endHd t.own 2).state x = 2
    cases hg : t.own with
    | nil => rw [hg] at hx; cases hx
    | cons y suf =>
      have hy : y ∈ t.own := by rw [hg]; simp
      have hst := endAt_exact hI.inv htm (e := 2) (pre := []) hg (by omega) (by rw [hA.st y hy, hp]; decide) x
      rw [hg] at hx
      rw [if_pos hx] at hst
      exact state_of ((endAt_knows (c := T.c) y 2 x).trans (hA.kn x (by rw [hg]; exact hx))) hst
end Go.Proofs.Ytfkpjnomfmjplaa
namespace Go.Sym
open Go
/-- from a proved run: the heap only grows -/
theorem tri_of_calls {P : Program} {f : FuncId} {args : Array Value} {v : Value} (h : ∀ w : World, Calls P f args w fun e w' => e = .returned v ∧ ((w'.os, w'.output) = (w.os, w.output) ∧ ∀ (i : Nat) (o : Obj), w.heap[i]? = some o → w'.heap[i]? = some o)) : TriQ P f args [] v := .mk fun E R w hh => (h w).mono fun e w' ⟨he, h1, h2⟩ => ⟨_, _, he, ⟨rfl, rfl⟩, ⟨h1.trans hh.env, fun p hp => h2 _ _ (hh.facts p hp), hh.nodup⟩⟩
end Go.Sym
namespace Go.Proofs.Ytfkpjnomfmjplaa
open Go.Sym
theorem tmod_lo (z : Int) (m : Nat) (h : 0 < m) : -(m : Int) < z.tmod m := by
  rcases Int.le_total 0 z with hz | hz
  · have := Int.tmod_nonneg (m : Int) hz; omega
  · have h1 : (-z).tmod m < m := Int.tmod_lt_of_pos _ (by omega)
    rw [Int.neg_tmod] at h1; omega
theorem rest_tri (z : Int) (m : Nat) (h0 : 0 < m) (h1 : m < 100000) : TriQ Try.prog 14 #[.int .i64 z, .int .i64 (m : Int)] [] (.int .i64 (z % (m : Int))) := by
  have f_mixed := mixed; 
  have h2 := Int.tmod_lt_of_pos z (b := m) (by omega)
  have h3 := tmod_lo z m h0
  have hne : (m : Int) ≠ 0 := by omega
  have f_w : IntKind.i64.wrap (z.tmod m + m) = z.tmod m + m := wrap_in (by unfold InI; omega)
  have f_r : (z.tmod m + m).tmod m = z % (m : Int) := by
    rw [Int.tmod_eq_emod_of_nonneg (by omega)]
    have h5 : z.tmod m + (m : Int) = z + m * (1 - z.tdiv m) := by
      rw [Int.tmod_def, Int.mul_sub]; omega
    rw [h5, Int.add_mul_emod_self_left]
  refine tri_intro (args := [_, _]) Try.func14 rfl Try.ntmps14 rfl (rs := _) rfl rfl fun E R => ?_
  simp only [fr, List.cons_append, List.nil_append]
  (refine sr_ ?_; (refine ac_ ?_); refine sn_ ?_; refine sr_ ?_; (refine mv_ ?_); (refine mv_ ?_); (apply so_ex; (apply ex_rem; (exact ev_); (exact ev_); (first | assumption | decide | omega); (first | assumption | exact rfl)); exact rfl); (refine mv_ ?_); (refine se_ (ex_add ev_ ev_ wr_) ?_); (refine mv_ ?_); (apply so_ex; (apply ex_rem; (exact ev_); (exact ev_); (first | assumption | decide | omega); (first | assumption | exact rfl)); exact rfl); (refine asg_ ?_); refine sn_ ?_; (apply sc_ret); (apply ret_ok; (focus ((apply Res.tmp; (exact ev_)); exact Res.nil)); (exact ⟨rfl, rfl⟩); (exact sel_); (exact appb_)))
theorem clock_tri (T : Ts) (tb cb mm : Nat) : TriQ Try.prog 22 #[tP tb] [hdr T tb cb mm] (cP cb) := by
  have f_mixed := mixed; have f_fo74_0 := fo74_0; have f_ty53 := ty53; have f_un_23 : Und Try.prog 23 _ := ⟨Try.underlying23⟩
  refine tri_intro (args := [_]) Try.func22 rfl Try.ntmps22 rfl (rs := _) rfl rfl fun E R => ?_
  simp only [fr, List.cons_append, List.nil_append]
  (refine sr_ ?_; (refine ac_ ?_); refine sn_ ?_; (apply sc_seq); refine sr_ ?_; (refine mv_ ?_); (refine se_ (ex_eqp_f ev_ .const asm_) ?_); refine sn_ ?_; (refine cf_ ?_); (apply sc_skip); (apply nm_then); refine sr_ ?_; (refine mv_ ?_); (refine se_ (ex_nilCheck ev_) ?_); (refine se_ (ex_fieldAddr ev_ asm_) ?_); (refine se_ (ex_load1 ev_ asm_ mem_ nth_) ?_); (refine asg_ ?_); refine sn_ ?_; (apply sc_ret); (apply ret_ok; (focus ((apply Res.tmp; (exact ev_)); exact Res.nil)); (exact ⟨rfl, rfl⟩); (exact sel_); (exact appb_)))
theorem sanity_tri : TriQ Try.prog 9 #[] [] (.bool true) := tri_of_calls fun w => (Go.Rc.chk_ok2 Go.Rc.noOrc_ok sane.run .nil w).mono fun e w' ⟨he, h1, h2⟩ => ⟨he, h1, h2⟩
/-- the law's first argument: a slice of truth values in the caller's memory -/
def BArg (v : Value) (P0 : List Blk) : Prop := ∃ (p : Option Addr) (n cap : Nat), v = .slice p n cap ∧ n ≤ 9223372036854775807 ∧ (n ≠ 0 → ∃ b o c T fz, p = some ⟨b, o, none⟩ ∧ (b, Obj.cells (List.toArray c) T fz) ∈ P0 ∧ ∀ i, i < n → ∃ w : Bool, c[o + i * 1]? = some (.bool w))
theorem wrap_b {i : Nat} (h : i < 8) : IntKind.u8.wrap (97 + (i : Int)) = 97 + (i : Int) := by
  have : i = 0 ∨ i = 1 ∨ i = 2 ∨ i = 3 ∨ i = 4 ∨ i = 5 ∨ i = 6 ∨ i = 7 := by omega
  rcases this with rfl | rfl | rfl | rfl | rfl | rfl | rfl | rfl <;> rfl
set_option maxHeartbeats 8000000 in
theorem back_walk {wv : Value} {P0 : List Blk} (hA : BArg wv P0) (to : Int) : Tri Try.prog 6 #[wv, .int .i64 to] P0 fun v L => v = .bool true ∧ L = P0 := by
  have f_mixed := mixed; have f_by3 := by3; have f_by4 := by4; have f_by5 := by5; have f_en10 := en10; have f_en11 := en11; have f_en13 := en13; have f_en14 := en14; have f_en15 := en15; have f_en17 := en17; have f_en18 := en18; have f_en20 := en20; have f_en22 := en22; have f_en24 := en24; have f_en28 := en28; have f_en29 := en29; have f_en30 := en30; have f_en31 := en31; have f_en32 := en32; have f_en9 := en9; have f_ty3 := ty3; have f_ty36 := ty36; have f_ty4 := ty4; have f_ty42 := ty42; have f_ty5 := ty5; have f_ty58 := ty58; have f_un_3 : Und Try.prog 3 _ := ⟨Try.underlying3⟩; have f_un_36 : Und Try.prog 36 _ := ⟨Try.underlying36⟩; have f_un_42 : Und Try.prog 42 _ := ⟨Try.underlying42⟩; have f_un_5 : Und Try.prog 5 _ := ⟨Try.underlying5⟩; have f_un_58 : Und Try.prog 58 _ := ⟨Try.underlying58⟩; have f_un_9 : Und Try.prog 9 _ := ⟨Try.underlying9⟩; have f_zero3 := zero3; have f_zero4 := zero4; have f_zero5 := zero5; have f_zv3 := zv3; have f_zv4 := zv4; have f_zv5 := zv5
  obtain ⟨p, n, cap, rfl, hn, hget⟩ := hA
  refine tri_intro (args := [_, _]) Try.func6 rfl Try.ntmps6 rfl (rs := _) rfl rfl fun E R => ?_
  simp only [fr, List.cons_append, List.nil_append]
  (refine sr_ ?_; (refine ac_ ?_); refine sn_ ?_; refine sr_ ?_; (apply so_callq; (exact Ev.func); (focus (exact EvL.nil)); (focus (repeat (first | exact App.nil | apply App.cons))); assumption; exact sanity_tri; (exact sel_); exact rfl); (refine asg_ ?_); refine sn_ ?_; (apply sc_seq); (apply sc_region))
  (apply so_call; (exact Ev.func); (focus ((apply EvL.cons; (exact Ev.const)); exact EvL.nil)); (focus (repeat (first | exact App.nil | apply App.cons))); assumption; (exact newN_tri); (exact sel_); exact rfl)
  rintro v L0 ⟨tb, rfl, hT0⟩
  ((refine asg_ ?_); refine sn_ ?_; refine sr_ ?_; (refine mv_ ?_))
  (apply so_call; (exact Ev.func); (focus ((apply EvL.cons; (exact ev_)); (apply EvL.cons; (exact Ev.const)); exact EvL.nil)); (focus (repeat (first | exact App.nil | apply App.cons))); assumption; (exact begin0_tri hT0 (by omega) 1); (exact sel_); exact rfl)
  rintro v L1 ⟨⟨id, e, rfl, hid⟩, hT1⟩
  obtain rfl : id = 1 := hid (by kernel_rfl) (by decide)
  ((refine mv_ ?_); (refine se_ (ex_extract ev_ nth_) ?_); (refine se_ (ex_extract ev_ nth_) ?_); (refine asg_ ?_); (refine asg_ ?_); refine sn_ ?_; refine sr_ ?_; (refine ac_ ?_); refine sn_ ?_; (apply sc_seq); refine sr_ ?_; (refine ac_ ?_); refine sn_ ?_; (apply sc_block))
  refine SC.mono (Q := fun u f L => u = .exit 0 ∧ ∃ (i : Nat) (T : Ts) (t : Tx) (L2 : List Blk) (zs : List Int) (p9 : Option Addr) (cap9 : Nat) (B9 : List Blk), i ≤ 8 ∧ i ≤ n ∧ zs.length = i ∧ BInv i T t false ∧ TsIn 1 T tb L2 ∧ Row 3 1 (.slice p9 zs.length cap9) (zs.map (Value.int .i64)) B9 ∧ At f 0 (.slice p n cap) ∧ At f 1 (.int .i64 to) ∧ At f 5 (.bool true) ∧ At f 6 (tP tb) ∧ At f 7 (.int .i64 1) ∧ At f 9 (.slice p9 zs.length cap9) ∧ Held L (L2 ++ (B9 ++ P0)) R) ?_ ?_
  · refine sc_loop (fun k f L => ∃ (i : Nat) (T : Ts) (t : Tx) (L2 : List Blk) (zs : List Int) (p9 : Option Addr) (cap9 : Nat) (B9 : List Blk), k = 8 - i ∧ i ≤ 8 ∧ i ≤ n ∧ zs.length = i ∧ BInv i T t false ∧ TsIn 1 T tb L2 ∧ Row 3 1 (.slice p9 zs.length cap9) (zs.map (Value.int .i64)) B9 ∧ At f 0 (.slice p n cap) ∧ At f 1 (.int .i64 to) ∧ At f 5 (.bool true) ∧ At f 6 (tP tb) ∧ At f 7 (.int .i64 1) ∧ At f 9 (.slice p9 zs.length cap9) ∧ At f 10 (.int .i64 (i : Int)) ∧ Held L (L2 ++ (B9 ++ P0)) R)
      _ ⟨0, _, _, L1, [], none, 0, [], rfl, by omega, Nat.zero_le _, rfl, b_begin, hT1, .nil, at_, at_, at_, at_, at_, at_, at_, held_⟩ ?_
    rintro k f L ⟨i, T, t, L2, zs, p9, cap9, B9, hk, hi8, hin, hzl, hB, hT, hrow, a0, a1, a5, a6, a7, a9, a10, ⟨G, hG⟩⟩
    refine sc_perm hG ?_
    clear hG
    simp only [List.append_assoc]
    by_cases hlt : i < n
    · have hlt' : (i : Int) < (n : Int) := by omega
      by_cases h8 : i < 8
      · have h8' : (i : Int) < 8 := by omega
        have e1 : ((i + 1 : Nat) : Int) = (i : Int) + 1 := by omega
        have hT2 := hT
        obtain ⟨cb, mm, es, cl, ρ, rfl, hok⟩ := hT
        have c1 := clock_tri T tb cb mm
        have c2 := now_tri T.c cb
        have hsv := save_tri hT2 1 (nmS i)
        have f_wb := wrap_b h8
        obtain ⟨hso, t', hB'⟩ := b_save hB h8
        unfold TsB at hsv ⊢
        unfold nmS at hsv
        simp only [List.append_assoc, List.cons_append, List.nil_append] at hsv ⊢
        obtain ⟨bw, ow, cw, Tw, fzw, rfl, hmw, hcw⟩ := hget (by omega)
        obtain ⟨w, hw⟩ := hcw i hlt
        have hb9 : zs.length ≤ 1000000000 := by omega
        ((apply sc_seq); refine sr_ ?_; (refine mv_ ?_); (refine mv_ ?_); (refine se_ (ex_len_slice ev_ asm_) ?_); (refine se_ (ex_lss_t ev_ ev_ om_) ?_); (refine mv_ ?_); (refine wt_ ?_); (refine mv_ ?_); (refine wt_ ?_); (refine se_ (ex_lss_t ev_ .const om_) ?_); (refine se_ (ex_pick_t ev_ ev_) ?_); refine sn_ ?_; (refine ct_ ?_); (apply sc_skip); (apply nm_then); (apply sc_seq); (apply sc_block); refine sr_ ?_; (refine mv_ ?_); (refine mv_ ?_); (apply so_callq; (exact Ev.func); (focus ((apply EvL.cons; (exact ev_)); exact EvL.nil)); (focus (repeat (first | exact App.nil | apply App.cons))); assumption; exact c1; (exact sel_); exact rfl); (apply so_callq; (exact Ev.func); (focus ((apply EvL.cons; (exact ev_)); exact EvL.nil)); (focus (repeat (first | exact App.nil | apply App.cons))); assumption; exact c2; (exact sel_); exact rfl); (apply so_buildS; (focus ((apply EvP.cons; (exact ev_)); exact EvP.nil)); assumption; assumption; assumption; (focus (repeat (first | exact SeqP.nil | (apply SeqP.cons; exact rfl; exact rfl) | exact App.nil | apply App.cons))); exact rfl; exact rfl; exact rfl; intro _); (apply so_appI; (exact ev_); (exact ev_); exact hrow; (exact sel_); (exact mem_); exact hb9; assumption; assumption; assumption; assumption; exact rfl; intro o' cap' B' hrow'); (refine asg_ ?_); refine sn_ ?_; refine sr_ ?_; (refine mv_ ?_); (refine mv_ ?_); (refine mv_ ?_); (refine se_ (ex_add .const ev_ wr_) ?_); (apply so_ex; (apply ex_convert; (exact ev_); assumption; assumption; (first | assumption | exact rfl)); exact rfl); (apply so_buildS; (focus ((apply EvP.cons; (exact ev_)); exact EvP.nil)); assumption; assumption; assumption; (focus (repeat (first | exact SeqP.nil | (apply SeqP.cons; exact rfl; exact rfl) | exact App.nil | apply App.cons))); exact rfl; exact rfl; exact rfl; intro _); (refine se_ (ex_bytes1 ev_ mem_ asm_ asm_ asm_) ?_))
        (apply so_call; (exact Ev.func); (focus ((apply EvL.cons; (exact ev_)); (apply EvL.cons; (exact ev_)); (apply EvL.cons; (exact ev_)); exact EvL.nil)); (focus (repeat (first | exact App.nil | apply App.cons))); assumption; (exact hsv); (exact sel_); exact rfl)
        rintro v L3 ⟨⟨e, rfl, he⟩, hT3⟩
        obtain rfl : e = 0 := he hso
        try simp only [List.append_assoc, List.cons_append, List.nil_append]
        cases w with
        | true =>
          ((refine asg_ ?_); refine sn_ ?_; (apply sc_seq); refine sr_ ?_; (refine mv_ ?_); (refine se_ (ex_neq_f ev_ .const om_) ?_); refine sn_ ?_; (refine cf_ ?_); (apply sc_skip); (apply nm_then); refine sr_ ?_; (refine mv_ ?_); (refine mv_ ?_); (refine se_ (ex_indexAddr ev_ ev_ asm_ asm_ lit_ lt_) ?_); (apply so_ex; (apply ex_load1r; (exact ev_); assumption; (exact mem_); exact hw); exact rfl); refine sn_ ?_; (refine ct_ ?_); (apply sc_region); (refine mv_ ?_); (refine mv_ ?_))
          (apply so_call; (exact Ev.func); (focus ((apply EvL.cons; (exact ev_)); (apply EvL.cons; (exact ev_)); exact EvL.nil)); (focus (repeat (first | exact App.nil | apply App.cons))); assumption; (exact xid_tri hT3 1); (exact sel_); exact rfl)
          rintro v L4 ⟨⟨n', e', rfl⟩, hT4⟩
          obtain ⟨t2, hB2⟩ := b_xid hB'
          try simp only [List.append_assoc, List.cons_append, List.nil_append]
          ((apply so_nil); (apply nm_block); (apply nm_then); (apply sc_region); (refine mv_ ?_); (refine se_ (ex_add ev_ .const wr_) ?_); (refine asg_ ?_); (apply so_nil); (apply nm_then))
          exact ⟨8 - (i + 1), by omega, i + 1, _, t2, L4, zs ++ [T.c.next], o', cap', B', rfl, by omega, by omega, by rw [List.length_append, hzl]; rfl, hB2, hT4, hrow', at_, at_, at_, at_, at_, at_, by rw [e1]; exact at_, held_⟩
        | false =>
          ((refine asg_ ?_); refine sn_ ?_; (apply sc_seq); refine sr_ ?_; (refine mv_ ?_); (refine se_ (ex_neq_f ev_ .const om_) ?_); refine sn_ ?_; (refine cf_ ?_); (apply sc_skip); (apply nm_then); refine sr_ ?_; (refine mv_ ?_); (refine mv_ ?_); (refine se_ (ex_indexAddr ev_ ev_ asm_ asm_ lit_ lt_) ?_); (apply so_ex; (apply ex_load1r; (exact ev_); assumption; (exact mem_); exact hw); exact rfl); refine sn_ ?_; (refine cf_ ?_); (apply sc_skip); (apply nm_block); (apply nm_then); (apply sc_region); (refine mv_ ?_); (refine se_ (ex_add ev_ .const wr_) ?_); (refine asg_ ?_); (apply so_nil); (apply nm_then))
          exact ⟨8 - (i + 1), by omega, i + 1, _, t', L3, zs ++ [T.c.next], o', cap', B', rfl, by omega, by omega, by rw [List.length_append, hzl]; rfl, hB', hT3, hrow', at_, at_, at_, at_, at_, at_, by rw [e1]; exact at_, held_⟩
      · have h8' : ¬ (i : Int) < 8 := by omega
        ((apply sc_seq); refine sr_ ?_; (refine mv_ ?_); (refine mv_ ?_); (refine se_ (ex_len_slice ev_ asm_) ?_); (refine se_ (ex_lss_t ev_ ev_ om_) ?_); (refine mv_ ?_); (refine wt_ ?_); (refine mv_ ?_); (refine wt_ ?_); (refine se_ (ex_lss_f ev_ .const om_) ?_); (refine se_ (ex_pick_t ev_ ev_) ?_); refine sn_ ?_; (refine cf_ ?_); (apply sc_exit); (apply et_then); (apply et_then))
        exact ⟨rfl, i, T, t, L2, zs, p9, cap9, B9, hi8, hin, hzl, hB, hT, hrow, at_, at_, at_, at_, at_, at_, held_⟩
    · have hlt' : ¬ (i : Int) < (n : Int) := by omega
      ((apply sc_seq); refine sr_ ?_; (refine mv_ ?_); (refine mv_ ?_); (refine se_ (ex_len_slice ev_ asm_) ?_); (refine se_ (ex_lss_f ev_ ev_ om_) ?_); (refine mv_ ?_); (refine sk_ ?_); (refine sk_ ?_); (refine se_ (ex_pick_f ev_ .const) ?_); refine sn_ ?_; (refine cf_ ?_); (apply sc_exit); (apply et_then); (apply et_then))
      exact ⟨rfl, i, T, t, L2, zs, p9, cap9, B9, hi8, hin, hzl, hB, hT, hrow, at_, at_, at_, at_, at_, at_, held_⟩
  rintro u f L ⟨rfl, i, T, t, L2, zs, p9, cap9, B9, hi8, hin, hzl, hB, hT, hrow, a0, a1, a5, a6, a7, a9, ⟨G, hG⟩⟩
  refine et_hit (nm_then (sc_perm hG ?_))
  clear hG
  try simp only [List.append_assoc]
  by_cases hi0 : i = 0
  · have h0' : (zs.length : Int) = 0 := by omega
    ((apply sc_seq); refine sr_ ?_; (refine mv_ ?_); (refine se_ (ex_len_slice ev_ asm_) ?_); (refine se_ (ex_eql_t ev_ .const om_) ?_); refine sn_ ?_; (refine ct_ ?_); refine sr_ ?_; (refine mv_ ?_); (refine asg_ ?_); refine sn_ ?_; (apply sc_ret); (apply rt_then); (apply ret_ok; (focus ((apply Res.tmp; (exact ev_)); exact Res.nil)); (exact ⟨rfl, rfl⟩); (exact sel_); (exact appb_)))
  have h0' : ¬ (zs.length : Int) = 0 := by omega
  have crest := rest_tri to zs.length (by omega) (by omega)
  obtain ⟨kN, hkN⟩ : ∃ kN : Nat, to % (zs.length : Int) = (kN : Int) := ⟨(to % (zs.length : Int)).toNat, by rw [Int.toNat_of_nonneg (Int.emod_nonneg _ h0')]⟩
  have hkl : kN < i := by have := Int.emod_lt_of_pos to (b := (zs.length : Int)) (by omega); omega
  rw [hkN] at crest
  ((apply sc_seq); refine sr_ ?_; (refine mv_ ?_); (refine se_ (ex_len_slice ev_ asm_) ?_); (refine se_ (ex_eql_f ev_ .const om_) ?_); refine sn_ ?_; (refine cf_ ?_); (apply sc_skip); (apply nm_then); refine sr_ ?_; (refine mv_ ?_); (refine mv_ ?_); (refine se_ (ex_len_slice ev_ asm_) ?_); (apply so_callq; (exact Ev.func); (focus ((apply EvL.cons; (exact ev_)); (apply EvL.cons; (exact ev_)); exact EvL.nil)); (focus (repeat (first | exact App.nil | apply App.cons))); assumption; exact crest; (exact sel_); exact rfl); (refine asg_ ?_); refine sn_ ?_; refine sr_ ?_; (refine mv_ ?_); (refine mv_ ?_))
  have hown : ownT T 1 = t.own := by unfold ownT; rw [hB.find]; rfl
  have co := own_tri hT 1
  rw [hown] at co
  (apply so_call; (exact Ev.func); (focus ((apply EvL.cons; (exact ev_)); (apply EvL.cons; (exact ev_)); exact EvL.nil)); (focus (repeat (first | exact App.nil | apply App.cons))); assumption; (exact co); (exact sel_); exact rfl)
  rintro v L3 ⟨B3, ⟨p3, cap3, rfl, hrow3⟩, rfl⟩
  try simp only [List.append_assoc]
  ((refine asg_ ?_); refine sn_ ?_; refine sr_ ?_; (refine mv_ ?_); (refine mv_ ?_))
  (apply so_call; (exact Ev.func); (focus ((apply EvL.cons; (exact ev_)); (apply EvL.cons; (exact ev_)); (apply EvL.cons; (exact Ev.const)); exact EvL.nil)); (focus (repeat (first | exact App.nil | apply App.cons))); assumption; (exact fail_tri hT 1 true); (exact sel_); exact rfl)
  rintro v L4 ⟨rfl, hT4⟩
  have hBf := b_fail hB
  have hk8 : kN < 8 := by omega
  have f_wb := wrap_b hk8
  obtain ⟨gl, t2, hbo, hI5, hl5, hid5, hf5, hp5, hsum, hkp, hgl9, hgl⟩ := b_back hBf hi8 hkl
  have hbk := back_tri hT4 (by omega) 1 (nmS kN)
  generalize hT5e : (T.fail 1 true).back 1 (nmS kN) = T5 at hbk hI5 hl5 hgl
  unfold nmS at hbk
  try simp only [List.append_assoc]
  (refine sn_ ?_; refine sr_ ?_; (refine mv_ ?_); (refine mv_ ?_); (refine mv_ ?_); (refine se_ (ex_add .const ev_ wr_) ?_); (apply so_ex; (apply ex_convert; (exact ev_); assumption; assumption; (first | assumption | exact rfl)); exact rfl); (apply so_buildS; (focus ((apply EvP.cons; (exact ev_)); exact EvP.nil)); assumption; assumption; assumption; (focus (repeat (first | exact SeqP.nil | (apply SeqP.cons; exact rfl; exact rfl) | exact App.nil | apply App.cons))); exact rfl; exact rfl; exact rfl; intro _); (refine se_ (ex_bytes1 ev_ mem_ asm_ asm_ asm_) ?_))
  (apply so_call; (exact Ev.func); (focus ((apply EvL.cons; (exact ev_)); (apply EvL.cons; (exact ev_)); (apply EvL.cons; (exact ev_)); exact EvL.nil)); (focus (repeat (first | exact App.nil | apply App.cons))); assumption; (exact hbk); (exact sel_); exact rfl)
  rintro v L5 ⟨p5, n5, cap5, e5, B5, L6, rfl, hR5, hT5, rfl⟩
  obtain ⟨rfl, hg5⟩ := hR5.1 gl hbo
  obtain ⟨p5', cap5', hv5, hrow5⟩ := hg5
  injection hv5 with h1 h2 h3
  subst h1 h2 h3
  try simp only [List.append_assoc]
  have hfd5 : findT T5.l 1 = some t2 := by unfold findT; rw [hl5, List.find?_cons, hid5]; rfl
  have hown5 : ownT T5 1 = t2.own := by unfold ownT; rw [hfd5]; rfl
  have co5 := own_tri hT5 1
  rw [hown5] at co5
  have cfl := failed_tri hT5 1
  have hfl5 : failedT T5 1 = false := by unfold failedT; rw [hfd5]; exact hf5
  rw [hfl5] at cfl
  have hsum2 : gl.length + t2.own.length = t.own.length := hsum
  have hsum3 : (gl.length : Int) + (t2.own.length : Int) = (t.own.length : Int) := by omega
  ((refine mv_ ?_); (refine se_ (ex_extract ev_ nth_) ?_); (refine se_ (ex_extract ev_ nth_) ?_); (refine asg_ ?_); (refine asg_ ?_); refine sn_ ?_; refine sr_ ?_; (refine mv_ ?_); (refine mv_ ?_))
  (apply so_call; (exact Ev.func); (focus ((apply EvL.cons; (exact ev_)); (apply EvL.cons; (exact ev_)); exact EvL.nil)); (focus (repeat (first | exact App.nil | apply App.cons))); assumption; (exact co5); (exact sel_); exact rfl)
  rintro v L7 ⟨B7, ⟨p7, cap7, rfl, hrow7⟩, rfl⟩
  try simp only [List.append_assoc]
  ((refine asg_ ?_); refine sn_ ?_; (apply sc_seq); refine sr_ ?_; (refine mv_ ?_); (refine se_ (ex_neq_f ev_ .const om_) ?_); (refine mv_ ?_); (refine wt_ ?_); (refine mv_ ?_); (refine wt_ ?_); (refine mv_ ?_); (refine wt_ ?_); (apply so_callq; (exact Ev.func); (focus ((apply EvL.cons; (exact ev_)); (apply EvL.cons; (exact ev_)); exact EvL.nil)); (focus (repeat (first | exact App.nil | apply App.cons))); assumption; exact cfl; (exact sel_); exact rfl); (refine se_ (ex_pick_f ev_ ev_) ?_); (refine mv_ ?_); (refine wt_ ?_); (refine mv_ ?_); (refine wt_ ?_); (refine se_ (ex_len_slice ev_ asm_) ?_); (refine wt_ ?_); (refine mv_ ?_); (refine wt_ ?_); (refine se_ (ex_len_slice ev_ asm_) ?_); (refine wt_ ?_); (refine se_ (ex_add ev_ ev_ wr_) ?_); (refine wt_ ?_); (refine mv_ ?_); (refine wt_ ?_); (refine se_ (ex_len_slice ev_ asm_) ?_); (refine wt_ ?_); (refine se_ (ex_neq_f ev_ ev_ om_) ?_); (refine se_ (ex_pick_f ev_ ev_) ?_); refine sn_ ?_; (refine cf_ ?_); (apply sc_skip); (apply nm_then); refine sr_ ?_; (refine ac_ ?_); refine sn_ ?_; (apply sc_seq); refine sr_ ?_; (refine ac_ ?_); refine sn_ ?_; (apply sc_block))
  refine sc_loop (fun k f L => ∃ (j : Nat) (a : Bool), k = kN - j ∧ j ≤ kN ∧ At f 0 (.slice p n cap) ∧ At f 5 (.bool true) ∧ At f 6 (tP tb) ∧ At f 7 (.int .i64 1) ∧ At f 12 (.int .i64 (kN : Int)) ∧ At f 14 (.slice p5 gl.length cap5) ∧ At f 16 (.slice p7 t2.own.length cap7) ∧ At f 17 (.bool a) ∧ At f 18 (.int .i64 (j : Int)) ∧ Held L (L6 ++ (B7 ++ (B5 ++ P0))) R)
    _ ⟨0, false, rfl, Nat.zero_le _, at_, at_, at_, at_, at_, at_, at_, at_, at_, held_⟩ ?_
  clear a0 a1 a5 a6 a7 a9
  rintro k f L ⟨j, a, hk, hj, a0, a5, a6, a7, a12, a14, a16, a17, a18, ⟨G2, hG⟩⟩
  refine sc_perm hG ?_
  clear hG
  try simp only [List.append_assoc]
  by_cases hjk : j < kN
  · have hjk' : (j : Int) < (kN : Int) := by omega
    have e1 : ((j + 1 : Nat) : Int) = (j : Int) + 1 := by omega
    obtain ⟨bw, ow, cw, Tw, fzw, rfl, hmw, hcw⟩ := hget (by omega)
    obtain ⟨w, hw⟩ := hcw j (by omega)
    have hjn : (j : Int) < (n : Int) := by omega
    cases a with
    | true =>
      ((apply sc_seq); refine sr_ ?_; (refine mv_ ?_); (refine mv_ ?_); (refine se_ (ex_lss_t ev_ ev_ om_) ?_); refine sn_ ?_; (refine ct_ ?_); (apply sc_skip); (apply nm_then); (apply sc_seq); (apply sc_block); (apply sc_region); (refine mv_ ?_); (refine mv_ ?_); (refine sk_ ?_); (refine sk_ ?_); (refine sk_ ?_); (refine sk_ ?_); (refine se_ (ex_pick_t ev_ .const) ?_); (refine asg_ ?_); (apply so_nil); (apply nm_block); (apply nm_then); (apply sc_region); (refine mv_ ?_); (refine se_ (ex_add ev_ .const wr_) ?_); (refine asg_ ?_); (apply so_nil); (apply nm_then))
      exact ⟨kN - (j + 1), by omega, j + 1, true, rfl, by omega, at_, at_, at_, at_, at_, at_, at_, at_, by rw [e1]; exact at_, held_⟩
    | false =>
      ((apply sc_seq); refine sr_ ?_; (refine mv_ ?_); (refine mv_ ?_); (refine se_ (ex_lss_t ev_ ev_ om_) ?_); refine sn_ ?_; (refine ct_ ?_); (apply sc_skip); (apply nm_then); (apply sc_seq); (apply sc_block); (apply sc_region); (refine mv_ ?_); (refine mv_ ?_); (refine wt_ ?_); (refine mv_ ?_); (refine wt_ ?_); (refine mv_ ?_); (refine wt_ ?_); (refine se_ (ex_indexAddr ev_ ev_ asm_ asm_ lit_ lt_) ?_); (refine wt_ ?_); (apply so_ex; (apply ex_load1r; (exact ev_); assumption; (exact mem_); exact hw); exact rfl); (refine se_ (ex_pick_f ev_ ev_) ?_); (refine asg_ ?_); (apply so_nil); (apply nm_block); (apply nm_then); (apply sc_region); (refine mv_ ?_); (refine se_ (ex_add ev_ .const wr_) ?_); (refine asg_ ?_); (apply so_nil); (apply nm_then))
      exact ⟨kN - (j + 1), by omega, j + 1, w, rfl, by omega, at_, at_, at_, at_, at_, at_, at_, at_, by rw [e1]; exact at_, held_⟩
  have hjk' : ¬ (j : Int) < (kN : Int) := by omega
  ((apply sc_seq); refine sr_ ?_; (refine mv_ ?_); (refine mv_ ?_); (refine se_ (ex_lss_f ev_ ev_ om_) ?_); refine sn_ ?_; (refine cf_ ?_); (apply sc_exit); (apply et_then); (apply et_then); (apply et_hit); (apply nm_then); (apply sc_seq); refine sr_ ?_; (refine ac_ ?_); refine sn_ ?_; (apply sc_block))
  have hT52 := hT5
  obtain ⟨cb, mm, es, cl, ρ, rfl, hok5⟩ := hT5
  have c1 := clock_tri T5 tb cb mm
  unfold TsB at hT52 ⊢
  try simp only [List.append_assoc, List.cons_append, List.nil_append] at hT52 ⊢
  refine sc_loop (fun k f L => ∃ (j : Nat), k = gl.length - j ∧ j ≤ gl.length ∧ At f 5 (.bool true) ∧ At f 6 (tP tb) ∧ At f 7 (.int .i64 1) ∧ At f 12 (.int .i64 (kN : Int)) ∧ At f 14 (.slice p5 gl.length cap5) ∧ At f 16 (.slice p7 t2.own.length cap7) ∧ At f 17 (.bool a) ∧ At f 19 (.int .i64 (j : Int)) ∧ Held L (hdr T5 tb cb mm :: (mm, .map es cl) :: cB cb T5.c :: (PB ρ T5.l ++ (B7 ++ (B5 ++ P0)))) R)
    _ ⟨0, rfl, Nat.zero_le _, at_, at_, at_, at_, at_, at_, at_, at_, held_⟩ ?_
  clear a0 a5 a6 a7 a12 a14 a16 a17 a18 hk hj hjk hjk'
  clear j k
  rintro k f L ⟨j, hk, hj, a5, a6, a7, a12, a14, a16, a17, a19, ⟨G3, hG⟩⟩
  refine sc_perm hG ?_
  clear hG
  try simp only [List.append_assoc, List.cons_append, List.nil_append]
  by_cases hjg : j < gl.length
  · have hjg' : (j : Int) < (gl.length : Int) := by omega
    have e1 : ((j + 1 : Nat) : Int) = (j : Int) + 1 := by omega
    obtain ⟨b8, junk8, rfl, rfl⟩ := row_block hrow5 (by omega)
    have hz := zs_nth (junk := junk8) hjg
    obtain ⟨hs3, hx2, hhas⟩ := hgl _ (List.getElem_mem hjg)
    generalize gl[j] = x at hz hs3 hx2 hhas
    have cst := state_tri hok5.ck cb x
    have cof := of_tri (tb := tb) (cb := cb) (mm := mm) hok5 (by omega) (by rw [hl5]; exact List.mem_singleton.2 rfl) hhas hx2 (by omega) (fun u hu _ => by rw [hl5] at hu; exact List.mem_singleton.1 hu)
    rw [hs3] at cst
    rw [hid5] at cof
    unfold TsB at cof
    try simp only [List.append_assoc, List.cons_append, List.nil_append]
    ((apply sc_seq); refine sr_ ?_; (refine mv_ ?_); (refine mv_ ?_); (refine se_ (ex_len_slice ev_ asm_) ?_); (refine se_ (ex_lss_t ev_ ev_ om_) ?_); refine sn_ ?_; (refine ct_ ?_); (apply sc_skip); (apply nm_then); (apply sc_seq); (apply sc_block); (apply sc_seq); (apply sc_quiet (id := 31); assumption; kernel_rfl); (refine qe_ (ex_move ev_) ?_); (apply sq_call; (exact Ev.func); (focus ((apply EvL.cons; (exact ev_)); exact EvL.nil)); (focus (repeat (first | exact App.nil | apply App.cons))); assumption; exact c1; (exact sel_); exact rfl); (refine qe_ (ex_move ev_) ?_); (refine qe_ (ex_move ev_) ?_); (refine qe_ (ex_indexAddr ev_ ev_ asm_ asm_ lit_ lt_) ?_); (apply sq_ex; (apply ex_load1r; (exact ev_); assumption; (exact mem_); exact hz); exact rfl); (apply sq_call; (exact Ev.func); (focus ((apply EvL.cons; (exact ev_)); (apply EvL.cons; (exact ev_)); exact EvL.nil)); (focus (repeat (first | exact App.nil | apply App.cons))); assumption; exact cst; (exact sel_); exact rfl); (refine qe_ (ex_neq_f ev_ .const om_) ?_); (refine qe_ (ex_move ev_) ?_); (refine qw_ ?_); (refine qe_ (ex_move ev_) ?_); (refine qw_ ?_); (refine qe_ (ex_move ev_) ?_); (refine qw_ ?_); (refine qe_ (ex_move ev_) ?_); (refine qw_ ?_); (refine qe_ (ex_indexAddr ev_ ev_ asm_ asm_ lit_ lt_) ?_); (refine qw_ ?_); (apply sq_ex; (apply ex_load1r; (exact ev_); assumption; (exact mem_); exact hz); exact rfl); (refine qw_ ?_); (apply sq_call; (exact Ev.func); (focus ((apply EvL.cons; (exact ev_)); (apply EvL.cons; (exact ev_)); exact EvL.nil)); (focus (repeat (first | exact App.nil | apply App.cons))); assumption; exact cof; (exact sel_); exact rfl); (refine qw_ ?_); (refine qe_ (ex_move ev_) ?_); (refine qw_ ?_); (refine qe_ (ex_neq_f ev_ ev_ om_) ?_); (refine qe_ (ex_pick_f ev_ ev_) ?_); (apply sq_nil); (apply nm_then); (refine cf_ ?_); (apply sc_skip); (apply nm_block); (apply nm_then); (apply sc_region); (refine mv_ ?_); (refine se_ (ex_add ev_ .const wr_) ?_); (refine asg_ ?_); (apply so_nil); (apply nm_then))
    exact ⟨gl.length - (j + 1), by omega, j + 1, rfl, by omega, at_, at_, at_, at_, at_, at_, at_, by rw [e1]; exact at_, held_⟩
  have hjg' : ¬ (j : Int) < (gl.length : Int) := by omega
  have hkp2 : ¬ (t2.own.length : Int) > (kN : Int) + 1 := by omega
  ((apply sc_seq); (apply sc_seq); ((fail_if_success (apply sc_region (id := 33))); apply sc_region); (refine mv_ ?_); (refine mv_ ?_); (refine se_ (ex_len_slice ev_ asm_) ?_); (refine se_ (ex_lss_f ev_ ev_ om_) ?_); refine sn_ ?_; (refine cf_ ?_); (apply sc_exit); (apply et_then); (apply et_then); (apply et_hit); (apply nm_then); (apply sc_seq); (apply sc_seq))
  refine SC.mono (Q := fun u f L => u = .normal ∧ At f 155 (.bool false) ∧ At f 5 (.bool true) ∧ At f 6 (tP tb) ∧ At f 7 (.int .i64 1) ∧ At f 16 (.slice p7 t2.own.length cap7) ∧ Held L (hdr T5 tb cb mm :: (mm, .map es cl) :: cB cb T5.c :: (PB ρ T5.l ++ (B7 ++ (B5 ++ P0)))) R) ?_ ?_
  · cases a with
    | true => ((apply sc_region); (refine mv_ ?_); (refine se_ (ex_not ev_) ?_); (refine mv_ ?_); (refine sk_ ?_); (refine sk_ ?_); (refine sk_ ?_); (refine sk_ ?_); (refine sk_ ?_); (refine se_ (ex_pick_f ev_ .const) ?_); (apply so_nil); (apply And.intro rfl; exact ⟨at_, at_, at_, at_, at_, held_⟩))
    | false => ((apply sc_region); (refine mv_ ?_); (refine se_ (ex_not ev_) ?_); (refine mv_ ?_); (refine wt_ ?_); (refine mv_ ?_); (refine wt_ ?_); (refine se_ (ex_len_slice ev_ asm_) ?_); (refine wt_ ?_); (refine mv_ ?_); (refine wt_ ?_); (refine se_ (ex_add ev_ .const wr_) ?_); (refine wt_ ?_); (refine se_ (ex_gtr_f ev_ ev_ om_) ?_); (refine se_ (ex_pick_t ev_ ev_) ?_); (apply so_nil); (apply And.intro rfl; exact ⟨at_, at_, at_, at_, at_, held_⟩))
  clear a5 a6 a7 a12 a14 a16 a17 a19 hk hj hjg hjg'
  clear j k
  rintro u f L ⟨rfl, a155, a5, a6, a7, a16, ⟨G4, hG⟩⟩
  apply nm_then
  refine sc_perm hG ?_
  clear hG
  try simp only [List.append_assoc, List.cons_append, List.nil_append]
  obtain ⟨_, hnone, hst2⟩ := b_done hI5 hl5 hid5 hf5 hp5
  have hdn := done_tri hT52 1 true
  ((refine cf_ ?_); (apply sc_skip); (apply nm_then); refine sr_ ?_; (refine mv_ ?_); (refine mv_ ?_))
  (apply so_call; (exact Ev.func); (focus ((apply EvL.cons; (exact ev_)); (apply EvL.cons; (exact ev_)); (apply EvL.cons; (exact Ev.const)); exact EvL.nil)); (focus (repeat (first | exact App.nil | apply App.cons))); assumption; (exact hdn); (exact sel_); exact rfl)
  rintro v L8 ⟨p8, n8, cap8, e8, B8, L9, rfl, hD, hT8, rfl⟩
  obtain ⟨rfl, hg8⟩ := hD t2 hfd5 (by rw [hf5]; simp)
  obtain ⟨p8', cap8', hv8, hrow8⟩ := hg8
  injection hv8 with h1 h2 h3
  subst h1 h2 h3
  obtain ⟨cb8, mm8, es8, cl8, ρ8, rfl, hok8⟩ := hT8
  have hown2 : xidsOf t2.lvs = t2.own := rfl
  rw [hown2] at hrow8 ⊢
  have cn := nums_tri (xs := t2.own) (ys := t2.own) ⟨_, _, rfl, hrow8⟩ ⟨_, _, rfl, hrow7⟩ (by omega) (by omega)
  rw [decide_eq_true rfl] at cn
  try simp only [List.append_assoc, List.cons_append, List.nil_append]
  ((refine mv_ ?_); (refine se_ (ex_extract ev_ nth_) ?_); (refine se_ (ex_extract ev_ nth_) ?_); (refine asg_ ?_); (refine asg_ ?_); refine sn_ ?_; refine sr_ ?_; (refine mv_ ?_); (refine mv_ ?_); (apply so_callq; (exact Ev.func); (focus ((apply EvL.cons; (exact ev_)); (apply EvL.cons; (exact ev_)); exact EvL.nil)); (focus (repeat (first | exact App.nil | apply App.cons))); assumption; exact cn; (exact sel_); exact rfl); (refine asg_ ?_); refine sn_ ?_; (apply sc_seq); refine sr_ ?_; (refine ac_ ?_); refine sn_ ?_; (apply sc_block))
  generalize T5.done 1 true = T8 at hnone hst2 hok8 hdn ⊢
  have c8 := clock_tri T8 tb cb8 mm8
  have hT82 : TsIn (1 + 9) T8 tb (TsB T8 tb cb8 mm8 es8 cl8 ρ8) := ⟨cb8, mm8, es8, cl8, ρ8, rfl, hok8⟩
  unfold TsB at hT82 ⊢
  try simp only [List.append_assoc, List.cons_append, List.nil_append] at hT82 ⊢
  refine sc_loop (fun k f L => ∃ (j : Nat), k = t2.own.length - j ∧ j ≤ t2.own.length ∧ At f 5 (.bool true) ∧ At f 6 (tP tb) ∧ At f 7 (.int .i64 1) ∧ At f 20 (.slice p8 t2.own.length cap8) ∧ At f 21 (.int .i64 0) ∧ At f 22 (.bool true) ∧ At f 23 (.int .i64 (j : Int)) ∧ Held L (hdr T8 tb cb8 mm8 :: (mm8, .map es8 cl8) :: cB cb8 T8.c :: (PB ρ8 T8.l ++ (B8 ++ P0))) R)
    _ ⟨0, rfl, Nat.zero_le _, at_, at_, at_, at_, at_, at_, at_, held_⟩ ?_
  clear a5 a6 a7 a16 a155
  rintro k f L ⟨j, hk, hj, a5, a6, a7, a20, a21, a22, a23, ⟨G5, hG⟩⟩
  refine sc_perm hG ?_
  clear hG
  try simp only [List.append_assoc, List.cons_append, List.nil_append]
  by_cases hjo : j < t2.own.length
  · have hjo' : (j : Int) < (t2.own.length : Int) := by omega
    have e1 : ((j + 1 : Nat) : Int) = (j : Int) + 1 := by omega
    obtain ⟨b9, junk9, rfl, rfl⟩ := row_block hrow8 (by omega)
    have hz := zs_nth (junk := junk9) hjo
    have hs2 := hst2 _ (List.getElem_mem hjo)
    generalize t2.own[j] = x at hz hs2
    have cst := state_tri hok8.ck cb8 x
    rw [hs2] at cst
    try simp only [List.append_assoc, List.cons_append, List.nil_append]
    ((apply sc_seq); refine sr_ ?_; (refine mv_ ?_); (refine mv_ ?_); (refine se_ (ex_len_slice ev_ asm_) ?_); (refine se_ (ex_lss_t ev_ ev_ om_) ?_); refine sn_ ?_; (refine ct_ ?_); (apply sc_skip); (apply nm_then); (apply sc_seq); (apply sc_block); (apply sc_seq); (apply sc_quiet (id := 40); assumption; kernel_rfl); (refine qe_ (ex_move ev_) ?_); (apply sq_call; (exact Ev.func); (focus ((apply EvL.cons; (exact ev_)); exact EvL.nil)); (focus (repeat (first | exact App.nil | apply App.cons))); assumption; exact c8; (exact sel_); exact rfl); (refine qe_ (ex_move ev_) ?_); (refine qe_ (ex_move ev_) ?_); (refine qe_ (ex_indexAddr ev_ ev_ asm_ asm_ lit_ lt_) ?_); (apply sq_ex; (apply ex_load1r; (exact ev_); assumption; (exact mem_); exact hz); exact rfl); (apply sq_call; (exact Ev.func); (focus ((apply EvL.cons; (exact ev_)); (apply EvL.cons; (exact ev_)); exact EvL.nil)); (focus (repeat (first | exact App.nil | apply App.cons))); assumption; exact cst; (exact sel_); exact rfl); (refine qe_ (ex_neq_f ev_ .const om_) ?_); (apply sq_nil); (apply nm_then); (refine cf_ ?_); (apply sc_skip); (apply nm_block); (apply nm_then); (apply sc_region); (refine mv_ ?_); (refine se_ (ex_add ev_ .const wr_) ?_); (refine asg_ ?_); (apply so_nil); (apply nm_then))
    exact ⟨t2.own.length - (j + 1), by omega, j + 1, rfl, by omega, at_, at_, at_, at_, at_, at_, by rw [e1]; exact at_, held_⟩
  have hjo' : ¬ (j : Int) < (t2.own.length : Int) := by omega
  have hb9 := back_tri hT82 (by omega) 1 ⟨#[97]⟩
  ((apply sc_seq); refine sr_ ?_; (refine mv_ ?_); (refine mv_ ?_); (refine se_ (ex_len_slice ev_ asm_) ?_); (refine se_ (ex_lss_f ev_ ev_ om_) ?_); refine sn_ ?_; (refine cf_ ?_); (apply sc_exit); (apply et_then); (apply et_then); (apply et_hit); (apply nm_then); refine sr_ ?_; (refine mv_ ?_); (refine mv_ ?_))
  (apply so_call; (exact Ev.func); (focus ((apply EvL.cons; (exact ev_)); (apply EvL.cons; (exact ev_)); (apply EvL.cons; (exact Ev.const)); exact EvL.nil)); (focus (repeat (first | exact App.nil | apply App.cons))); assumption; (exact hb9); (exact sel_); exact rfl)
  rintro v L10 ⟨p10, n10, cap10, e10, B10, L11, rfl, hR10, hT10, rfl⟩
  obtain rfl : e10 = 41 := hR10.2 hnone
  try simp only [List.append_assoc, List.cons_append, List.nil_append]
  ((refine mv_ ?_); (refine se_ (ex_extract ev_ nth_) ?_); (refine se_ (ex_extract ev_ nth_) ?_); (refine asg_ ?_); (refine asg_ ?_); refine sn_ ?_; refine sr_ ?_; (refine mv_ ?_); (refine mv_ ?_); (refine wt_ ?_); (refine mv_ ?_); (refine se_ (ex_pick_t ev_ ev_) ?_); (refine mv_ ?_); (refine wt_ ?_); (refine mv_ ?_); (refine wt_ ?_); (refine se_ (ex_eql_t ev_ .const om_) ?_); (refine se_ (ex_pick_t ev_ ev_) ?_); (refine mv_ ?_); (refine wt_ ?_); (refine mv_ ?_); (refine wt_ ?_); (refine se_ (ex_eql_t ev_ .const om_) ?_); (refine se_ (ex_pick_t ev_ ev_) ?_); (refine asg_ ?_); refine sn_ ?_; (apply sc_ret); (apply ret_ok; (focus ((apply Res.tmp; (exact ev_)); exact Res.nil)); (exact ⟨rfl, rfl⟩); (exact sel_); (exact appb_)))
end Go.Proofs.Ytfkpjnomfmjplaa
namespace Go.Proofs.Ytfkpjnomfmjplaa
open Go.Sym Go.ChangeShapes Go.WideShapes
theorem cells4 : Try.prog.cellsOf 4 = 1 := by kernel_rfl
section
variable {H : Type} {enc : TypeId × Value → H} {W : World} {held : Bool} {fuel : Nat} {x : DataW H × List MemPlace}
theorem block_at {b o : Nat} {sp : Option Nat} {v : Value} (h : W.cell? ⟨b, o, sp⟩ = some v) : sp = none ∧ ∃ c T fz, (b, Obj.cells (List.toArray c) T fz) ∈ allB W := by
  unfold World.cell? at h
  split at h
  · rename_i c T fz hb
    cases sp with
    | some s => simp at h
    | none => exact ⟨rfl, c.toList, T, fz, mem_allB.2 (by simpa using hb)⟩
  · cases h
theorem cell_in {b o : Nat} {v : Value} {c : List Value} {T : TypeId} {fz : Nat × Nat} (hm : (b, Obj.cells (List.toArray c) T fz) ∈ allB W) (h : W.cell? ⟨b, o, none⟩ = some v) : c[o]? = some v := by
  have hb := mem_allB.1 hm
  simp only at hb
  simpa [World.cell?, hb] using h
theorem open_bs {v : Value} (h : DataW.trod enc Try.prog W 0 (fun _ => true) held fuel 58 [v] = some x) : BArg v (allB W) := by
  rcases Go.Deep.open_slice1 Try.underlying58 cells4 h with ⟨h1, _⟩ | ⟨a, len, cap, m, n, V, D, Pl, h1, _, hl, hmx, hm, _, hx⟩
  · injection h1 with h1
    exact ⟨none, 0, 0, h1, by omega, fun h => absurd rfl h⟩
  · obtain ⟨ab, ao, asp⟩ := a
    injection h1 with h1
    have hm' : m = cap := by simpa using hm
    have hz : ∀ i, i < len → ∃ z : Bool, W.cell? (Addr.add ⟨ab, ao, asp⟩ i) = some (.bool z) := fun i hi => by
      obtain ⟨h2, h3⟩ := hx i (by omega)
      obtain ⟨z, hz, _⟩ := DataW.trod_bool Try.underlying4 h3
      injection hz with hz
      exact ⟨z, by rw [h2, hz]⟩
    refine ⟨some ⟨ab, ao, asp⟩, len, cap, h1, by unfold maxLen at hmx; omega, fun hne => ?_⟩
    obtain ⟨z0, h0⟩ := hz 0 (by omega)
    have ha0 : Addr.add ⟨ab, ao, asp⟩ 0 = ⟨ab, ao, asp⟩ := by simp [Addr.add]
    rw [ha0] at h0
    obtain ⟨rfl, c, T, fz, hmem⟩ := block_at h0
    refine ⟨ab, ao, c, T, fz, rfl, hmem, fun i hi => ?_⟩
    obtain ⟨z, h1⟩ := hz i hi
    have h2 := (congrArg W.cell? (add_none ab ao i).symm).trans h1
    have h3 := cell_in hmem h2
    rw [Nat.mul_one]
    exact ⟨z, h3⟩
end
end Go.Proofs.Ytfkpjnomfmjplaa
