/- Txn: the script's calls. Txn: New, begun; a snapshot that is there; sanity. Txn: TxnHorizon: the walk. Txn: the argument, opened: a struct of a slice of calls and an int. -/
import Derived.Test.YtfkpjnomfmjplaaGreatQD
import Derived.Test.YtfkpjnomfmjplaaGreatQS
import Derived.Test.YtfkpjnomfmjplaaGreatFin
set_option linter.unusedVariables false
set_option linter.unusedSimpArgs false
set_option linter.unnecessarySimpa false
namespace Go.Sym
open Go
section
variable {P : Program} {E : Env} {f : Nat → Value} {L : List Blk} {ty : TypeId} {pos : String} {after : Array Edge} {d : Nat} {x y : Operand} {t et yt src dst e : TypeId} {ag : Bool} {s len cap k : Nat} {p : Option Addr} {b : Nat} {k' : IntKind} {i j c : Int}
theorem ex_andNot (hx : Ev f x (.int k' i)) (hy : Ev f y (.int k' j)) (hc : bitsZ .andNot k' i j = c) : Ex P E f L ⟨some d, .binOp .andNot t x y yt, ty, pos, after, none⟩ (.int k' c) := .mk fun w _ => by subst hc; simp [execOp, hx.eq, hy.eq, eqGuard, binOp, Op.intBits, bitsZ]
theorem ex_sliceTo2 (hx : Ev f x (.slice p len cap)) (hy : Ev f y (.int .i64 (k : Int))) (ht : Und P t (.slice et)) (hT : tyOf P et = some (ag, s)) (hk : k ≤ cap) :
    Ex P E f L ⟨some d, .slice t x none (some y) none, ty, pos, after, none⟩ (.slice p k cap) := .mk fun w hw => by
  have h1 := run_sizeT (P := P) (w := w) hT
  have h2 : (0 : Int) ≤ (k : Int) ∧ (k : Int) ≤ (cap : Int) := by omega
  simp only [execOp, Option.map_none, Option.map_some, hx.eq, hy.eq]
  cases p <;> simp [Instr.sliceAt, Instr.slice, Instr.sliceBounds, Instr.sliceBound, asIntOf, run_underlying ht.eq, h1, hk, Addr.add]
theorem ex_sliceStr {a : ByteArray} (hx : Ev f x (.string a)) (hy : Ev f y (.int .i64 (k : Int))) (ht : Und P t .string) (hk : k ≤ a.size) :
    Ex P E f L ⟨some d, .slice t x none (some y) none, ty, pos, after, none⟩ (.string (a.extract 0 k)) := .mk fun w hw => by
  simp only [execOp, Option.map_none, Option.map_some, hx.eq, hy.eq]
  simp [Instr.sliceAt, Instr.slice, Instr.sliceBounds, Instr.sliceBound, asIntOf, run_underlying ht.eq, hk]
theorem ex_lenStr {a : ByteArray} (hx : Ev f x (.string a)) (ht : Und P t .string) : Ex P E f L ⟨some d, .call ⟨.builtin .len, #[x], #[t]⟩, ty, pos, after, none⟩ (.int .i64 a.size) := .mk fun w hw => by
  simp [execOp, resolve, hx.eq, invoke, builtin, Builtin.len_, run_underlying ht.eq, goInt]
theorem ex_byteStr {T : TypeId} {fz : Nat × Nat} {z : Int} (hx : Ev f x (.slice (some ⟨b, 0, none⟩) 1 1)) (hm : (b, .cells [Value.int .u8 z].toArray T fz) ∈ L) (hs : Und P src (.slice e)) (he : Und P e (.int .u8)) (hd : Und P dst .string) :
    Ex P E f L ⟨some d, .convert src dst x, ty, pos, after, none⟩ (.string (ByteArray.empty.push (UInt8.ofNat z.toNat))) := .mk fun w hw => by
  have hb := hw.get hm
  have hload : (loadCells ⟨b, 0, none⟩ 1).run P w = .ok ([z].map (Value.int .u8)).toArray w := by
    refine run_loadCells_list w ⟨b, 0, none⟩ [Value.int .u8 z] fun j v hj => ?_
    rw [add_none, cell_of hb, Nat.zero_add]; exact hj
  have := run_bytesToString w ⟨b, 0, none⟩ 1 1 [z] hload
  simp only [execOp, hx.eq]
  rw [Sem.run_bind]
  have hc : (convert src dst (.slice (some ⟨b, 0, none⟩) 1 1)).run P w = .ok (.string (ByteArray.empty.push (UInt8.ofNat z.toNat))) w := by
    simp only [convert, Sem.run_bind, run_underlying hs.eq, run_underlying hd.eq, Result.andThen_ok, run_underlying he.eq, this]
    simp
  rw [hc]; rfl
end
end Go.Sym
namespace Go.Proofs.YtfkpjnomfmjplaaGreat
open Go.Sym
theorem name_tri (n : Int) : Tri Tryz.prog 35 #[.int .i64 n] [] fun v L => (∃ s, v = .string s) ∧ L = [] := by
  have f_mixed := mixed; have f_by5 := by5; have f_ty114 := ty114; have f_ty5 := ty5; have f_un_114 : Und Tryz.prog 114 _ := ⟨Tryz.underlying114⟩; have f_un_3 : Und Tryz.prog 3 _ := ⟨Tryz.underlying3⟩; have f_un_5 : Und Tryz.prog 5 _ := ⟨Tryz.underlying5⟩; have f_un_9 : Und Tryz.prog 9 _ := ⟨Tryz.underlying9⟩; have f_zero5 := zero5; have f_zv5 := zv5
  have h2 := Int.tmod_lt_of_pos n (b := 5) (by omega)
  have h3 := tmod_lo n 5 (by omega)
  refine tri_intro (args := [_]) Tryz.func35 rfl Tryz.ntmps35 rfl (rs := _) rfl rfl fun E R => ?_
  simp only [fr, List.cons_append, List.nil_append]
  (refine sr_ ?_; (refine ac_ ?_); refine sn_ ?_; refine sr_ ?_; (refine mv_ ?_); (apply so_ex; (apply ex_rem; (exact ev_); ((exact Ev.const)); (first | assumption | decide | omega); (first | assumption | exact rfl)); exact rfl); (refine se_ (ex_add ev_ .const wr_) ?_); (apply so_ex; (apply ex_rem; (exact ev_); ((exact Ev.const)); (first | assumption | decide | omega); (first | assumption | exact rfl)); exact rfl); (refine se_ (ex_add .const ev_ wr_) ?_); (apply so_ex; (apply ex_convert; (exact ev_); assumption; assumption; (first | assumption | exact rfl)); exact rfl); (apply so_buildS; (focus ((apply EvP.cons; (exact ev_)); exact EvP.nil)); assumption; assumption; assumption; (focus (repeat (first | exact SeqP.nil | (apply SeqP.cons; exact rfl; exact rfl) | exact App.nil | apply App.cons))); exact rfl; exact rfl; exact rfl; intro _); (refine se_ (ex_byteStr ev_ mem_ asm_ asm_ asm_) ?_); (refine asg_ ?_); refine sn_ ?_; (apply sc_ret); (apply ret_ok; (focus ((apply Res.tmp; (exact ev_)); exact Res.nil)); (exact ⟨⟨_, rfl⟩, rfl⟩); (exact sel_); (exact appb_)))
/-- a call of the script -/
structure CV where
  z : Int
  id : Int
  n : Int
  s : ByteArray
  xs : List Int
  xp : Option Addr
  xcap : Nat
def CV.cells (c : CV) : List Value := [.int .i64 c.z, .int .i64 c.id, .int .i64 c.n, .string c.s, .slice c.xp c.xs.length c.xcap]
structure CV.Ok (P0 : List Blk) (c : CV) : Prop where
  xi : XsIn c.xs (.slice c.xp c.xs.length c.xcap) P0
  l4 : c.xs.length ≤ 4
def ccells (l : List CV) : List Value := l.flatMap CV.cells
theorem ccells_len (l : List CV) : (ccells l).length = l.length * 5 := by
  induction l with
  | nil => rfl
  | cons p l ih => unfold ccells at *; rw [List.flatMap_cons, List.length_append, ih, List.length_cons]; show 5 + _ = _; omega
/-- the argument: a slice of calls that lies among the blocks P0 -/
def CallsArg (cv : Value) (P0 : List Blk) : Prop := ∃ p n cap, cv = .slice p n cap ∧ (n ≠ 0 → ∃ b o c T fz, p = some ⟨b, o, none⟩ ∧ (b, Obj.cells (List.toArray c) T fz) ∈ P0 ∧
  ∀ i, i < n → ∃ (z id nn : Int) (sx : ByteArray) (xs : List Int) (xp : Option Addr) (xcap : Nat), (∀ j, j < 5 → c[o + i * 5 + j]? = ([Value.int .i64 z, .int .i64 id, .int .i64 nn, .string sx, .slice xp xs.length xcap] : List Value)[j]?) ∧ XsIn xs (.slice xp xs.length xcap) P0 ∧ xs.length ≤ xcap)
theorem XsIn.take {xs : List Int} {xp : Option Addr} {cap : Nat} {P0 : List Blk} (h : XsIn xs (.slice xp xs.length cap) P0) (k : Nat) : XsIn (xs.take k) (.slice xp (xs.take k).length cap) P0 := by
  obtain ⟨p, c, he, hx⟩ := h
  injection he with h1 h2 h3
  subst h1
  refine ⟨_, _, rfl, fun hne => ?_⟩
  obtain ⟨b, o, cc, T, fz, rfl, hm, hg⟩ := hx (fun h => hne (by rw [h]; simp))
  refine ⟨b, o, cc, T, fz, rfl, hm, fun i hi => ?_⟩
  rw [List.length_take] at hi
  rw [hg i (by omega), List.getElem_take]
set_option maxHeartbeats 8000000 in
theorem calls_tri {cv : Value} {P0 : List Blk} (hA : CallsArg cv P0) (nx : Int) : Tri Tryz.prog 8 #[.agg #[cv, .int .i64 nx]] P0 fun v L => ∃ (cs : List CV) (p : Option Addr) (cap : Nat) (B : List Blk), v = .slice p cs.length cap ∧ Row 34 5 (.slice p cs.length cap) (ccells cs) B ∧ cs.length ≤ 70 ∧ (∀ c ∈ cs, c.Ok P0) ∧ L = B ++ P0 := by
  have f_mixed := mixed; have f_by3 := by3; have f_by34 := by34; have f_en35 := en35; have f_en9 := en9; have f_fo24_0 := fo24_0; have f_fo34_0 := fo34_0; have f_fo34_1 := fo34_1; have f_fo34_2 := fo34_2; have f_fo34_3 := fo34_3; have f_fo34_4 := fo34_4; have f_ty22 := ty22; have f_ty24 := ty24; have f_ty3 := ty3; have f_ty32 := ty32; have f_ty34 := ty34; have f_ty9 := ty9; have f_un_22 : Und Tryz.prog 22 _ := ⟨Tryz.underlying22⟩; have f_un_32 : Und Tryz.prog 32 _ := ⟨Tryz.underlying32⟩; have f_un_9 : Und Tryz.prog 9 _ := ⟨Tryz.underlying9⟩; have f_zero3 := zero3; have f_zero34 := zero34; have f_zv3 := zv3; have f_zv34 := zv34
  have c20 : ∀ z, TriQ Tryz.prog 9 #[.int .i64 z, .int .i64 20] [] (.int .i64 (z % 20)) := fun z => rest_tri z 20 (by omega) (by omega)
  have c16 : ∀ z, TriQ Tryz.prog 9 #[.int .i64 z, .int .i64 16] [] (.int .i64 (z % 16)) := fun z => rest_tri z 16 (by omega) (by omega)
  have c5 : ∀ z, TriQ Tryz.prog 9 #[.int .i64 z, .int .i64 5] [] (.int .i64 (z % 5)) := fun z => rest_tri z 5 (by omega) (by omega)
  obtain ⟨ap, an, acap, rfl, hA⟩ := hA
  refine tri_intro (args := [_]) Tryz.func8 rfl Tryz.ntmps8 rfl (rs := _) rfl rfl fun E R => ?_
  simp only [fr, List.cons_append, List.nil_append]
  (refine sr_ ?_; (apply so_box; (exact ev_); exact rfl; exact rfl; intro _); (refine ac_ ?_); refine sn_ ?_; refine sr_ ?_; (refine ac_ ?_); refine sn_ ?_; (apply sc_seq); refine sr_ ?_; (refine ac_ ?_); refine sn_ ?_; (apply sc_block))
  rename_i b1
  refine sc_loop (fun k f L => ∃ (cs : List CV) (p : Option Addr) (cap : Nat) (B : List Blk), k = 70 - cs.length ∧ cs.length ≤ 70 ∧ cs.length ≤ an ∧ (∀ c ∈ cs, c.Ok P0) ∧ Row 34 5 (.slice p cs.length cap) (ccells cs) B ∧ At f 1 (tP b1) ∧ At f 3 (.slice p cs.length cap) ∧ At f 4 (.int .i64 (cs.length : Int)) ∧ Held L (B ++ ((b1, .cells [.slice ap an acap, .int .i64 nx].toArray 24) :: P0)) R)
    _ ⟨[], none, 0, [], rfl, by simp, by simp, by simp, .nil, at_, at_, at_, by simp only [List.nil_append]; exact held_⟩ ?_
  rintro k f L ⟨cs, p, cap, B, hk, hl70, hlan, hok, hrow, a1, a3, a4, ⟨G, hG⟩⟩
  refine sc_perm hG ?_
  clear hG
  simp only [List.append_assoc, List.cons_append, List.nil_append]
  by_cases hlt : cs.length < an
  · have hlt' : (cs.length : Int) < (an : Int) := by omega
    by_cases h70 : cs.length < 70
    · have h70' : (cs.length : Int) < 70 := by omega
      obtain ⟨cb, co, cc, cT, cfz, rfl, hcm, hcg⟩ := hA (by omega)
      obtain ⟨z, id, nn, sx, xs, xp, xcap, hc5, hxi, hxc⟩ := hcg _ hlt
      have f_mn : (if (4 : Int) < ((xs.length : Nat) : Int) then 4 else ((xs.length : Nat) : Int)) = (((xs.take 4).length : Nat) : Int) := by rw [List.length_take]; split <;> omega
      have hx4 : (xs.take 4).length ≤ xcap := by rw [List.length_take]; omega
      obtain ⟨sk, hsk⟩ : ∃ sk : Nat, sk = min sx.size 8 := ⟨_, rfl⟩
      have f_ms : (if (8 : Int) < ((sx.size : Nat) : Int) then 8 else ((sx.size : Nat) : Int)) = (sk : Int) := by split <;> omega
      have hsk2 : sk ≤ sx.size := by omega
      have hxt := hxi.take 4
      have hx44 : (xs.take 4).length ≤ 4 := by rw [List.length_take]; omega
      generalize xs.take 4 = xs' at f_mn hx4 hxt hx44
      ((apply sc_seq); (apply sc_seq); ((fail_if_success (apply sc_region (id := 8))); apply sc_region); (refine mv_ ?_); (refine se_ (ex_fieldAddr ev_ asm_) ?_); (refine se_ (ex_load1 ev_ asm_ mem_ nth_) ?_); (refine se_ (ex_len_slice ev_ asm_) ?_); (refine se_ (ex_lss_t ev_ ev_ om_) ?_); (refine mv_ ?_); (refine wt_ ?_); (refine mv_ ?_); (refine wt_ ?_); (refine se_ (ex_lss_t ev_ .const om_) ?_); (refine se_ (ex_pick_t ev_ ev_) ?_); refine sn_ ?_; (refine ct_ ?_); (apply sc_skip); (apply nm_then); (apply sc_seq); (apply sc_block); (apply sc_seq); ((fail_if_success (apply sc_region (id := 8))); apply sc_region); (refine se_ (ex_fieldAddr ev_ asm_) ?_); (refine se_ (ex_load1 ev_ asm_ mem_ nth_) ?_); (refine mv_ ?_); (refine se_ (ex_indexAddr ev_ ev_ asm_ asm_ lit_ lt_) ?_); (apply so_ex; (apply ex_loadNr (r := [Value.int .i64 z, .int .i64 id, .int .i64 nn, .string sx, .slice xp xs.length xcap]); (exact ev_); assumption; (exact mem_); exact rfl; exact hc5); exact rfl); (apply so_alloc; assumption; exact rfl; intro _); (apply so_store; (exact ev_); (exact ev_); assumption; exact rfl; exact rfl; exact rfl; (focus (repeat (first | exact Turn.here | apply Turn.there | apply Turn.pre))); (focus (repeat (first | exact SetSub.nil | apply SetSub.take | apply SetSub.drop)))); refine sn_ ?_; (apply sc_seq); ((fail_if_success (apply sc_region (id := 8))); apply sc_region); (refine se_ (ex_fieldAddr ev_ asm_) ?_); (refine se_ (ex_load1 ev_ asm_ mem_ nth_) ?_); (refine se_ (ex_fieldAddr ev_ asm_) ?_); (refine se_ (ex_load1 ev_ asm_ mem_ nth_) ?_); (refine se_ (ex_len_slice ev_ asm_) ?_); (apply so_ex; (apply ex_min; (exact ev_); ((exact Ev.const)); (first | assumption | exact rfl)); exact rfl); (apply so_ex; (apply ex_sliceTo2; (exact ev_); (exact ev_); assumption; assumption; exact hx4); exact rfl); (refine se_ (ex_fieldAddr ev_ asm_) ?_); (apply so_store; (exact ev_); (exact ev_); assumption; exact rfl; exact rfl; exact rfl; (focus (repeat (first | exact Turn.here | apply Turn.there | apply Turn.pre))); (focus (repeat (first | exact SetSub.nil | apply SetSub.take | apply SetSub.drop)))); refine sn_ ?_; (apply sc_seq); ((fail_if_success (apply sc_region (id := 8))); apply sc_region); (refine se_ (ex_fieldAddr ev_ asm_) ?_); (refine se_ (ex_load1 ev_ asm_ mem_ nth_) ?_); (refine se_ (ex_fieldAddr ev_ asm_) ?_); (refine se_ (ex_load1 ev_ asm_ mem_ nth_) ?_); (refine se_ (ex_lenStr ev_ asm_) ?_); (apply so_ex; (apply ex_min; (exact ev_); ((exact Ev.const)); (first | assumption | exact rfl)); exact rfl); (apply so_ex; (apply ex_sliceStr; (exact ev_); (exact ev_); assumption; exact hsk2); exact rfl); (refine se_ (ex_fieldAddr ev_ asm_) ?_); (apply so_store; (exact ev_); (exact ev_); assumption; exact rfl; exact rfl; exact rfl; (focus (repeat (first | exact Turn.here | apply Turn.there | apply Turn.pre))); (focus (repeat (first | exact SetSub.nil | apply SetSub.take | apply SetSub.drop)))); refine sn_ ?_; (apply sc_seq); (apply sc_seq))
      rename_i b5
      generalize sx.extract 0 sk = sx'
      have hcl := ccells_len cs
      have hbb : (cs.length + 1) * 64 ≤ 140737488355328 := by omega
      have hbb2 : cs.length + 1 ≤ 9223372036854775807 := by omega
      by_cases h6 : ((cs.length : Nat) : Int).tmod 7 ≠ 6
      · apply sc_region
        ((refine mv_ ?_); (apply so_ex; (apply ex_rem; (exact ev_); ((exact Ev.const)); (first | assumption | decide | omega); (first | assumption | exact rfl)); exact rfl); (refine se_ (ex_neq_t ev_ .const om_) ?_); (apply so_nil); (apply nm_then))
        refine SC.mono (Q := fun u f L => u = .normal ∧ ∃ (z' id' n' : Int) (s' : ByteArray), At f 1 (tP b1) ∧ At f 3 (.slice p cs.length cap) ∧ At f 4 (.int .i64 (cs.length : Int)) ∧ At f 5 (tP b5) ∧ Held L ((b5, .cells [Value.int .i64 z', .int .i64 id', .int .i64 n', .string s', .slice xp xs'.length xcap].toArray 34) :: (B ++ ((b1, .cells [.slice (some ⟨cb, co, none⟩) an acap, .int .i64 nx].toArray 24) :: P0))) R) ?_ ?_
        · ((refine ct_ ?_); refine sr_ ?_; (refine se_ (ex_fieldAddr ev_ asm_) ?_); (refine se_ (ex_load1 ev_ asm_ mem_ nth_) ?_); (apply so_callq; (exact Ev.func); (focus ((apply EvL.cons; (exact ev_)); (apply EvL.cons; (exact Ev.const)); exact EvL.nil)); (focus (repeat (first | exact App.nil | apply App.cons))); assumption; exact c20 _; (exact sel_); exact rfl); (refine se_ (ex_add .const ev_ wr_) ?_); (refine se_ (ex_fieldAddr ev_ asm_) ?_); (apply so_store; (exact ev_); (exact ev_); assumption; exact rfl; exact rfl; exact rfl; (focus (repeat (first | exact Turn.here | apply Turn.there | apply Turn.pre))); (focus (repeat (first | exact SetSub.nil | apply SetSub.take | apply SetSub.drop)))); refine sn_ ?_; refine sr_ ?_; (refine se_ (ex_fieldAddr ev_ asm_) ?_); (refine se_ (ex_load1 ev_ asm_ mem_ nth_) ?_); (apply so_callq; (exact Ev.func); (focus ((apply EvL.cons; (exact ev_)); (apply EvL.cons; (exact Ev.const)); exact EvL.nil)); (focus (repeat (first | exact App.nil | apply App.cons))); assumption; exact c16 _; (exact sel_); exact rfl); (refine se_ (ex_fieldAddr ev_ asm_) ?_); (apply so_store; (exact ev_); (exact ev_); assumption; exact rfl; exact rfl; exact rfl; (focus (repeat (first | exact Turn.here | apply Turn.there | apply Turn.pre))); (focus (repeat (first | exact SetSub.nil | apply SetSub.take | apply SetSub.drop)))); refine sn_ ?_; refine sr_ ?_; (refine se_ (ex_fieldAddr ev_ asm_) ?_); (refine se_ (ex_load1 ev_ asm_ mem_ nth_) ?_); (refine se_ (ex_fieldAddr ev_ asm_) ?_); (refine se_ (ex_load1 ev_ asm_ mem_ nth_) ?_); (refine se_ (ex_lenStr ev_ asm_) ?_); (refine se_ (ex_add ev_ ev_ wr_) ?_); (apply so_callq; (exact Ev.func); (focus ((apply EvL.cons; (exact ev_)); (apply EvL.cons; (exact Ev.const)); exact EvL.nil)); (focus (repeat (first | exact App.nil | apply App.cons))); assumption; exact c5 _; (exact sel_); exact rfl); (apply so_call; (exact Ev.func); (focus ((apply EvL.cons; (exact ev_)); exact EvL.nil)); (focus (repeat (first | exact App.nil | apply App.cons))); assumption; exact name_tri _; (exact sel_); exact rfl; rintro _ _ ⟨⟨_, rfl⟩, rfl⟩; simp only [List.append_assoc, List.cons_append, List.nil_append]); (refine se_ (ex_fieldAddr ev_ asm_) ?_); (apply so_store; (exact ev_); (exact ev_); assumption; exact rfl; exact rfl; exact rfl; (focus (repeat (first | exact Turn.here | apply Turn.there | apply Turn.pre))); (focus (repeat (first | exact SetSub.nil | apply SetSub.take | apply SetSub.drop)))); refine sn_ ?_; (apply sc_seq); refine sr_ ?_; (refine se_ (ex_fieldAddr ev_ asm_) ?_); (refine se_ (ex_load1 ev_ asm_ mem_ nth_) ?_); (apply so_callq; (exact Ev.func); (focus ((apply EvL.cons; (exact ev_)); (apply EvL.cons; (exact Ev.const)); exact EvL.nil)); (focus (repeat (first | exact App.nil | apply App.cons))); assumption; exact c16 _; (exact sel_); exact rfl); (apply so_split; (apply ex_lss; (exact ev_); ((exact Ev.const))); exact rfl; refine ⟨fun _ => ?_, fun _ => ?_⟩); (refine mv_ ?_); (refine wt_ ?_); (refine se_ (ex_fieldAddr ev_ asm_) ?_); (refine wt_ ?_); (refine se_ (ex_load1 ev_ asm_ mem_ nth_) ?_); (refine wt_ ?_); (apply so_ex; (apply ex_and; (exact ev_); ((exact Ev.const)); (first | assumption | exact rfl)); exact rfl); (refine wt_ ?_); (apply so_split; (apply ex_eql; (exact ev_); ((exact Ev.const))); exact rfl; refine ⟨fun _ => ?_, fun _ => ?_⟩); (refine se_ (ex_pick_t ev_ ev_) ?_); refine sn_ ?_; (refine ct_ ?_); (apply sc_region); (refine se_ (ex_fieldAddr ev_ asm_) ?_); (refine se_ (ex_load1 ev_ asm_ mem_ nth_) ?_); (refine se_ (ex_sub ev_ .const wr_) ?_); (refine se_ (ex_fieldAddr ev_ asm_) ?_); (apply so_store; (exact ev_); (exact ev_); assumption; exact rfl; exact rfl; exact rfl; (focus (repeat (first | exact Turn.here | apply Turn.there | apply Turn.pre))); (focus (repeat (first | exact SetSub.nil | apply SetSub.take | apply SetSub.drop)))); refine sn_ ?_; refine sr_ ?_; (refine se_ (ex_fieldAddr ev_ asm_) ?_); (refine se_ (ex_load1 ev_ asm_ mem_ nth_) ?_); (apply so_callq; (exact Ev.func); (focus ((apply EvL.cons; (exact ev_)); (apply EvL.cons; (exact Ev.const)); exact EvL.nil)); (focus (repeat (first | exact App.nil | apply App.cons))); assumption; exact c16 _; (exact sel_); exact rfl); (refine se_ (ex_lss_t ev_ .const om_) ?_); refine sn_ ?_; (refine ct_ ?_); (apply sc_region); (refine se_ (ex_fieldAddr ev_ asm_) ?_); (refine se_ (ex_load1 ev_ asm_ mem_ nth_) ?_); (apply so_ex; (apply ex_andNot; (exact ev_); (exact Ev.const); exact rfl); exact rfl); (refine se_ (ex_fieldAddr ev_ asm_) ?_); (apply so_store; (exact ev_); (exact ev_); assumption; exact rfl; exact rfl; exact rfl; (focus (repeat (first | exact Turn.here | apply Turn.there | apply Turn.pre))); (focus (repeat (first | exact SetSub.nil | apply SetSub.take | apply SetSub.drop)))); (apply so_nil); (apply And.intro rfl; exact ⟨_, _, _, _, at_, at_, at_, at_, held_⟩); (refine se_ (ex_pick_t ev_ ev_) ?_); refine sn_ ?_; (refine cf_ ?_); (apply sc_skip); (apply nm_then); refine sr_ ?_; (refine se_ (ex_fieldAddr ev_ asm_) ?_); (refine se_ (ex_load1 ev_ asm_ mem_ nth_) ?_); (apply so_callq; (exact Ev.func); (focus ((apply EvL.cons; (exact ev_)); (apply EvL.cons; (exact Ev.const)); exact EvL.nil)); (focus (repeat (first | exact App.nil | apply App.cons))); assumption; exact c16 _; (exact sel_); exact rfl); (refine se_ (ex_lss_t ev_ .const om_) ?_); refine sn_ ?_; (refine ct_ ?_); (apply sc_region); (refine se_ (ex_fieldAddr ev_ asm_) ?_); (refine se_ (ex_load1 ev_ asm_ mem_ nth_) ?_); (apply so_ex; (apply ex_andNot; (exact ev_); (exact Ev.const); exact rfl); exact rfl); (refine se_ (ex_fieldAddr ev_ asm_) ?_); (apply so_store; (exact ev_); (exact ev_); assumption; exact rfl; exact rfl; exact rfl; (focus (repeat (first | exact Turn.here | apply Turn.there | apply Turn.pre))); (focus (repeat (first | exact SetSub.nil | apply SetSub.take | apply SetSub.drop)))); (apply so_nil); (apply And.intro rfl; exact ⟨_, _, _, _, at_, at_, at_, at_, held_⟩); (refine mv_ ?_); (refine sk_ ?_); (refine sk_ ?_); (refine sk_ ?_); (refine sk_ ?_); (refine se_ (ex_pick_f ev_ .const) ?_); refine sn_ ?_; (refine cf_ ?_); (apply sc_skip); (apply nm_then); refine sr_ ?_; (refine se_ (ex_fieldAddr ev_ asm_) ?_); (refine se_ (ex_load1 ev_ asm_ mem_ nth_) ?_); (apply so_callq; (exact Ev.func); (focus ((apply EvL.cons; (exact ev_)); (apply EvL.cons; (exact Ev.const)); exact EvL.nil)); (focus (repeat (first | exact App.nil | apply App.cons))); assumption; exact c16 _; (exact sel_); exact rfl); (refine se_ (ex_lss_f ev_ .const om_) ?_); refine sn_ ?_; (refine cf_ ?_); (apply sc_skip); (apply And.intro rfl; exact ⟨_, _, _, _, at_, at_, at_, at_, held_⟩))
        rintro u f L ⟨rfl, z', id', n', s', a1, a3, a4, a5, ⟨G2, hG2⟩⟩
        refine nm_then (sc_perm hG2 ?_)
        clear hG2
        simp only [List.append_assoc, List.cons_append, List.nil_append]
        ((apply sc_region); (refine mv_ ?_); (refine se_ (ex_loadN ev_ asm_ mem_ sub_) ?_); (apply so_buildS; (focus ((apply EvP.cons; (exact ev_)); exact EvP.nil)); assumption; assumption; assumption; (focus (repeat (first | exact SeqP.nil | (apply SeqP.cons; exact rfl; exact rfl) | exact App.nil | apply App.cons))); exact rfl; exact rfl; exact rfl; intro _); (apply so_appR (et := 34) (s := 5) (ys := [Value.int .i64 z', .int .i64 id', .int .i64 n', .string s', .slice xp xs'.length xcap]); (exact ev_); (exact ev_); exact hrow; (exact sel_); (exact mem_); exact rfl; exact (fun j hj => by rw [Nat.zero_add]); assumption; assumption; assumption; exact rfl; assumption; exact hbb; exact hbb2; exact rfl; exact rfl; exact rfl; intro p2 cap2 H2 hr2); (refine asg_ ?_); (apply so_nil); (apply nm_block); (apply nm_then); (apply sc_region); (refine mv_ ?_); (refine se_ (ex_add ev_ .const wr_) ?_); (refine asg_ ?_); (apply so_nil); (apply nm_then))
        have e2 : ccells cs ++ [Value.int .i64 z', .int .i64 id', .int .i64 n', .string s', .slice xp xs'.length xcap] = ccells (cs ++ [⟨z', id', n', s', xs', xp, xcap⟩]) := by unfold ccells; rw [List.flatMap_append]; rfl
        rw [e2] at hr2
        have e3 : cs.length + 1 = (cs ++ [(⟨z', id', n', s', xs', xp, xcap⟩ : CV)]).length := by simp
        have e4 : (((cs ++ [(⟨z', id', n', s', xs', xp, xcap⟩ : CV)]).length : Nat) : Int) = (cs.length : Int) + 1 := by simp
        rw [e3] at hr2
        refine ⟨70 - (cs ++ [(⟨z', id', n', s', xs', xp, xcap⟩ : CV)]).length, by simp; omega, cs ++ [⟨z', id', n', s', xs', xp, xcap⟩], p2, cap2, H2, rfl, by simp; omega, by simp; omega, ?_, hr2, at_, by rw [← e3]; exact at_, by rw [e4]; exact at_, held_⟩
        intro c hc
        rcases List.mem_append.1 hc with hc | hc
        · exact hok c hc
        · rw [List.mem_singleton.1 hc]; exact ⟨hxt, hx44⟩
      · apply sc_region
        ((refine mv_ ?_); (apply so_ex; (apply ex_rem; (exact ev_); ((exact Ev.const)); (first | assumption | decide | omega); (first | assumption | exact rfl)); exact rfl); (refine se_ (ex_neq_f ev_ .const om_) ?_); (apply so_nil); (apply nm_then))
        refine SC.mono (Q := fun u f L => u = .normal ∧ ∃ (z' id' n' : Int) (s' : ByteArray), At f 1 (tP b1) ∧ At f 3 (.slice p cs.length cap) ∧ At f 4 (.int .i64 (cs.length : Int)) ∧ At f 5 (tP b5) ∧ Held L ((b5, .cells [Value.int .i64 z', .int .i64 id', .int .i64 n', .string s', .slice xp xs'.length xcap].toArray 34) :: (B ++ ((b1, .cells [.slice (some ⟨cb, co, none⟩) an acap, .int .i64 nx].toArray 24) :: P0))) R) ?_ ?_
        · ((refine cf_ ?_); (apply sc_skip); (apply And.intro rfl; exact ⟨_, _, _, _, at_, at_, at_, at_, held_⟩))
        rintro u f L ⟨rfl, z', id', n', s', a1, a3, a4, a5, ⟨G2, hG2⟩⟩
        refine nm_then (sc_perm hG2 ?_)
        clear hG2
        simp only [List.append_assoc, List.cons_append, List.nil_append]
        ((apply sc_region); (refine mv_ ?_); (refine se_ (ex_loadN ev_ asm_ mem_ sub_) ?_); (apply so_buildS; (focus ((apply EvP.cons; (exact ev_)); exact EvP.nil)); assumption; assumption; assumption; (focus (repeat (first | exact SeqP.nil | (apply SeqP.cons; exact rfl; exact rfl) | exact App.nil | apply App.cons))); exact rfl; exact rfl; exact rfl; intro _); (apply so_appR (et := 34) (s := 5) (ys := [Value.int .i64 z', .int .i64 id', .int .i64 n', .string s', .slice xp xs'.length xcap]); (exact ev_); (exact ev_); exact hrow; (exact sel_); (exact mem_); exact rfl; exact (fun j hj => by rw [Nat.zero_add]); assumption; assumption; assumption; exact rfl; assumption; exact hbb; exact hbb2; exact rfl; exact rfl; exact rfl; intro p2 cap2 H2 hr2); (refine asg_ ?_); (apply so_nil); (apply nm_block); (apply nm_then); (apply sc_region); (refine mv_ ?_); (refine se_ (ex_add ev_ .const wr_) ?_); (refine asg_ ?_); (apply so_nil); (apply nm_then))
        have e2 : ccells cs ++ [Value.int .i64 z', .int .i64 id', .int .i64 n', .string s', .slice xp xs'.length xcap] = ccells (cs ++ [⟨z', id', n', s', xs', xp, xcap⟩]) := by unfold ccells; rw [List.flatMap_append]; rfl
        rw [e2] at hr2
        have e3 : cs.length + 1 = (cs ++ [(⟨z', id', n', s', xs', xp, xcap⟩ : CV)]).length := by simp
        have e4 : (((cs ++ [(⟨z', id', n', s', xs', xp, xcap⟩ : CV)]).length : Nat) : Int) = (cs.length : Int) + 1 := by simp
        rw [e3] at hr2
        refine ⟨70 - (cs ++ [(⟨z', id', n', s', xs', xp, xcap⟩ : CV)]).length, by simp; omega, cs ++ [⟨z', id', n', s', xs', xp, xcap⟩], p2, cap2, H2, rfl, by simp; omega, by simp; omega, ?_, hr2, at_, by rw [← e3]; exact at_, by rw [e4]; exact at_, held_⟩
        intro c hc
        rcases List.mem_append.1 hc with hc | hc
        · exact hok c hc
        · rw [List.mem_singleton.1 hc]; exact ⟨hxt, hx44⟩
    · have h70' : ¬ (cs.length : Int) < 70 := by omega
      ((apply sc_seq); refine sr_ ?_; (refine mv_ ?_); (refine se_ (ex_fieldAddr ev_ asm_) ?_); (refine se_ (ex_load1 ev_ asm_ mem_ nth_) ?_); (refine se_ (ex_len_slice ev_ asm_) ?_); (refine se_ (ex_lss_t ev_ ev_ om_) ?_); (refine mv_ ?_); (refine wt_ ?_); (refine mv_ ?_); (refine wt_ ?_); (refine se_ (ex_lss_f ev_ .const om_) ?_); (refine se_ (ex_pick_t ev_ ev_) ?_); refine sn_ ?_; (refine cf_ ?_); (apply sc_exit); (apply et_then); (apply et_then); (apply et_hit); (apply nm_then); refine sr_ ?_; (refine mv_ ?_); (refine asg_ ?_); refine sn_ ?_; (apply sc_ret); (apply ret_ok; (focus ((apply Res.tmp; (exact ev_)); exact Res.nil)); (exact ⟨cs, _, _, B, rfl, hrow, hl70, hok, rfl⟩); (exact sel_); (exact appb_)))
  · have hlt' : ¬ (cs.length : Int) < (an : Int) := by omega
    ((apply sc_seq); refine sr_ ?_; (refine mv_ ?_); (refine se_ (ex_fieldAddr ev_ asm_) ?_); (refine se_ (ex_load1 ev_ asm_ mem_ nth_) ?_); (refine se_ (ex_len_slice ev_ asm_) ?_); (refine se_ (ex_lss_f ev_ ev_ om_) ?_); (refine mv_ ?_); (refine sk_ ?_); (refine sk_ ?_); (refine se_ (ex_pick_f ev_ .const) ?_); refine sn_ ?_; (refine cf_ ?_); (apply sc_exit); (apply et_then); (apply et_then); (apply et_hit); (apply nm_then); refine sr_ ?_; (refine mv_ ?_); (refine asg_ ?_); refine sn_ ?_; (apply sc_ret); (apply ret_ok; (focus ((apply Res.tmp; (exact ev_)); exact Res.nil)); (exact ⟨cs, _, _, B, rfl, hrow, hl70, hok, rfl⟩); (exact sel_); (exact appb_)))
end Go.Proofs.YtfkpjnomfmjplaaGreat
namespace Go.Sym
open Go
theorem ex_makeIface {P : Program} {E : Env} {f : Nat → Value} {L : List Blk} {ty : TypeId} {pos : String} {after : Array Edge} {d : Nat} {x : Operand} {t e : TypeId} {v : Value} (hx : Ev f x v) (ht : Und P t (.pointer e)) : Ex P E f L ⟨some d, .makeInterface t x, ty, pos, after, none⟩ (.iface t v) := .mk fun w _ => by
  simp [execOp, hx.eq, Instr.makeInterface, run_underlying ht.eq]
/-- from a proved run: the heap only grows -/
theorem tri_of_calls {P : Program} {f : FuncId} {args : Array Value} {v : Value} (h : ∀ w : World, Calls P f args w fun e w' => e = .returned v ∧ ((w'.os, w'.output) = (w.os, w.output) ∧ ∀ (i : Nat) (o : Obj), w.heap[i]? = some o → w'.heap[i]? = some o)) : TriQ P f args [] v := .mk fun E R w hh => (h w).mono fun e w' ⟨he, h1, h2⟩ => ⟨_, _, he, ⟨rfl, rfl⟩, ⟨h1.trans hh.env, fun p hp => h2 _ _ (hh.facts p hp), hh.nodup⟩⟩
end Go.Sym
namespace Go.Proofs.YtfkpjnomfmjplaaGreat
open Go.Sym
theorem sanity_tri : TriQ Tryz.prog 6 #[] [] (.bool true) := tri_of_calls fun w => (Go.Rc.chk_ok2 Go.Rc.noOrc_ok sane.run .nil w).mono fun e w' ⟨he, h1, h2⟩ => ⟨he, h1, h2⟩
theorem ck_zero : zeroOf Tryz.prog 92 = some (ck ⟨0, 0, fun _ => 0, fun _ => 0⟩) := by
  rw [zero92]; unfold ck; kernel_rfl
theorem newC_tri {n : Int} (h : onR n = true) : Tri Tryz.prog 32 #[.int .i64 n] [] fun v L => ∃ cb, v = cP cb ∧ L = [cB cb (Clk.new n)] := by
  have f_mixed := mixed; have f_en53 := en53; have f_pl92_0 := pl92_0; have f_pl92_1 := pl92_1; have f_st92 := st92; have f_ty92 := ty92; have f_zero92 := zero92
  clear f_zero92
  have c1 := on_tri n
  rw [h] at c1
  have hz := ck_zero
  have e1 : Clk.new n = ⟨n, n, fun _ => 0, fun _ => 0⟩ := by unfold Clk.new; rw [if_pos h]
  rw [e1]
  refine tri_intro (args := [_]) Tryz.func32 rfl Tryz.ntmps32 rfl (rs := _) rfl rfl fun E R => ?_
  simp only [fr, List.cons_append, List.nil_append]
  (refine sr_ ?_; (refine ac_ ?_); refine sn_ ?_; (apply sc_seq); refine sr_ ?_; (refine mv_ ?_); (apply so_callq; (exact Ev.func); (focus ((apply EvL.cons; (exact ev_)); exact EvL.nil)); (focus (repeat (first | exact App.nil | apply App.cons))); assumption; exact c1; (exact sel_); exact rfl); (refine se_ (ex_not ev_) ?_); refine sn_ ?_; (refine cf_ ?_); (apply sc_skip); (apply nm_then); refine sr_ ?_; (refine mv_ ?_); (refine mv_ ?_); (apply so_ex; (apply ex_build; (focus ((apply EvP.cons; (exact ev_)); (apply EvP.cons; (exact ev_)); exact EvP.nil)); exact hz; (apply Bld.cons; assumption; exact rfl; exact rfl; exact ck_sub4; apply Bld.cons; assumption; exact rfl; exact rfl; exact ck_sub3; exact Bld.nil (by assumption))); exact rfl); (apply so_box; (exact ev_); exact rfl; exact rfl; intro _); (refine asg_ ?_); refine sn_ ?_; (apply sc_ret); (apply ret_ok; (focus ((apply Res.tmp; (exact ev_)); exact Res.nil)); (exact ⟨_, rfl, rfl⟩); (exact sel_); (exact appb_)))
theorem newT_tri (cb : Nat) : Tri Tryz.prog 25 #[cP cb] [] fun v L => ∃ tb mm, v = tP tb ∧ L = [(tb, .cells [cP cb, .map (some mm), .int .i64 0].toArray 87), (mm, .map #[] 0)] := by
  have f_mixed := mixed; have f_en32 := en32; have f_pl87_0 := pl87_0; have f_pl87_1 := pl87_1; have f_st87 := st87; have f_ty87 := ty87; have f_un_41 : Und Tryz.prog 41 _ := ⟨Tryz.underlying41⟩; have f_zero87 := zero87
  refine tri_intro (args := [_]) Tryz.func25 rfl Tryz.ntmps25 rfl (rs := _) rfl rfl fun E R => ?_
  simp only [fr, List.cons_append, List.nil_append]
  (refine sr_ ?_; (refine ac_ ?_); refine sn_ ?_; (apply sc_seq); refine sr_ ?_; (refine mv_ ?_); (refine se_ (ex_eqp_f ev_ .const asm_) ?_); refine sn_ ?_; (refine cf_ ?_); (apply sc_skip); (apply nm_then); refine sr_ ?_; (refine mv_ ?_); (apply so_makeMap; exact rfl; intro _); (apply so_ex; (apply ex_build; ((focus ((apply EvP.cons; (exact ev_)); (apply EvP.cons; (exact ev_)); exact EvP.nil))); assumption; ((focus (repeat (first | exact Bld.nil (by assumption) | (apply Bld.cons; assumption; exact rfl; exact rfl; (focus (repeat (first | exact SetSub.nil | apply SetSub.take | apply SetSub.drop))))))))); exact rfl); (apply so_box; (exact ev_); exact rfl; exact rfl; intro _); (refine asg_ ?_); refine sn_ ?_; (apply sc_ret))
  rename_i mm tb
  (apply ret_ok; (focus ((apply Res.tmp; (exact ev_)); exact Res.nil)); (exact ⟨tb, mm, rfl, rfl⟩); (exact sel_); (exact appb_))
theorem refOn_tri (n : Int) : Tri Tryz.prog 66 #[.int .i64 n] [] fun v L => (∃ b, v = .bool b) ∧ L = [] := by
  have f_mixed := mixed; 
  refine tri_intro (args := [_]) Tryz.func66 rfl Tryz.ntmps66 rfl (rs := _) rfl rfl fun E R => ?_
  simp only [fr, List.cons_append, List.nil_append]
  (refine sr_ ?_; (refine ac_ ?_); refine sn_ ?_; refine sr_ ?_; (refine mv_ ?_); (apply so_split; (apply ex_geq; (exact ev_); ((exact Ev.const))); exact rfl; refine ⟨fun _ => ?_, fun _ => ?_⟩); (refine mv_ ?_); (refine wt_ ?_); (refine mv_ ?_); (refine wt_ ?_); (apply so_split; (apply ex_leq; (exact ev_); ((exact Ev.const))); exact rfl; refine ⟨fun _ => ?_, fun _ => ?_⟩); (refine se_ (ex_pick_t ev_ ev_) ?_); (refine asg_ ?_); refine sn_ ?_; (apply sc_ret); (apply ret_ok; (focus ((apply Res.tmp; (exact ev_)); exact Res.nil)); (exact ⟨⟨_, rfl⟩, rfl⟩); (exact sel_); (exact appb_)); (refine se_ (ex_pick_t ev_ ev_) ?_); (refine asg_ ?_); refine sn_ ?_; (apply sc_ret); (apply ret_ok; (focus ((apply Res.tmp; (exact ev_)); exact Res.nil)); (exact ⟨⟨_, rfl⟩, rfl⟩); (exact sel_); (exact appb_)); (refine mv_ ?_); (refine sk_ ?_); (refine sk_ ?_); (refine se_ (ex_pick_f ev_ .const) ?_); (refine asg_ ?_); refine sn_ ?_; (apply sc_ret); (apply ret_ok; (focus ((apply Res.tmp; (exact ev_)); exact Res.nil)); (exact ⟨⟨_, rfl⟩, rfl⟩); (exact sel_); (exact appb_)))
theorem refC_tri (n : Int) : Tri Tryz.prog 34 #[.int .i64 n] [] fun v L => (∃ b, v = tP b) ∧ L = [] := by
  have f_mixed := mixed; have f_en66 := en66; have f_pl113_0 := pl113_0; have f_pl113_1 := pl113_1; have f_st113 := st113; have f_ty113 := ty113; have f_zero113 := zero113
  refine tri_intro (args := [_]) Tryz.func34 rfl Tryz.ntmps34 rfl (rs := _) rfl rfl fun E R => ?_
  simp only [fr, List.cons_append, List.nil_append]
  (refine sr_ ?_; (refine ac_ ?_); refine sn_ ?_; refine sr_ ?_; (refine mv_ ?_))
  (apply so_call; (exact Ev.func); (focus ((apply EvL.cons; (exact ev_)); exact EvL.nil)); (focus (repeat (first | exact App.nil | apply App.cons))); assumption; (exact refOn_tri n); (exact sel_); exact rfl)
  rintro v L ⟨⟨b, rfl⟩, rfl⟩
  simp only [List.nil_append]
  cases b with
  | true => ((refine asg_ ?_); refine sn_ ?_; (apply sc_seq); refine sr_ ?_; (refine mv_ ?_); (refine se_ (ex_not ev_) ?_); refine sn_ ?_; (refine cf_ ?_); (apply sc_skip); (apply nm_then); refine sr_ ?_; (refine mv_ ?_); (refine mv_ ?_); (apply so_ex; (apply ex_build; ((focus ((apply EvP.cons; (exact ev_)); (apply EvP.cons; (exact ev_)); exact EvP.nil))); assumption; ((focus (repeat (first | exact Bld.nil (by assumption) | (apply Bld.cons; assumption; exact rfl; exact rfl; (focus (repeat (first | exact SetSub.nil | apply SetSub.take | apply SetSub.drop))))))))); exact rfl); (apply so_box; (exact ev_); exact rfl; exact rfl; intro _); (refine asg_ ?_); refine sn_ ?_; (apply sc_ret); (apply ret_ok; (focus ((apply Res.tmp; (exact ev_)); exact Res.nil)); (exact ⟨⟨_, rfl⟩, rfl⟩); (exact sel_); (exact appb_)))
  | false => ((refine asg_ ?_); refine sn_ ?_; (apply sc_seq); refine sr_ ?_; (refine mv_ ?_); (refine se_ (ex_not ev_) ?_); refine sn_ ?_; (refine ct_ ?_); (apply sc_region); (refine ac_ ?_); refine sn_ ?_; refine sr_ ?_; (refine mv_ ?_); (refine mv_ ?_); (apply so_ex; (apply ex_build; ((focus ((apply EvP.cons; (exact ev_)); (apply EvP.cons; (exact ev_)); exact EvP.nil))); assumption; ((focus (repeat (first | exact Bld.nil (by assumption) | (apply Bld.cons; assumption; exact rfl; exact rfl; (focus (repeat (first | exact SetSub.nil | apply SetSub.take | apply SetSub.drop))))))))); exact rfl); (apply so_box; (exact ev_); exact rfl; exact rfl; intro _); (refine asg_ ?_); refine sn_ ?_; (apply sc_ret); (apply ret_ok; (focus ((apply Res.tmp; (exact ev_)); exact Res.nil)); (exact ⟨⟨_, rfl⟩, rfl⟩); (exact sel_); (exact appb_)))
theorem refT_tri (b : Nat) : Tri Tryz.prog 33 #[tP b] [] fun v L => (∃ b, v = tP b) ∧ L = [] := by
  have f_mixed := mixed; have f_pl110_0 := pl110_0; have f_st110 := st110; have f_ty110 := ty110; have f_zero110 := zero110
  refine tri_intro (args := [_]) Tryz.func33 rfl Tryz.ntmps33 rfl (rs := _) rfl rfl fun E R => ?_
  simp only [fr, List.cons_append, List.nil_append]
  (refine sr_ ?_; (refine ac_ ?_); refine sn_ ?_; refine sr_ ?_; (refine mv_ ?_); (apply so_ex; (apply ex_build; ((focus ((apply EvP.cons; (exact ev_)); exact EvP.nil))); assumption; ((focus (repeat (first | exact Bld.nil (by assumption) | (apply Bld.cons; assumption; exact rfl; exact rfl; (focus (repeat (first | exact SetSub.nil | apply SetSub.take | apply SetSub.drop))))))))); exact rfl); (apply so_box; (exact ev_); exact rfl; exact rfl; intro _); (refine asg_ ?_); refine sn_ ?_; (apply sc_ret); (apply ret_ok; (focus ((apply Res.tmp; (exact ev_)); exact Res.nil)); (exact ⟨⟨_, rfl⟩, rfl⟩); (exact sel_); (exact appb_)))
def T0 (nx : Int) : Ts := ⟨Clk.new (3 + nx % 125), [], 0⟩
theorem new_on (nx : Int) : onR (3 + nx % 125) = true := by rw [onR_iff]; omega
theorem begun_tri (nx : Int) : Tri Tryz.prog 7 #[.int .i64 nx] [] fun v L => ∃ tb w, v = .tuple #[tP tb, tP w] ∧ TsIn 0 (T0 nx) tb L := by
  have f_mixed := mixed; have f_en25 := en25; have f_en32 := en32; have f_en33 := en33; have f_en34 := en34; have f_en9 := en9
  have c1 : TriQ Tryz.prog 9 #[.int .i64 nx, .int .i64 125] [] (.int .i64 (nx % 125)) := rest_tri nx 125 (by omega) (by omega)
  have hon := new_on nx
  refine tri_intro (args := [_]) Tryz.func7 rfl Tryz.ntmps7 rfl (rs := _) rfl rfl fun E R => ?_
  simp only [fr, List.cons_append, List.nil_append]
  (refine sr_ ?_; (refine ac_ ?_); (refine ac_ ?_); refine sn_ ?_; refine sr_ ?_; (refine mv_ ?_); (apply so_callq; (exact Ev.func); (focus ((apply EvL.cons; (exact ev_)); (apply EvL.cons; (exact Ev.const)); exact EvL.nil)); (focus (repeat (first | exact App.nil | apply App.cons))); assumption; exact c1; (exact sel_); exact rfl); (refine se_ (ex_add .const ev_ wr_) ?_); (refine asg_ ?_); refine sn_ ?_; refine sr_ ?_; (refine mv_ ?_))
  (apply so_call; (exact Ev.func); (focus ((apply EvL.cons; (exact ev_)); exact EvL.nil)); (focus (repeat (first | exact App.nil | apply App.cons))); assumption; (exact newC_tri hon); (exact sel_); exact rfl)
  rintro v L ⟨cb, rfl, rfl⟩
  simp only [List.cons_append, List.nil_append]
  skip
  (apply so_call; (exact Ev.func); (focus ((apply EvL.cons; (exact ev_)); exact EvL.nil)); (focus (repeat (first | exact App.nil | apply App.cons))); assumption; (exact newT_tri cb); (exact sel_); exact rfl)
  rintro v L ⟨tb, mm, rfl, rfl⟩
  simp only [List.cons_append, List.nil_append]
  ((refine mv_ ?_))
  (apply so_call; (exact Ev.func); (focus ((apply EvL.cons; (exact ev_)); exact EvL.nil)); (focus (repeat (first | exact App.nil | apply App.cons))); assumption; (exact refC_tri (3 + nx % 125)); (exact sel_); exact rfl)
  rintro v L ⟨⟨b, rfl⟩, rfl⟩
  simp only [List.cons_append, List.nil_append]
  skip
  (apply so_call; (exact Ev.func); (focus ((apply EvL.cons; (exact ev_)); exact EvL.nil)); (focus (repeat (first | exact App.nil | apply App.cons))); assumption; (exact refT_tri b); (exact sel_); exact rfl)
  rintro v L ⟨⟨w, rfl⟩, rfl⟩
  simp only [List.cons_append, List.nil_append]
  have hok : TsOk 0 (T0 nx) #[] 0 (fun _ => ⟨0, .pointer none, [], .pointer none, [], .pointer none, []⟩) := ⟨.empty, fun _ h => (by cases h), fun _ h => (by cases h), ⟨Int.le_refl _, Int.le_refl _⟩, fun _ h => (by cases h), ⟨by show onR (if onR _ then _ else 3) = true; rw [hon]; exact hon, by show onR (if onR _ then _ else 3) = true; rw [hon]; exact hon⟩, Nat.zero_le _⟩
  ((refine asg_ ?_); (refine asg_ ?_); refine sn_ ?_; (apply sc_ret); (apply ret_ok; (focus ((apply Res.tmp; (exact ev_)); (apply Res.tmp; (exact ev_)); exact Res.nil)); (exact ⟨_, _, rfl, cb, mm, #[], 0, _, rfl, hok⟩); (exact sel_); (exact appb_)))
theorem inv_T0 (nx : Int) : InvH (T0 nx) := by
  have hon := new_on nx
  have e1 : Clk.new (3 + nx % 125) = ⟨3 + nx % 125, 3 + nx % 125, fun _ => 0, fun _ => 0⟩ := by unfold Clk.new; rw [if_pos hon]
  refine ⟨⟨⟨?_, ?_⟩, ?_, ?_⟩, fun _ h => by cases h⟩
  · show onR (Clk.new _).low = true; rw [e1]; exact hon
  · show onR (Clk.new _).next = true; rw [e1]; exact hon
  · show (Clk.new _).len ≤ 60; rw [e1]; unfold Clk.len; rw [stepsR_self]; omega
  · intro x hx
    rw [knows_iff] at hx
    have h2 : (T0 nx).c.d x < (T0 nx).c.len := hx.2
    have : (T0 nx).c.len = 0 := by show (Clk.new _).len = 0; rw [e1]; exact stepsR_self _
    have := d_range (T0 nx).c x
    omega
theorem invH_do {T T' : Ts} (hI : InvH T) (h : Do T T') : InvH T' := by
  cases h with
  | begin m => exact invH_begin hI m
  | xid id => exact invH_xid hI id
  | snap id => exact invH_snap hI id
  | turn id => exact invH_turn hI id
  | anew id => exact invH_anew hI id
  | save id s => exact invH_save hI id s
  | back id s => exact invH_back hI id s
  | fail id b => exact invH_fail hI id b
  | prepare id s => exact invH_prepare hI id s
  | done id b => exact invH_done hI id b
  | freeze h hh => exact invH_freeze hI hh
/-- a copy of a snapshot that is there -/
theorem snapS_tri {K : Nat} {T : Ts} {tb cb mm : Nat} {es : Array MapEntry} {cl : Nat} {ρ : Int → TM} (hI : TsOk K T es cl ρ) {id : Int} {t : Tx} {s : Int × List Int} (hf : findT T.l id = some t) (hs : t.snap = some s) : Tri Tryz.prog 19 #[tP tb, .int .i64 id] (TsB T tb cb mm es cl ρ) fun v L' => ∃ B sv, v = .tuple #[.agg #[.int .i64 s.1, sv], .bool true] ∧ SlI s.2 sv B ∧ s.2.length ≤ 124 ∧ L' = B ++ TsB T tb cb mm es cl ρ := by
  have f_mixed := mixed; have f_en15 := en15; have f_en42 := en42; have f_en55 := en55; have f_fo84_1 := fo84_1; have f_fo87_0 := fo87_0; have f_st45 := st45; have f_ty41 := ty41; have f_ty45 := ty45; have f_ty81 := ty81; have f_un_75 : Und Tryz.prog 75 _ := ⟨Tryz.underlying75⟩; have f_un_81 : Und Tryz.prog 81 _ := ⟨Tryz.underlying81⟩; have f_zero45 := zero45
  have c1 := at_tri hI tb cb mm id
  unfold ptrT at c1
  refine tri_perm' ?_
  rw [hf] at c1
  simp only [Option.map_some, Option.getD_some] at c1
  have htm := (findT_some hf).1
  have hid := (findT_some hf).2
  obtain ⟨PO, h1, hup, _⟩ := TsB_split (tb := tb) (cb := cb) (mm := mm) (es := es) (cl := cl) (ρ := ρ) hI.nd hf
  have htx := hI.tx t htm
  rw [hid] at htx
  have hsn := htx.sn
  rw [hs] at hsn
  obtain ⟨sb, sv, B, hs1, hs2, hB, hll⟩ := hsn
  unfold tblks thdr at h1
  generalize hm : ρ id = m at *
  obtain ⟨b, sp, SB, lv, LB, gv, GB⟩ := m
  dsimp only at *
  subst hs1 hs2
  have hB' := hB
  obtain ⟨p, cap, rfl, hrow⟩ := hB
  simp only [List.append_assoc, List.cons_append, List.nil_append] at h1
  refine tri_perm h1 ?_
  refine tri_intro (args := [_, _]) Tryz.func19 rfl Tryz.ntmps19 rfl (rs := _) rfl rfl fun E R => ?_
  simp only [fr, List.cons_append, List.nil_append]
  simp only [List.append_assoc, List.cons_append, List.nil_append]
  (refine sr_ ?_; (apply so_alloc; assumption; exact rfl; intro _); (refine ac_ ?_); refine sn_ ?_; refine sr_ ?_; (refine mv_ ?_); (refine mv_ ?_); (apply so_callq; (exact Ev.func); (focus ((apply EvL.cons; (exact ev_)); (apply EvL.cons; (exact ev_)); exact EvL.nil)); (focus (repeat (first | exact App.nil | apply App.cons))); assumption; exact c1; (exact sel_); exact rfl); (refine asg_ ?_); refine sn_ ?_; (apply sc_seq); refine sr_ ?_; (refine mv_ ?_); (refine se_ (ex_eqp_f ev_ .const asm_) ?_); refine sn_ ?_; (refine cf_ ?_); (apply sc_skip); (apply nm_then); (apply sc_seq); refine sr_ ?_; (refine mv_ ?_); (refine se_ (ex_nilCheck ev_) ?_); (refine se_ (ex_fieldAddr ev_ asm_) ?_); (refine se_ (ex_load1 ev_ asm_ mem_ nth_) ?_); (refine se_ (ex_eqp_f ev_ .const asm_) ?_); refine sn_ ?_; (refine cf_ ?_); (apply sc_skip); (apply nm_then); refine sr_ ?_; (refine mv_ ?_); (refine se_ (ex_nilCheck ev_) ?_); (refine se_ (ex_fieldAddr ev_ asm_) ?_); (refine se_ (ex_load1 ev_ asm_ mem_ nth_) ?_); (refine se_ (ex_nilCheck ev_) ?_); (refine se_ (ex_loadN ev_ asm_ mem_ sub_) ?_))
  (apply so_call; (exact Ev.func); (focus ((apply EvL.cons; (exact ev_)); exact EvL.nil)); (focus (repeat (first | exact App.nil | apply App.cons))); assumption; (exact copied_tri (hi := s.1) hB' (by omega)); (exact sel_); exact rfl)
  rintro v L ⟨sv2, B2, rfl, ⟨p2, cap2, rfl, hrow2⟩, rfl⟩
  simp only [List.append_assoc, List.cons_append, List.nil_append]
  ((apply so_store; (exact ev_); (exact ev_); assumption; exact rfl; exact rfl; exact rfl; (focus (repeat (first | exact Turn.here | apply Turn.there | apply Turn.pre))); (focus (repeat (first | exact SetSub.nil | apply SetSub.take | apply SetSub.drop)))); (refine ac_ ?_); refine sn_ ?_; (apply sc_ret); (apply ret_ok; (focus ((apply Res.agg; (exact ev_); assumption; (exact mem_); (exact sub_)); (apply Res.tmp; (exact ev_)); exact Res.nil)); (exact ⟨_, h1.symm.append_left B2, B2, _, rfl, ⟨_, _, rfl, hrow2⟩, hll, rfl⟩); (exact sel_); (exact appb_)))
end Go.Proofs.YtfkpjnomfmjplaaGreat
namespace Go.Proofs.YtfkpjnomfmjplaaGreat
open Go.Sym
theorem row_block {et : TypeId} {s : Nat} {p : Option Addr} {n cap : Nat} {X : List Value} {B : List Blk} (h : Row et s (.slice p n cap) X B) (hn : n ≠ 0) : ∃ b junk, p = some ⟨b, 0, none⟩ ∧ B = [(b, .cells (X ++ junk).toArray et)] := by
  cases h with
  | nil => exact absurd rfl hn
  | row _ _ => exact ⟨_, _, rfl, rfl⟩
theorem cc_get {l : List CV} {junk : List Value} {i : Nat} (h : i < l.length) : ∀ j, j < 5 → (ccells l ++ junk)[0 + i * 5 + j]? = (l[i].cells)[j]? := by
  induction l generalizing i with
  | nil => simp at h
  | cons p l ih =>
    intro j hj
    rw [Nat.zero_add]
    cases i with
    | zero =>
      match j, hj with
      | 0, _ => rfl
      | 1, _ => rfl
      | 2, _ => rfl
      | 3, _ => rfl
      | 4, _ => rfl
    | succ i =>
      have := ih (i := i) (by simpa using h) j hj
      rw [Nat.zero_add] at this
      rw [show (i + 1) * 5 + j = (i * 5 + j) + 5 by omega]
      exact this
theorem taken_some {T : Ts} {id : Int} (h : takenT T id = true) : ∃ t s, findT T.l id = some t ∧ t.snap = some s := by
  unfold takenT at h
  cases hf : findT T.l id with
  | none => rw [hf] at h; simp at h
  | some t =>
    rw [hf] at h
    cases hs : t.snap with
    | none => simp [hs] at h
    | some s => exact ⟨t, s, rfl, hs⟩
set_option maxHeartbeats 8000000 in
theorem horizon_walk {cv : Value} {P0 : List Blk} (hA : CallsArg cv P0) (nx : Int) : Tri Tryz.prog 4 #[.agg #[cv, .int .i64 nx]] P0 fun v L => v = .bool true ∧ L = P0 := by
  have f_mixed := mixed; have f_by34 := by34; have f_en10 := en10; have f_en12 := en12; have f_en13 := en13; have f_en15 := en15; have f_en16 := en16; have f_en17 := en17; have f_en18 := en18; have f_en19 := en19; have f_en20 := en20; have f_en6 := en6; have f_en7 := en7; have f_en8 := en8; have f_fo24_1 := fo24_1; have f_ty22 := ty22; have f_ty24 := ty24; have f_ty3 := ty3; have f_ty34 := ty34; have f_ty45 := ty45; have f_un_22 : Und Tryz.prog 22 _ := ⟨Tryz.underlying22⟩; have f_un_4 : Und Tryz.prog 4 _ := ⟨Tryz.underlying4⟩; have f_zero34 := zero34; have f_zero45 := zero45; have f_zv34 := zv34
  have cc := calls_tri hA nx
  have f_un41 : Und Tryz.prog 41 (.pointer 92) := ⟨Tryz.underlying41⟩
  have f_un4 : Und Tryz.prog 4 .bool := ⟨Tryz.underlying4⟩
  have c16 : ∀ z, TriQ Tryz.prog 9 #[.int .i64 z, .int .i64 16] [] (.int .i64 (z % 16)) := fun z => rest_tri z 16 (by omega) (by omega)
  obtain ⟨ap, an, acap, rfl, _⟩ := hA
  refine tri_intro (args := [_]) Tryz.func4 rfl Tryz.ntmps4 rfl (rs := _) rfl rfl fun E R => ?_
  simp only [fr, List.cons_append, List.nil_append]
  (refine sr_ ?_; (apply so_box; (exact ev_); exact rfl; exact rfl; intro _); (refine ac_ ?_); refine sn_ ?_; refine sr_ ?_; (apply so_callq; (exact Ev.func); (focus (exact EvL.nil)); (focus (repeat (first | exact App.nil | apply App.cons))); assumption; exact sanity_tri; (exact sel_); exact rfl); (refine asg_ ?_); refine sn_ ?_; refine sr_ ?_; (refine se_ (ex_fieldAddr ev_ asm_) ?_); (refine se_ (ex_load1 ev_ asm_ mem_ nth_) ?_))
  (apply so_call; (exact Ev.func); (focus ((apply EvL.cons; (exact ev_)); exact EvL.nil)); (focus (repeat (first | exact App.nil | apply App.cons))); assumption; (exact begun_tri nx); (exact sel_); exact rfl)
  rintro v L0 ⟨tb, w, rfl, hT0⟩
  ((refine mv_ ?_); (refine se_ (ex_extract ev_ nth_) ?_); (refine se_ (ex_extract ev_ nth_) ?_); (refine asg_ ?_); (refine asg_ ?_); refine sn_ ?_; refine sr_ ?_; (refine se_ (ex_loadN ev_ asm_ mem_ sub_) ?_))
  (apply so_call; (exact Ev.func); (focus ((apply EvL.cons; (exact ev_)); exact EvL.nil)); (focus (repeat (first | exact App.nil | apply App.cons))); assumption; (exact cc); (exact sel_); exact rfl)
  rintro v L1 ⟨cs, p, cap, B, rfl, hrow, hl70, hok, rfl⟩
  simp only [List.append_assoc, List.cons_append, List.nil_append]
  ((refine asg_ ?_); refine sn_ ?_; (apply sc_seq); refine sr_ ?_; (refine ac_ ?_); refine sn_ ?_; (apply sc_block))
  refine SC.mono (Q := fun u f L => u = .exit 0 ∧ ∃ T L2, InvH T ∧ TsIn 700 T tb L2 ∧ At f 3 (.bool true) ∧ At f 4 (tP tb) ∧ Held L (L2 ++ P0) R) ?_ ?_
  · refine sc_loop (fun k f L => ∃ (i : Nat) (T : Ts) (L2 : List Blk), k = cs.length - i ∧ i ≤ cs.length ∧ InvH T ∧ TsIn (9 * i) T tb L2 ∧ At f 3 (.bool true) ∧ At f 4 (tP tb) ∧ At f 6 (.slice p cs.length cap) ∧ At f 7 (.int .i64 (i : Int)) ∧ Held L (L2 ++ (B ++ P0)) R)
      _ ⟨0, T0 nx, L0, rfl, Nat.zero_le _, inv_T0 nx, hT0, at_, at_, at_, at_, held_⟩ ?_
    rintro k f L ⟨i, T, L2, hk, hi, hI, hT, a3, a4, a6, a7, ⟨G, hG⟩⟩
    refine sc_perm hG ?_
    clear hG
    simp only [List.append_assoc]
    by_cases hlt : i < cs.length
    · have hlt' : (i : Int) < (cs.length : Int) := by omega
      have e1 : ((i + 1 : Nat) : Int) = (i : Int) + 1 := by omega
      obtain ⟨b5, junk5, rfl, rfl⟩ := row_block hrow (by omega)
      have hg := cc_get (junk := junk5) hlt
      have hc := hok _ (List.getElem_mem hlt)
      generalize cs[i] = c at hg hc
      have hdo := do_tri (P0 := P0) hT (by omega) c.z c.id c.n c.s hc.xi hc.l4
      simp only [List.cons_append, List.nil_append]
      ((apply sc_seq); refine sr_ ?_; (refine mv_ ?_); (refine mv_ ?_); (refine se_ (ex_len_slice ev_ asm_) ?_); (refine se_ (ex_lss_t ev_ ev_ om_) ?_); refine sn_ ?_; (refine ct_ ?_); (apply sc_skip); (apply nm_then); (apply sc_seq); (apply sc_block); (apply sc_region); (refine mv_ ?_); (refine mv_ ?_); (refine mv_ ?_); (refine se_ (ex_indexAddr ev_ ev_ asm_ asm_ lit_ lt_) ?_); (apply so_ex; (apply ex_loadNr (r := c.cells); (exact ev_); assumption; (exact mem_); exact rfl; exact hg); exact rfl))
      (apply so_call; (exact Ev.func); (focus ((apply EvL.cons; (exact ev_)); (apply EvL.cons; (exact ev_)); exact EvL.nil)); (focus (repeat (first | exact App.nil | apply App.cons))); assumption; (exact hdo); (exact sel_); exact rfl)
      rintro v L3 ⟨T', L4, hstep, hT', rfl⟩
      have hI' : InvH T' := by
        rcases hstep with h | ⟨_, s, xs, m, rfl⟩
        · exact invH_do hI h
        · exact invH_restore hI s xs m
      simp only [List.append_assoc, List.cons_append, List.nil_append]
      ((apply so_nil); (apply nm_block); (apply nm_then); (apply sc_region); (refine mv_ ?_); (refine se_ (ex_add ev_ .const wr_) ?_); (refine asg_ ?_); (apply so_nil); (apply nm_then))
      exact ⟨cs.length - (i + 1), by omega, i + 1, T', L4, rfl, by omega, hI', hT', at_, at_, at_, by rw [e1]; exact at_, held_⟩
    · have hlt' : ¬ (i : Int) < (cs.length : Int) := by omega
      ((apply sc_seq); refine sr_ ?_; (refine mv_ ?_); (refine mv_ ?_); (refine se_ (ex_len_slice ev_ asm_) ?_); (refine se_ (ex_lss_f ev_ ev_ om_) ?_); refine sn_ ?_; (refine cf_ ?_); (apply sc_exit); (apply et_then); (apply et_then))
      exact ⟨rfl, T, L2, hI, hT.mono (by omega), at_, at_, held_⟩
  rintro u f L ⟨rfl, T, L2, hI, hT, a3, a4, ⟨G, hG⟩⟩
  refine et_hit (nm_then (sc_perm hG ?_))
  clear hG
  obtain ⟨cb, mm, es, cl, ρ, rfl, hok⟩ := hT
  have c1 := clock_tri T tb cb mm
  have c2 := hor_tri (tb := tb) (cb := cb) (mm := mm) hok
  have ctk := fun id => taken_tri (tb := tb) ⟨cb, mm, es, cl, ρ, rfl, hok⟩ id
  have csn := fun id t s (hf : findT T.l id = some t) (hs : t.snap = some s) => snapS_tri (tb := tb) (cb := cb) (mm := mm) hok hf hs
  unfold TsB at c2 ctk csn ⊢
  simp only [List.append_assoc, List.cons_append, List.nil_append]
  (refine sr_ ?_; (refine mv_ ?_); (apply so_callq; (exact Ev.func); (focus ((apply EvL.cons; (exact ev_)); exact EvL.nil)); (focus (repeat (first | exact App.nil | apply App.cons))); assumption; exact c1; (exact sel_); exact rfl); (refine asg_ ?_); refine sn_ ?_; refine sr_ ?_; (refine mv_ ?_))
  (apply so_call; (exact Ev.func); (focus ((apply EvL.cons; (exact ev_)); exact EvL.nil)); (focus (repeat (first | exact App.nil | apply App.cons))); assumption; (exact c2); (exact sel_); exact rfl)
  rintro v L ⟨⟨h, rfl, hh⟩, rfl⟩
  have hon := (hor_d hI hh).1
  have hlen := lives_len T.c
  simp only [List.append_assoc, List.cons_append, List.nil_append]
  ((refine asg_ ?_); refine sn_ ?_; refine sr_ ?_; (refine mv_ ?_))
  (apply so_call; (exact Ev.func); (focus ((apply EvL.cons; (exact ev_)); exact EvL.nil)); (focus (repeat (first | exact App.nil | apply App.cons))); assumption; (exact snap_tri hok.ck cb); (exact sel_); exact rfl)
  rintro v L ⟨nv, Bn, rfl, hBn, rfl⟩
  have hBn' := hBn
  obtain ⟨np, ncap, rfl, hnrow⟩ := hBn
  have cendn := fun x (hx : onR x = true) => ended_tri hok.ck cb hBn' (by omega) hx hok.ck.next
  simp only [List.append_assoc, List.cons_append, List.nil_append] at cendn ⊢
  ((apply so_alloc; assumption; exact rfl; intro _); (apply so_store; (exact ev_); (exact ev_); assumption; exact rfl; exact rfl; exact rfl; (focus (repeat (first | exact Turn.here | apply Turn.there | apply Turn.pre))); (focus (repeat (first | exact SetSub.nil | apply SetSub.take | apply SetSub.drop)))); refine sn_ ?_; (apply sc_seq); refine sr_ ?_; (refine ac_ ?_); refine sn_ ?_; (apply sc_block))
  rename_i nb
  refine SC.mono (Q := fun u f L => u = .exit 2 ∧ At f 3 (.bool true) ∧ Held L P0 R) ?_ ?_
  · refine sc_loop (fun k f L => ∃ (x : Int), k = (128 - x).toNat ∧ 3 ≤ x ∧ x ≤ 128 ∧ At f 3 (.bool true) ∧ At f 4 (tP tb) ∧ At f 8 (cP cb) ∧ At f 9 (.int .i64 h) ∧ At f 10 (tP nb) ∧ At f 11 (.int .i64 x) ∧ Held L (hdr T tb cb mm :: (mm, .map es cl) :: cB cb T.c :: (nb, .cells [Value.int .i64 T.c.next, .slice np T.c.lives.length ncap].toArray 45) :: (PB ρ T.l ++ (Bn ++ P0))) R)
      _ ⟨3, rfl, by omega, by omega, at_, at_, at_, at_, at_, at_, held_⟩ ?_
    rintro k f L ⟨x, hk, hx3, hx8, a3, a4, a8, a9, a10, a11, ⟨G, hG⟩⟩
    refine sc_perm hG ?_
    clear hG
    simp only [List.append_assoc, List.cons_append, List.nil_append]
    by_cases hlt : x < 128
    · have hx : onR x = true := onR_iff.2 ⟨hx3, hlt⟩
      have cst := state_tri hok.ck cb x
      have cbf := before_tri hx hon
      by_cases hs0 : T.c.state x = 0
      · rw [hs0] at cst
        ((apply sc_seq); refine sr_ ?_; (refine mv_ ?_); (refine se_ (ex_lss_t ev_ .const om_) ?_); refine sn_ ?_; (refine ct_ ?_); (apply sc_skip); (apply nm_then); (apply sc_seq); (apply sc_block); refine sr_ ?_; (refine mv_ ?_); (refine mv_ ?_); (apply so_callq; (exact Ev.func); (focus ((apply EvL.cons; (exact ev_)); (apply EvL.cons; (exact ev_)); exact EvL.nil)); (focus (repeat (first | exact App.nil | apply App.cons))); assumption; exact cst; (exact sel_); exact rfl); (refine asg_ ?_); refine sn_ ?_; (apply sc_seq); refine sr_ ?_; (refine mv_ ?_); (refine se_ (ex_eql_t ev_ .const om_) ?_); (refine mv_ ?_); (refine sk_ ?_); (refine sk_ ?_); (refine sk_ ?_); (refine sk_ ?_); (refine se_ (ex_pick_t ev_ .const) ?_); refine sn_ ?_; (refine ct_ ?_); (apply sc_exit); (apply et_then); (apply et_hit); (apply nm_then); (apply sc_region); (refine mv_ ?_); (refine se_ (ex_add ev_ .const wr_) ?_); (refine asg_ ?_); (apply so_nil); (apply nm_then))
        exact ⟨(128 - (x + 1)).toNat, by omega, x + 1, rfl, by omega, by omega, at_, at_, at_, at_, at_, at_, held_⟩
      · cases hb : beforeR x h with
        | false =>
          rw [hb] at cbf
          ((apply sc_seq); refine sr_ ?_; (refine mv_ ?_); (refine se_ (ex_lss_t ev_ .const om_) ?_); refine sn_ ?_; (refine ct_ ?_); (apply sc_skip); (apply nm_then); (apply sc_seq); (apply sc_block); refine sr_ ?_; (refine mv_ ?_); (refine mv_ ?_); (apply so_callq; (exact Ev.func); (focus ((apply EvL.cons; (exact ev_)); (apply EvL.cons; (exact ev_)); exact EvL.nil)); (focus (repeat (first | exact App.nil | apply App.cons))); assumption; exact cst; (exact sel_); exact rfl); (refine asg_ ?_); refine sn_ ?_; (apply sc_seq); refine sr_ ?_; (refine mv_ ?_); (refine se_ (ex_eql_f ev_ .const om_) ?_); (refine mv_ ?_); (refine wt_ ?_); (refine mv_ ?_); (refine wt_ ?_); (refine mv_ ?_); (refine wt_ ?_); (apply so_callq; (exact Ev.func); (focus ((apply EvL.cons; (exact ev_)); (apply EvL.cons; (exact ev_)); exact EvL.nil)); (focus (repeat (first | exact App.nil | apply App.cons))); assumption; exact cbf; (exact sel_); exact rfl); (refine wt_ ?_); (refine se_ (ex_not ev_) ?_); (refine se_ (ex_pick_f ev_ ev_) ?_); refine sn_ ?_; (refine ct_ ?_); (apply sc_exit); (apply et_then); (apply et_hit); (apply nm_then); (apply sc_region); (refine mv_ ?_); (refine se_ (ex_add ev_ .const wr_) ?_); (refine asg_ ?_); (apply so_nil); (apply nm_then))
          exact ⟨(128 - (x + 1)).toNat, by omega, x + 1, rfl, by omega, by omega, at_, at_, at_, at_, at_, at_, held_⟩
        | true =>
          rw [hb] at cbf
          obtain ⟨h23, hlaw⟩ := hor_law hI hh hx hs0 hb
          have cnow := cendn x hx
          have hnow := hlaw (T.c.next, T.c.lives) (.inl rfl)
          rw [hnow] at cnow
          rcases h23 with h23 | h23
          · have es1 : decide (T.c.state x = 2) = true := by rw [h23]; rfl
            have hsame : ∀ s', (s' = T.c.snapR ∨ ∃ t ∈ T.l, t.snap = some s') → endedR T.c s' x = true := fun s' h => by rw [hlaw s' h, es1]
            rw [es1] at cnow
            rw [h23] at cst
            ((apply sc_seq); (apply sc_seq); ((fail_if_success (apply sc_region (id := 18))); apply sc_region); (refine mv_ ?_); (refine se_ (ex_lss_t ev_ .const om_) ?_); refine sn_ ?_; (refine ct_ ?_); (apply sc_skip); (apply nm_then); (apply sc_seq); (apply sc_block); (apply sc_seq); ((fail_if_success (apply sc_region (id := 18))); apply sc_region); (refine mv_ ?_); (refine mv_ ?_); (apply so_callq; (exact Ev.func); (focus ((apply EvL.cons; (exact ev_)); (apply EvL.cons; (exact ev_)); exact EvL.nil)); (focus (repeat (first | exact App.nil | apply App.cons))); assumption; exact cst; (exact sel_); exact rfl); (refine asg_ ?_); refine sn_ ?_; (apply sc_seq); (apply sc_seq); ((fail_if_success (apply sc_region (id := 18))); apply sc_region); (refine mv_ ?_); (refine se_ (ex_eql_f ev_ .const om_) ?_); (refine mv_ ?_); (refine wt_ ?_); (refine mv_ ?_); (refine wt_ ?_); (refine mv_ ?_); (refine wt_ ?_); (apply so_callq; (exact Ev.func); (focus ((apply EvL.cons; (exact ev_)); (apply EvL.cons; (exact ev_)); exact EvL.nil)); (focus (repeat (first | exact App.nil | apply App.cons))); assumption; exact cbf; (exact sel_); exact rfl); (refine wt_ ?_); (refine se_ (ex_not ev_) ?_); (refine se_ (ex_pick_f ev_ ev_) ?_); refine sn_ ?_; (refine cf_ ?_); (apply sc_skip); (apply nm_then); (apply sc_seq); (apply sc_seq); ((fail_if_success (apply sc_region (id := 18))); apply sc_region); (refine mv_ ?_); (refine se_ (ex_neq_f ev_ .const om_) ?_); (refine mv_ ?_); (refine sk_ ?_); (refine sk_ ?_); (refine se_ (ex_pick_f ev_ .const) ?_); refine sn_ ?_; (refine cf_ ?_); (apply sc_skip); (apply nm_then); (apply sc_seq); (apply sc_seq))
            apply sc_region
            ((refine ac_ ?_); (apply so_nil); (apply nm_then))
            refine SC.mono (Q := fun u f L => u = .normal ∧ At f 3 (.bool true) ∧ At f 4 (tP tb) ∧ At f 8 (cP cb) ∧ At f 9 (.int .i64 h) ∧ At f 10 (tP nb) ∧ At f 11 (.int .i64 x) ∧ At f 12 (.int .i64 2) ∧ Held L (hdr T tb cb mm :: (mm, .map es cl) :: cB cb T.c :: (nb, .cells [Value.int .i64 T.c.next, .slice np T.c.lives.length ncap].toArray 45) :: (PB ρ T.l ++ (Bn ++ P0))) R) ?_ ?_
            · apply sc_block
              refine sc_loop (fun k f L => ∃ (id : Int), k = (80 - id).toNat ∧ 1 ≤ id ∧ id ≤ 80 ∧ At f 3 (.bool true) ∧ At f 4 (tP tb) ∧ At f 8 (cP cb) ∧ At f 9 (.int .i64 h) ∧ At f 10 (tP nb) ∧ At f 11 (.int .i64 x) ∧ At f 12 (.int .i64 2) ∧ At f 13 (.int .i64 id) ∧ Held L (hdr T tb cb mm :: (mm, .map es cl) :: cB cb T.c :: (nb, .cells [Value.int .i64 T.c.next, .slice np T.c.lives.length ncap].toArray 45) :: (PB ρ T.l ++ (Bn ++ P0))) R)
                _ ⟨1, rfl, by omega, by omega, at_, at_, at_, at_, at_, at_, at_, at_, held_⟩ ?_
              clear a3 a4 a8 a9 a10 a11
              rintro k f L ⟨id, hk, hi1, hi8, a3, a4, a8, a9, a10, a11, a12, a13, ⟨G2, hG2⟩⟩
              refine sc_perm hG2 ?_
              clear hG2
              simp only [List.append_assoc, List.cons_append, List.nil_append]
              by_cases hlt8 : id < 80
              · have ct := ctk id
                cases htk : takenT T id with
                | false =>
                  rw [htk] at ct
                  ((apply sc_seq); refine sr_ ?_; (refine mv_ ?_); (refine se_ (ex_lss_t ev_ .const om_) ?_); refine sn_ ?_; (refine ct_ ?_); (apply sc_skip); (apply nm_then); (apply sc_seq); (apply sc_block); refine sr_ ?_; (refine mv_ ?_); (refine mv_ ?_); (apply so_callq; (exact Ev.func); (focus ((apply EvL.cons; (exact ev_)); (apply EvL.cons; (exact ev_)); exact EvL.nil)); (focus (repeat (first | exact App.nil | apply App.cons))); assumption; exact ct; (exact sel_); exact rfl); refine sn_ ?_; (refine cf_ ?_); (apply sc_skip); (apply nm_block); (apply nm_then); (apply sc_region); (refine mv_ ?_); (refine se_ (ex_add ev_ .const wr_) ?_); (refine asg_ ?_); (apply so_nil); (apply nm_then))
                  exact ⟨(80 - (id + 1)).toNat, by omega, id + 1, rfl, by omega, by omega, at_, at_, at_, at_, at_, at_, at_, at_, held_⟩
                | true =>
                  rw [htk] at ct
                  obtain ⟨t, s, hf, hs⟩ := taken_some htk
                  have htm := (findT_some hf).1
                  ((apply sc_seq); refine sr_ ?_; (refine mv_ ?_); (refine se_ (ex_lss_t ev_ .const om_) ?_); refine sn_ ?_; (refine ct_ ?_); (apply sc_skip); (apply nm_then); (apply sc_seq); (apply sc_block); refine sr_ ?_; (refine mv_ ?_); (refine mv_ ?_); (apply so_callq; (exact Ev.func); (focus ((apply EvL.cons; (exact ev_)); (apply EvL.cons; (exact ev_)); exact EvL.nil)); (focus (repeat (first | exact App.nil | apply App.cons))); assumption; exact ct; (exact sel_); exact rfl); refine sn_ ?_; (refine ct_ ?_); refine sr_ ?_; (refine mv_ ?_); (refine mv_ ?_))
                  (apply so_call; (exact Ev.func); (focus ((apply EvL.cons; (exact ev_)); (apply EvL.cons; (exact ev_)); exact EvL.nil)); (focus (repeat (first | exact App.nil | apply App.cons))); assumption; (exact csn id t s hf hs); (exact sel_); exact rfl)
                  rintro v L ⟨Bs, sv, rfl, hBs, hls, rfl⟩
                  have cend := ended_tri hok.ck cb hBs (by omega) hx (hI.sn t htm s hs).hi
                  rw [hsame s (.inr ⟨t, htm, hs⟩)] at cend
                  obtain ⟨sp, scap, rfl, srow⟩ := hBs
                  simp only [List.append_assoc, List.cons_append, List.nil_append]
                  ((refine mv_ ?_); (refine se_ (ex_extract ev_ nth_) ?_); (refine se_ (ex_extract ev_ nth_) ?_); (apply so_alloc; assumption; exact rfl; intro _); (apply so_store; (exact ev_); (exact ev_); assumption; exact rfl; exact rfl; exact rfl; (focus (repeat (first | exact Turn.here | apply Turn.there | apply Turn.pre))); (focus (repeat (first | exact SetSub.nil | apply SetSub.take | apply SetSub.drop)))); (refine asg_ ?_); refine sn_ ?_; refine sr_ ?_; (refine se_ (ex_loadN ev_ asm_ mem_ sub_) ?_); (refine mv_ ?_); (refine mv_ ?_); (refine se_ (ex_makeIface ev_ asm_) ?_); (apply so_callq; (exact Ev.func); (focus ((apply EvL.cons; (exact ev_)); (apply EvL.cons; (exact ev_)); (apply EvL.cons; (exact ev_)); exact EvL.nil)); (focus (repeat (first | exact App.nil | apply App.cons))); assumption; exact cend; (exact sel_); exact rfl); (refine mv_ ?_); (refine se_ (ex_eql_t ev_ .const om_) ?_); (apply so_ex; (apply ex_neb; (exact ev_); (exact ev_); assumption; exact rfl); exact rfl); refine sn_ ?_; (refine cf_ ?_); (apply sc_skip); (apply nm_block); (apply nm_then); (apply sc_region); (refine mv_ ?_); (refine se_ (ex_add ev_ .const wr_) ?_); (refine asg_ ?_); (apply so_nil); (apply nm_then))
                  exact ⟨(80 - (id + 1)).toNat, by omega, id + 1, rfl, by omega, by omega, at_, at_, at_, at_, at_, at_, at_, at_, held_⟩
              · have hlt8' : ¬ id < 80 := hlt8
                ((apply sc_seq); refine sr_ ?_; (refine mv_ ?_); (refine se_ (ex_lss_f ev_ .const om_) ?_); refine sn_ ?_; (refine cf_ ?_); (apply sc_exit); (apply et_then); (apply et_then); (apply et_hit))
                exact ⟨rfl, at_, at_, at_, at_, at_, at_, at_, held_⟩
            · rintro u f L ⟨rfl, a3, a4, a8, a9, a10, a11, a12, ⟨G2, hG2⟩⟩
              refine nm_then (sc_perm hG2 ?_)
              clear hG2
              simp only [List.append_assoc, List.cons_append, List.nil_append]
              (refine sr_ ?_; (refine se_ (ex_loadN ev_ asm_ mem_ sub_) ?_); (refine mv_ ?_); (refine mv_ ?_); (refine se_ (ex_makeIface ev_ asm_) ?_); (apply so_callq; (exact Ev.func); (focus ((apply EvL.cons; (exact ev_)); (apply EvL.cons; (exact ev_)); (apply EvL.cons; (exact ev_)); exact EvL.nil)); (focus (repeat (first | exact App.nil | apply App.cons))); assumption; exact cnow; (exact sel_); exact rfl); (refine mv_ ?_); (refine se_ (ex_eql_t ev_ .const om_) ?_); (apply so_ex; (apply ex_neb; (exact ev_); (exact ev_); assumption; exact rfl); exact rfl); refine sn_ ?_; (refine cf_ ?_); (apply sc_skip); (apply nm_block); (apply nm_then); (apply sc_region); (refine mv_ ?_); (refine se_ (ex_add ev_ .const wr_) ?_); (refine asg_ ?_); (apply so_nil); (apply nm_then))
              exact ⟨(128 - (x + 1)).toNat, by omega, x + 1, rfl, by omega, by omega, at_, at_, at_, at_, at_, at_, held_⟩
          · have es1 : decide (T.c.state x = 2) = false := by rw [h23]; rfl
            have hsame : ∀ s', (s' = T.c.snapR ∨ ∃ t ∈ T.l, t.snap = some s') → endedR T.c s' x = false := fun s' h => by rw [hlaw s' h, es1]
            rw [es1] at cnow
            rw [h23] at cst
            ((apply sc_seq); (apply sc_seq); ((fail_if_success (apply sc_region (id := 18))); apply sc_region); (refine mv_ ?_); (refine se_ (ex_lss_t ev_ .const om_) ?_); refine sn_ ?_; (refine ct_ ?_); (apply sc_skip); (apply nm_then); (apply sc_seq); (apply sc_block); (apply sc_seq); ((fail_if_success (apply sc_region (id := 18))); apply sc_region); (refine mv_ ?_); (refine mv_ ?_); (apply so_callq; (exact Ev.func); (focus ((apply EvL.cons; (exact ev_)); (apply EvL.cons; (exact ev_)); exact EvL.nil)); (focus (repeat (first | exact App.nil | apply App.cons))); assumption; exact cst; (exact sel_); exact rfl); (refine asg_ ?_); refine sn_ ?_; (apply sc_seq); (apply sc_seq); ((fail_if_success (apply sc_region (id := 18))); apply sc_region); (refine mv_ ?_); (refine se_ (ex_eql_f ev_ .const om_) ?_); (refine mv_ ?_); (refine wt_ ?_); (refine mv_ ?_); (refine wt_ ?_); (refine mv_ ?_); (refine wt_ ?_); (apply so_callq; (exact Ev.func); (focus ((apply EvL.cons; (exact ev_)); (apply EvL.cons; (exact ev_)); exact EvL.nil)); (focus (repeat (first | exact App.nil | apply App.cons))); assumption; exact cbf; (exact sel_); exact rfl); (refine wt_ ?_); (refine se_ (ex_not ev_) ?_); (refine se_ (ex_pick_f ev_ ev_) ?_); refine sn_ ?_; (refine cf_ ?_); (apply sc_skip); (apply nm_then); (apply sc_seq); (apply sc_seq); ((fail_if_success (apply sc_region (id := 18))); apply sc_region); (refine mv_ ?_); (refine se_ (ex_neq_t ev_ .const om_) ?_); (refine mv_ ?_); (refine wt_ ?_); (refine mv_ ?_); (refine wt_ ?_); (refine se_ (ex_neq_f ev_ .const om_) ?_); (refine se_ (ex_pick_t ev_ ev_) ?_); refine sn_ ?_; (refine cf_ ?_); (apply sc_skip); (apply nm_then); (apply sc_seq); (apply sc_seq))
            apply sc_region
            ((refine ac_ ?_); (apply so_nil); (apply nm_then))
            refine SC.mono (Q := fun u f L => u = .normal ∧ At f 3 (.bool true) ∧ At f 4 (tP tb) ∧ At f 8 (cP cb) ∧ At f 9 (.int .i64 h) ∧ At f 10 (tP nb) ∧ At f 11 (.int .i64 x) ∧ At f 12 (.int .i64 3) ∧ Held L (hdr T tb cb mm :: (mm, .map es cl) :: cB cb T.c :: (nb, .cells [Value.int .i64 T.c.next, .slice np T.c.lives.length ncap].toArray 45) :: (PB ρ T.l ++ (Bn ++ P0))) R) ?_ ?_
            · apply sc_block
              refine sc_loop (fun k f L => ∃ (id : Int), k = (80 - id).toNat ∧ 1 ≤ id ∧ id ≤ 80 ∧ At f 3 (.bool true) ∧ At f 4 (tP tb) ∧ At f 8 (cP cb) ∧ At f 9 (.int .i64 h) ∧ At f 10 (tP nb) ∧ At f 11 (.int .i64 x) ∧ At f 12 (.int .i64 3) ∧ At f 13 (.int .i64 id) ∧ Held L (hdr T tb cb mm :: (mm, .map es cl) :: cB cb T.c :: (nb, .cells [Value.int .i64 T.c.next, .slice np T.c.lives.length ncap].toArray 45) :: (PB ρ T.l ++ (Bn ++ P0))) R)
                _ ⟨1, rfl, by omega, by omega, at_, at_, at_, at_, at_, at_, at_, at_, held_⟩ ?_
              clear a3 a4 a8 a9 a10 a11
              rintro k f L ⟨id, hk, hi1, hi8, a3, a4, a8, a9, a10, a11, a12, a13, ⟨G2, hG2⟩⟩
              refine sc_perm hG2 ?_
              clear hG2
              simp only [List.append_assoc, List.cons_append, List.nil_append]
              by_cases hlt8 : id < 80
              · have ct := ctk id
                cases htk : takenT T id with
                | false =>
                  rw [htk] at ct
                  ((apply sc_seq); refine sr_ ?_; (refine mv_ ?_); (refine se_ (ex_lss_t ev_ .const om_) ?_); refine sn_ ?_; (refine ct_ ?_); (apply sc_skip); (apply nm_then); (apply sc_seq); (apply sc_block); refine sr_ ?_; (refine mv_ ?_); (refine mv_ ?_); (apply so_callq; (exact Ev.func); (focus ((apply EvL.cons; (exact ev_)); (apply EvL.cons; (exact ev_)); exact EvL.nil)); (focus (repeat (first | exact App.nil | apply App.cons))); assumption; exact ct; (exact sel_); exact rfl); refine sn_ ?_; (refine cf_ ?_); (apply sc_skip); (apply nm_block); (apply nm_then); (apply sc_region); (refine mv_ ?_); (refine se_ (ex_add ev_ .const wr_) ?_); (refine asg_ ?_); (apply so_nil); (apply nm_then))
                  exact ⟨(80 - (id + 1)).toNat, by omega, id + 1, rfl, by omega, by omega, at_, at_, at_, at_, at_, at_, at_, at_, held_⟩
                | true =>
                  rw [htk] at ct
                  obtain ⟨t, s, hf, hs⟩ := taken_some htk
                  have htm := (findT_some hf).1
                  ((apply sc_seq); refine sr_ ?_; (refine mv_ ?_); (refine se_ (ex_lss_t ev_ .const om_) ?_); refine sn_ ?_; (refine ct_ ?_); (apply sc_skip); (apply nm_then); (apply sc_seq); (apply sc_block); refine sr_ ?_; (refine mv_ ?_); (refine mv_ ?_); (apply so_callq; (exact Ev.func); (focus ((apply EvL.cons; (exact ev_)); (apply EvL.cons; (exact ev_)); exact EvL.nil)); (focus (repeat (first | exact App.nil | apply App.cons))); assumption; exact ct; (exact sel_); exact rfl); refine sn_ ?_; (refine ct_ ?_); refine sr_ ?_; (refine mv_ ?_); (refine mv_ ?_))
                  (apply so_call; (exact Ev.func); (focus ((apply EvL.cons; (exact ev_)); (apply EvL.cons; (exact ev_)); exact EvL.nil)); (focus (repeat (first | exact App.nil | apply App.cons))); assumption; (exact csn id t s hf hs); (exact sel_); exact rfl)
                  rintro v L ⟨Bs, sv, rfl, hBs, hls, rfl⟩
                  have cend := ended_tri hok.ck cb hBs (by omega) hx (hI.sn t htm s hs).hi
                  rw [hsame s (.inr ⟨t, htm, hs⟩)] at cend
                  obtain ⟨sp, scap, rfl, srow⟩ := hBs
                  simp only [List.append_assoc, List.cons_append, List.nil_append]
                  ((refine mv_ ?_); (refine se_ (ex_extract ev_ nth_) ?_); (refine se_ (ex_extract ev_ nth_) ?_); (apply so_alloc; assumption; exact rfl; intro _); (apply so_store; (exact ev_); (exact ev_); assumption; exact rfl; exact rfl; exact rfl; (focus (repeat (first | exact Turn.here | apply Turn.there | apply Turn.pre))); (focus (repeat (first | exact SetSub.nil | apply SetSub.take | apply SetSub.drop)))); (refine asg_ ?_); refine sn_ ?_; refine sr_ ?_; (refine se_ (ex_loadN ev_ asm_ mem_ sub_) ?_); (refine mv_ ?_); (refine mv_ ?_); (refine se_ (ex_makeIface ev_ asm_) ?_); (apply so_callq; (exact Ev.func); (focus ((apply EvL.cons; (exact ev_)); (apply EvL.cons; (exact ev_)); (apply EvL.cons; (exact ev_)); exact EvL.nil)); (focus (repeat (first | exact App.nil | apply App.cons))); assumption; exact cend; (exact sel_); exact rfl); (refine mv_ ?_); (refine se_ (ex_eql_f ev_ .const om_) ?_); (apply so_ex; (apply ex_neb; (exact ev_); (exact ev_); assumption; exact rfl); exact rfl); refine sn_ ?_; (refine cf_ ?_); (apply sc_skip); (apply nm_block); (apply nm_then); (apply sc_region); (refine mv_ ?_); (refine se_ (ex_add ev_ .const wr_) ?_); (refine asg_ ?_); (apply so_nil); (apply nm_then))
                  exact ⟨(80 - (id + 1)).toNat, by omega, id + 1, rfl, by omega, by omega, at_, at_, at_, at_, at_, at_, at_, at_, held_⟩
              · have hlt8' : ¬ id < 80 := hlt8
                ((apply sc_seq); refine sr_ ?_; (refine mv_ ?_); (refine se_ (ex_lss_f ev_ .const om_) ?_); refine sn_ ?_; (refine cf_ ?_); (apply sc_exit); (apply et_then); (apply et_then); (apply et_hit))
                exact ⟨rfl, at_, at_, at_, at_, at_, at_, at_, held_⟩
            · rintro u f L ⟨rfl, a3, a4, a8, a9, a10, a11, a12, ⟨G2, hG2⟩⟩
              refine nm_then (sc_perm hG2 ?_)
              clear hG2
              simp only [List.append_assoc, List.cons_append, List.nil_append]
              (refine sr_ ?_; (refine se_ (ex_loadN ev_ asm_ mem_ sub_) ?_); (refine mv_ ?_); (refine mv_ ?_); (refine se_ (ex_makeIface ev_ asm_) ?_); (apply so_callq; (exact Ev.func); (focus ((apply EvL.cons; (exact ev_)); (apply EvL.cons; (exact ev_)); (apply EvL.cons; (exact ev_)); exact EvL.nil)); (focus (repeat (first | exact App.nil | apply App.cons))); assumption; exact cnow; (exact sel_); exact rfl); (refine mv_ ?_); (refine se_ (ex_eql_f ev_ .const om_) ?_); (apply so_ex; (apply ex_neb; (exact ev_); (exact ev_); assumption; exact rfl); exact rfl); refine sn_ ?_; (refine cf_ ?_); (apply sc_skip); (apply nm_block); (apply nm_then); (apply sc_region); (refine mv_ ?_); (refine se_ (ex_add ev_ .const wr_) ?_); (refine asg_ ?_); (apply so_nil); (apply nm_then))
              exact ⟨(128 - (x + 1)).toNat, by omega, x + 1, rfl, by omega, by omega, at_, at_, at_, at_, at_, at_, held_⟩
    · have hlt' : ¬ x < 128 := hlt
      ((apply sc_seq); refine sr_ ?_; (refine mv_ ?_); (refine se_ (ex_lss_f ev_ .const om_) ?_); refine sn_ ?_; (refine cf_ ?_); (apply sc_exit); (apply et_then); (apply et_then))
      exact ⟨rfl, at_, held_⟩
  rintro u f L ⟨rfl, a3, ⟨G, hG⟩⟩
  refine et_hit (nm_then (sc_perm hG ?_))
  (refine sr_ ?_; (refine mv_ ?_); (refine asg_ ?_); refine sn_ ?_; (apply sc_ret); (apply ret_ok; (focus ((apply Res.tmp; (exact ev_)); exact Res.nil)); (exact ⟨rfl, rfl⟩); (exact sel_); (exact appb_)))
end Go.Proofs.YtfkpjnomfmjplaaGreat
namespace Go.Proofs.YtfkpjnomfmjplaaGreat
open Go.Sym Go.ChangeShapes Go.WideShapes
theorem cells3 : Tryz.prog.cellsOf 3 = 1 := by kernel_rfl
theorem cells9 : Tryz.prog.cellsOf 9 = 1 := by kernel_rfl
theorem cells22 : Tryz.prog.cellsOf 22 = 1 := by kernel_rfl
theorem cells24 : Tryz.prog.cellsOf 24 = 2 := by kernel_rfl
theorem cells32 : Tryz.prog.cellsOf 32 = 1 := by kernel_rfl
theorem cells34 : Tryz.prog.cellsOf 34 = 5 := by kernel_rfl
theorem types24 : Tryz.prog.cellTypes Tryz.prog.depth 24 = some [22, 3] := by kernel_rfl
section
variable {H : Type} {enc : TypeId × Value → H} {W : World} {held : Bool} {fuel : Nat} {x : DataW H × List MemPlace}
theorem block_at {b o : Nat} {sp : Option Nat} {v : Value} (h : W.cell? ⟨b, o, sp⟩ = some v) : sp = none ∧ ∃ c T fz, (b, Obj.cells (List.toArray c) T fz) ∈ allB W := by
  unfold World.cell? at h
  split at h
  · rename_i c T fz hb
    cases sp with
    | some s => simp at h
    | none => exact ⟨rfl, c.toList, T, fz, mem_allB.2 (by simpa using hb)⟩
  · cases h
theorem cell_in {b o : Nat} {v : Value} {c : List Value} {T : TypeId} {fz : Nat × Nat} (hm : (b, Obj.cells (List.toArray c) T fz) ∈ allB W) (h : W.cell? ⟨b, o, none⟩ = some v) : c[o]? = some v := by
  have hb := mem_allB.1 hm
  simp only at hb
  simpa [World.cell?, hb] using h
theorem open_xs {v : Value} (h : DataW.trod enc Tryz.prog W 0 (fun _ => true) held fuel 32 [v] = some x) : ∃ (xs : List Int) (xp : Option Addr) (xcap : Nat), v = .slice xp xs.length xcap ∧ XsIn xs (.slice xp xs.length xcap) (allB W) ∧ xs.length ≤ xcap := by
  rcases Go.Deep.open_slice1 Tryz.underlying32 cells3 h with ⟨h1, _⟩ | ⟨a, len, cap, m, n, V, D, Pl, h1, _, hl, _, hm, _, hx⟩
  · injection h1 with h1
    exact ⟨[], none, 0, h1, ⟨none, 0, rfl, fun h => absurd rfl h⟩, Nat.le_refl _⟩
  · obtain ⟨ab, ao, asp⟩ := a
    injection h1 with h1
    have hm' : m = cap := by simpa using hm
    have hz : ∀ i, i < len → ∃ z : Int, W.cell? (Addr.add ⟨ab, ao, asp⟩ i) = some (.int .i64 z) := fun i hi => by
      obtain ⟨h2, h3⟩ := hx i (by omega)
      obtain ⟨z, hz, _, _⟩ := DataW.trod_int Tryz.underlying3 h3
      injection hz with hz
      exact ⟨z, by rw [h2, hz]⟩
    let xs : List Int := (List.range len).map fun i => if h : i < len then Classical.choose (hz i h) else 0
    have hxl : xs.length = len := by simp [xs]
    refine ⟨xs, some ⟨ab, ao, asp⟩, cap, by rw [hxl]; exact h1, ⟨_, cap, rfl, fun hne => ?_⟩, by omega⟩
    have hpos : 0 < len := by
      rcases Nat.eq_zero_or_pos len with h | h
      · exact absurd (List.eq_nil_of_length_eq_zero (hxl.trans h)) hne
      · exact h
    obtain ⟨z0, h0⟩ := hz 0 hpos
    have ha0 : Addr.add ⟨ab, ao, asp⟩ 0 = ⟨ab, ao, asp⟩ := by simp [Addr.add]
    rw [ha0] at h0
    obtain ⟨rfl, c, T, fz, hmem⟩ := block_at h0
    refine ⟨ab, ao, c, T, fz, rfl, hmem, fun i hi => ?_⟩
    have hi' : i < len := by omega
    have h2 := (congrArg W.cell? (add_none ab ao i).symm).trans (Classical.choose_spec (hz i hi'))
    have h3 := cell_in hmem h2
    rw [Nat.mul_one, h3]
    simp [xs, hi']
set_option maxRecDepth 100000 in
theorem open_call {cs : List Value} (h : DataW.trod enc Tryz.prog W 0 (fun _ => true) held fuel 34 cs = some x) : ∃ (z id nn : Int) (sx : ByteArray) (xs : List Int) (xp : Option Addr) (xcap : Nat), cs = [.int .i64 z, .int .i64 id, .int .i64 nn, .string sx, .slice xp xs.length xcap] ∧ XsIn xs (.slice xp xs.length xcap) (allB W) ∧ xs.length ≤ xcap := by
  obtain ⟨ys, n, _, _, hl, hyl, hf⟩ := DataW.trod_struct Tryz.underlying34 h
  rw [cells34] at hl
  match cs, hl with
  | [c0, c1, c2, c3, c4], _ =>
    have hy : ys.length = 5 := hyl
    match ys, hy with
    | [y0, y1, y2, y3, y4], _ =>
      have f0 := hf 0 _ rfl
      have f1 := hf 1 _ rfl
      have f2 := hf 2 _ rfl
      have f3 := hf 3 _ rfl
      have f4 := hf 4 _ rfl
      simp only [cells3, cells9, cells32, List.drop, List.take, List.getElem?_cons_zero, List.getElem?_cons_succ] at f0 f1 f2 f3 f4
      obtain ⟨z, hz, _, _⟩ := DataW.trod_int Tryz.underlying3 f0
      obtain ⟨id, hid, _, _⟩ := DataW.trod_int Tryz.underlying3 f1
      obtain ⟨nn, hnn, _, _⟩ := DataW.trod_int Tryz.underlying3 f2
      obtain ⟨sx, hsx, _, _⟩ := DataW.trod_string Tryz.underlying9 f3
      obtain ⟨xs, xp, xcap, hv, hxi, hxc⟩ := open_xs f4
      injection hz with hz
      injection hid with hid
      injection hnn with hnn
      injection hsx with hsx
      exact ⟨z, id, nn, sx, xs, xp, xcap, by rw [hz, hid, hnn, hsx, hv], hxi, hxc⟩
theorem open_calls {v : Value} (h : DataW.trod enc Tryz.prog W 0 (fun _ => true) held fuel 22 [v] = some x) : CallsArg v (allB W) := by
  rcases Go.Deep.open_slice Tryz.underlying22 h with ⟨h1, _⟩ | ⟨a, len, cap, m, n, D, Pl, h1, _, hl, _, hm, _, hx⟩
  · injection h1 with h1
    exact ⟨none, 0, 0, h1, fun h => absurd rfl h⟩
  · obtain ⟨ab, ao, asp⟩ := a
    injection h1 with h1
    have hm' : m = cap := by simpa using hm
    rw [cells34] at hx
    refine ⟨some ⟨ab, ao, asp⟩, len, cap, h1, fun hne => ?_⟩
    have hget : ∀ i, i < len → ∃ cs', (∀ j, j < 5 → W.cell? ((Addr.add ⟨ab, ao, asp⟩ (i * 5)).add j) = cs'[j]?) ∧ ∃ (z id nn : Int) (sx : ByteArray) (xs : List Int) (xp : Option Addr) (xcap : Nat), cs' = [.int .i64 z, .int .i64 id, .int .i64 nn, .string sx, .slice xp xs.length xcap] ∧ XsIn xs (.slice xp xs.length xcap) (allB W) ∧ xs.length ≤ xcap := fun i hi => by
      obtain ⟨cs', h2, h3⟩ := hx i (by omega)
      obtain ⟨_, hlen, hcell⟩ := World.cells?_some h2
      exact ⟨cs', fun j hj => hcell j hj, open_call h3⟩
    obtain ⟨cs0, h20, z0, _, _, _, _, _, _, hcs0, _⟩ := hget 0 (by omega)
    have h0 := h20 0 (by omega)
    rw [hcs0] at h0
    have ha0 : (Addr.add ⟨ab, ao, asp⟩ (0 * 5)).add 0 = ⟨ab, ao, asp⟩ := by simp [Addr.add]
    rw [ha0] at h0
    obtain ⟨rfl, c, T, fz, hmem⟩ := block_at h0
    refine ⟨ab, ao, c, T, fz, rfl, hmem, fun i hi => ?_⟩
    obtain ⟨cs', h2, z, id, nn, sx, xs, xp, xcap, hcs, hxi, hxc⟩ := hget i hi
    refine ⟨z, id, nn, sx, xs, xp, xcap, fun j hj => ?_, hxi, hxc⟩
    have h3 := h2 j hj
    rw [add_none, add_none, hcs] at h3
    have hj5 : j < ([.int .i64 z, .int .i64 id, .int .i64 nn, .string sx, .slice xp xs.length xcap] : List Value).length := hj
    rw [List.getElem?_eq_getElem hj5] at h3 ⊢
    exact cell_in hmem h3
end
set_option maxRecDepth 100000 in
/-- the law's argument -/
theorem open_ask {H : Type} {enc : TypeId × Value → H} {W : World} {b : Nat} {v0 : Value} {d0 : DataW H} {p0 : List MemPlace} (hv0 : Value.okWide Tryz.prog W .any b 24 v0) (h0 : DataW.Trod enc Tryz.prog W 0 (fun _ => true) true 24 v0 d0 p0) : ∃ cv nx, v0 = .agg #[cv, .int .i64 nx] ∧ CallsArg cv (allB W) := by
  obtain ⟨cl, rfl, hlen, _⟩ := @struct_cells Tryz.prog W .any b 24 v0 _ [22, 3] Tryz.underlying24 types24 cells24 hv0
  match cl, hlen with
  | [c0, c1], _ =>
    obtain ⟨fuel, hf⟩ := h0
    obtain ⟨ys, n, _, _, hl, hyl, hx⟩ := DataW.trod_struct Tryz.underlying24 hf
    have hy : ys.length = 2 := hyl
    match ys, hy with
    | [y0, y1], _ =>
      have f0 := hx 0 _ rfl
      have f1 := hx 1 _ rfl
      simp only [cells3, cells22, Value.cells, List.drop, List.take, List.getElem?_cons_zero, List.getElem?_cons_succ] at f0 f1
      obtain ⟨z, hz, _, _⟩ := DataW.trod_int Tryz.underlying3 f1
      injection hz with hz
      exact ⟨c0, z, by rw [hz], open_calls f0⟩
end Go.Proofs.YtfkpjnomfmjplaaGreat
