/- Txn: the script's calls. Txn: New, begun; a snapshot that is there; sanity. Txn: the argument, opened: a struct of a slice of calls and an int. -/
import Derived.Test.YtfkpjnomfmjplaaGreatQD
import Derived.Test.YtfkpjnomfmjplaaGreatQS
import Derived.Test.YtfkpjnomfmjplaaGreatFin
set_option linter.unusedVariables false
set_option linter.unusedSimpArgs false
set_option linter.unnecessarySimpa false
namespace Go.Sym
open Go
section
variable {P : Program} {E : Env} {f : Nat → Value} {L : List Blk} {ty : TypeId} {pos : String} {after : Array Edge} {d : Nat} {x y : Operand} {t et yt src dst e : TypeId} {ag : Bool} {s len cap k : Nat} {p : Option Addr} {b : Nat} {k' : IntKind} {i j c : Int}
theorem ex_andNot (hx : Ev f x (.int k' i)) (hy : Ev f y (.int k' j)) (hc : bitsZ .andNot k' i j = c) : Ex P E f L ⟨some d, .binOp .andNot t x y yt, ty, pos, after, none⟩ (.int k' c) := .mk fun w _ => by subst hc; simp [execOp, hx.eq, hy.eq, eqGuard, binOp, Op.intBits, bitsZ]
theorem ex_sliceTo2 (hx : Ev f x (.slice p len cap)) (hy : Ev f y (.int .i64 (k : Int))) (ht : Und P t (.slice et)) (hT : tyOf P et = some (ag, s)) (hk : k ≤ cap) :
    Ex P E f L ⟨some d, .slice t x none (some y) none, ty, pos, after, none⟩ (.slice p k cap) := .mk fun w hw => by
  have h1 := run_sizeT (P := P) (w := w) hT
  have h2 : (0 : Int) ≤ (k : Int) ∧ (k : Int) ≤ (cap : Int) := by omega
  simp only [execOp, Option.map_none, Option.map_some, hx.eq, hy.eq]
  cases p <;> simp [Instr.sliceAt, Instr.slice, Instr.sliceBounds, Instr.sliceBound, asIntOf, run_underlying ht.eq, h1, hk, Addr.add]
theorem ex_sliceStr {a : ByteArray} (hx : Ev f x (.string a)) (hy : Ev f y (.int .i64 (k : Int))) (ht : Und P t .string) (hk : k ≤ a.size) :
    Ex P E f L ⟨some d, .slice t x none (some y) none, ty, pos, after, none⟩ (.string (a.extract 0 k)) := .mk fun w hw => by
  simp only [execOp, Option.map_none, Option.map_some, hx.eq, hy.eq]
  simp [Instr.sliceAt, Instr.slice, Instr.sliceBounds, Instr.sliceBound, asIntOf, run_underlying ht.eq, hk]
theorem ex_lenStr {a : ByteArray} (hx : Ev f x (.string a)) (ht : Und P t .string) : Ex P E f L ⟨some d, .call ⟨.builtin .len, #[x], #[t]⟩, ty, pos, after, none⟩ (.int .i64 a.size) := .mk fun w hw => by
  simp [execOp, resolve, hx.eq, invoke, builtin, Builtin.len_, run_underlying ht.eq, goInt]
theorem ex_byteStr {T : TypeId} {fz : Nat × Nat} {z : Int} (hx : Ev f x (.slice (some ⟨b, 0, none⟩) 1 1)) (hm : (b, .cells [Value.int .u8 z].toArray T fz) ∈ L) (hs : Und P src (.slice e)) (he : Und P e (.int .u8)) (hd : Und P dst .string) :
    Ex P E f L ⟨some d, .convert src dst x, ty, pos, after, none⟩ (.string (ByteArray.empty.push (UInt8.ofNat z.toNat))) := .mk fun w hw => by
  have hb := hw.get hm
  have hload : (loadCells ⟨b, 0, none⟩ 1).run P w = .ok ([z].map (Value.int .u8)).toArray w := by
    refine run_loadCells_list w ⟨b, 0, none⟩ [Value.int .u8 z] fun j v hj => ?_
    rw [add_none, cell_of hb, Nat.zero_add]; exact hj
  have := run_bytesToString w ⟨b, 0, none⟩ 1 1 [z] hload
  simp only [execOp, hx.eq]
  rw [Sem.run_bind]
  have hc : (convert src dst (.slice (some ⟨b, 0, none⟩) 1 1)).run P w = .ok (.string (ByteArray.empty.push (UInt8.ofNat z.toNat))) w := by
    simp only [convert, Sem.run_bind, run_underlying hs.eq, run_underlying hd.eq, Result.andThen_ok, run_underlying he.eq, this]
    simp
  rw [hc]; rfl
end
end Go.Sym
namespace Go.Proofs.YtfkpjnomfmjplaaGreat
open Go.Sym
theorem name_tri (n : Int) : Tri Tryz.prog 35 #[.int .i64 n] [] fun v L => (∃ s, v = .string s) ∧ L = [] := by
  have f_mixed := mixed; have f_by5 := by5; have f_ty114 := ty114; have f_ty5 := ty5; have f_un_114 : Und Tryz.prog 114 _ := ⟨Tryz.underlying114⟩; have f_un_3 : Und Tryz.prog 3 _ := ⟨Tryz.underlying3⟩; have f_un_5 : Und Tryz.prog 5 _ := ⟨Tryz.underlying5⟩; have f_un_9 : Und Tryz.prog 9 _ := ⟨Tryz.underlying9⟩; have f_zero5 := zero5; have f_zv5 := zv5
  have h2 := Int.tmod_lt_of_pos n (b := 5) (by omega)
  have h3 := tmod_lo n 5 (by omega)
  refine tri_intro (args := [_]) Tryz.func35 rfl Tryz.ntmps35 rfl (rs := _) rfl rfl fun E R => ?_
  simp only [fr, List.cons_append, List.nil_append]
  (refine sr_ ?_; (refine ac_ ?_); refine sn_ ?_; refine sr_ ?_; (refine mv_ ?_); (apply so_ex; (apply ex_rem; (exact ev_); ((exact Ev.const)); (first | assumption | decide | omega); (first | assumption | exact rfl)); exact rfl); (refine se_ (ex_add ev_ .const wr_) ?_); (apply so_ex; (apply ex_rem; (exact ev_); ((exact Ev.const)); (first | assumption | decide | omega); (first | assumption | exact rfl)); exact rfl); (refine se_ (ex_add .const ev_ wr_) ?_); (apply so_ex; (apply ex_convert; (exact ev_); assumption; assumption; (first | assumption | exact rfl)); exact rfl); (apply so_buildS; (focus ((apply EvP.cons; (exact ev_)); exact EvP.nil)); assumption; assumption; assumption; (focus (repeat (first | exact SeqP.nil | (apply SeqP.cons; exact rfl; exact rfl) | exact App.nil | apply App.cons))); exact rfl; exact rfl; exact rfl; intro _); (refine se_ (ex_byteStr ev_ mem_ asm_ asm_ asm_) ?_); (refine asg_ ?_); refine sn_ ?_; (apply sc_ret); (apply ret_ok; (focus ((apply Res.tmp; (exact ev_)); exact Res.nil)); (exact ⟨⟨_, rfl⟩, rfl⟩); (exact sel_); (exact appb_)))
/-- a call of the script -/
structure CV where
  z : Int
  id : Int
  n : Int
  s : ByteArray
  xs : List Int
  xp : Option Addr
  xcap : Nat
def CV.cells (c : CV) : List Value := [.int .i64 c.z, .int .i64 c.id, .int .i64 c.n, .string c.s, .slice c.xp c.xs.length c.xcap]
structure CV.Ok (P0 : List Blk) (c : CV) : Prop where
  xi : XsIn c.xs (.slice c.xp c.xs.length c.xcap) P0
  l4 : c.xs.length ≤ 4
def ccells (l : List CV) : List Value := l.flatMap CV.cells
theorem ccells_len (l : List CV) : (ccells l).length = l.length * 5 := by
  induction l with
  | nil => rfl
  | cons p l ih => unfold ccells at *; rw [List.flatMap_cons, List.length_append, ih, List.length_cons]; show 5 + _ = _; omega
/-- the argument: a slice of calls that lies among the blocks P0 -/
def CallsArg (cv : Value) (P0 : List Blk) : Prop := ∃ p n cap, cv = .slice p n cap ∧ (n ≠ 0 → ∃ b o c T fz, p = some ⟨b, o, none⟩ ∧ (b, Obj.cells (List.toArray c) T fz) ∈ P0 ∧
  ∀ i, i < n → ∃ (z id nn : Int) (sx : ByteArray) (xs : List Int) (xp : Option Addr) (xcap : Nat), (∀ j, j < 5 → c[o + i * 5 + j]? = ([Value.int .i64 z, .int .i64 id, .int .i64 nn, .string sx, .slice xp xs.length xcap] : List Value)[j]?) ∧ XsIn xs (.slice xp xs.length xcap) P0 ∧ xs.length ≤ xcap)
theorem XsIn.take {xs : List Int} {xp : Option Addr} {cap : Nat} {P0 : List Blk} (h : XsIn xs (.slice xp xs.length cap) P0) (k : Nat) : XsIn (xs.take k) (.slice xp (xs.take k).length cap) P0 := by
  obtain ⟨p, c, he, hx⟩ := h
  injection he with h1 h2 h3
  subst h1
  refine ⟨_, _, rfl, fun hne => ?_⟩
  obtain ⟨b, o, cc, T, fz, rfl, hm, hg⟩ := hx (fun h => hne (by rw [h]; simp))
  refine ⟨b, o, cc, T, fz, rfl, hm, fun i hi => ?_⟩
  rw [List.length_take] at hi
  rw [hg i (by omega), List.getElem_take]
set_option maxHeartbeats 8000000 in
theorem calls_tri {cv : Value} {P0 : List Blk} (hA : CallsArg cv P0) (nx : Int) : Tri Tryz.prog 8 #[.agg #[cv, .int .i64 nx]] P0 fun v L => ∃ (cs : List CV) (p : Option Addr) (cap : Nat) (B : List Blk), v = .slice p cs.length cap ∧ Row 34 5 (.slice p cs.length cap) (ccells cs) B ∧ cs.length ≤ 70 ∧ (∀ c ∈ cs, c.Ok P0) ∧ L = B ++ P0 := by
  have f_mixed := mixed; have f_by3 := by3; have f_by34 := by34; have f_en35 := en35; have f_en9 := en9; have f_fo24_0 := fo24_0; have f_fo34_0 := fo34_0; have f_fo34_1 := fo34_1; have f_fo34_2 := fo34_2; have f_fo34_3 := fo34_3; have f_fo34_4 := fo34_4; have f_ty22 := ty22; have f_ty24 := ty24; have f_ty3 := ty3; have f_ty32 := ty32; have f_ty34 := ty34; have f_ty9 := ty9; have f_un_22 : Und Tryz.prog 22 _ := ⟨Tryz.underlying22⟩; have f_un_32 : Und Tryz.prog 32 _ := ⟨Tryz.underlying32⟩; have f_un_9 : Und Tryz.prog 9 _ := ⟨Tryz.underlying9⟩; have f_zero3 := zero3; have f_zero34 := zero34; have f_zv3 := zv3; have f_zv34 := zv34
  have c20 : ∀ z, TriQ Tryz.prog 9 #[.int .i64 z, .int .i64 20] [] (.int .i64 (z % 20)) := fun z => rest_tri z 20 (by omega) (by omega)
  have c16 : ∀ z, TriQ Tryz.prog 9 #[.int .i64 z, .int .i64 16] [] (.int .i64 (z % 16)) := fun z => rest_tri z 16 (by omega) (by omega)
  have c5 : ∀ z, TriQ Tryz.prog 9 #[.int .i64 z, .int .i64 5] [] (.int .i64 (z % 5)) := fun z => rest_tri z 5 (by omega) (by omega)
  obtain ⟨ap, an, acap, rfl, hA⟩ := hA
  refine tri_intro (args := [_]) Tryz.func8 rfl Tryz.ntmps8 rfl (rs := _) rfl rfl fun E R => ?_
  simp only [fr, List.cons_append, List.nil_append]
  (refine sr_ ?_; (apply so_box; (exact ev_); exact rfl; exact rfl; intro _); (refine ac_ ?_); refine sn_ ?_; refine sr_ ?_; (refine ac_ ?_); refine sn_ ?_; (apply sc_seq); refine sr_ ?_; (refine ac_ ?_); refine sn_ ?_; (apply sc_block))
  rename_i b1
  refine sc_loop (fun k f L => ∃ (cs : List CV) (p : Option Addr) (cap : Nat) (B : List Blk), k = 70 - cs.length ∧ cs.length ≤ 70 ∧ cs.length ≤ an ∧ (∀ c ∈ cs, c.Ok P0) ∧ Row 34 5 (.slice p cs.length cap) (ccells cs) B ∧ At f 1 (tP b1) ∧ At f 3 (.slice p cs.length cap) ∧ At f 4 (.int .i64 (cs.length : Int)) ∧ Held L (B ++ ((b1, .cells [.slice ap an acap, .int .i64 nx].toArray 24) :: P0)) R)
    _ ⟨[], none, 0, [], rfl, by simp, by simp, by simp, .nil, at_, at_, at_, by simp only [List.nil_append]; exact held_⟩ ?_
  rintro k f L ⟨cs, p, cap, B, hk, hl70, hlan, hok, hrow, a1, a3, a4, ⟨G, hG⟩⟩
  refine sc_perm hG ?_
  clear hG
  simp only [List.append_assoc, List.cons_append, List.nil_append]
  by_cases hlt : cs.length < an
  · have hlt' : (cs.length : Int) < (an : Int) := by omega
    by_cases h70 : cs.length < 70
    · have h70' : (cs.length : Int) < 70 := by omega
      obtain ⟨cb, co, cc, cT, cfz, rfl, hcm, hcg⟩ := hA (by omega)
      obtain ⟨z, id, nn, sx, xs, xp, xcap, hc5, hxi, hxc⟩ := hcg _ hlt
      have f_mn : (if (4 : Int) < ((xs.length : Nat) : Int) then 4 else ((xs.length : Nat) : Int)) = (((xs.take 4).length : Nat) : Int) := by rw [List.length_take]; split <;> omega
      have hx4 : (xs.take 4).length ≤ xcap := by rw [List.length_take]; omega
      obtain ⟨sk, hsk⟩ : ∃ sk : Nat, sk = min sx.size 8 := ⟨_, rfl⟩
      have f_ms : (if (8 : Int) < ((sx.size : Nat) : Int) then 8 else ((sx.size : Nat) : Int)) = (sk : Int) := by split <;> omega
      have hsk2 : sk ≤ sx.size := by omega
      have hxt := hxi.take 4
      have hx44 : (xs.take 4).length ≤ 4 := by rw [List.length_take]; omega
      generalize xs.take 4 = xs' at f_mn hx4 hxt hx44
      ((apply sc_seq); (apply sc_seq); ((fail_if_success (apply sc_region (id := 8))); apply sc_region); (refine mv_ ?_); (refine se_ (ex_fieldAddr ev_ asm_) ?_); (refine se_ (ex_load1 ev_ asm_ mem_ nth_) ?_); (refine se_ (ex_len_slice ev_ asm_) ?_); (refine se_ (ex_lss_t ev_ ev_ om_) ?_); (refine mv_ ?_); (refine wt_ ?_); (refine mv_ ?_); (refine wt_ ?_); (refine se_ (ex_lss_t ev_ .const om_) ?_); (refine se_ (ex_pick_t ev_ ev_) ?_); refine sn_ ?_; (refine ct_ ?_); (apply sc_skip); (apply nm_then); (apply sc_seq); (apply sc_block); (apply sc_seq); ((fail_if_success (apply sc_region (id := 8))); apply sc_region); (refine se_ (ex_fieldAddr ev_ asm_) ?_); (refine se_ (ex_load1 ev_ asm_ mem_ nth_) ?_); (refine mv_ ?_); (refine se_ (ex_indexAddr ev_ ev_ asm_ asm_ lit_ lt_) ?_); (apply so_ex; (apply ex_loadNr (r := [Value.int .i64 z, .int .i64 id, .int .i64 nn, .string sx, .slice xp xs.length xcap]); (exact ev_); assumption; (exact mem_); exact rfl; exact hc5); exact rfl); (apply so_alloc; assumption; exact rfl; intro _); (apply so_store; (exact ev_); (exact ev_); assumption; exact rfl; exact rfl; exact rfl; (focus (repeat (first | exact Turn.here | apply Turn.there | apply Turn.pre))); (focus (repeat (first | exact SetSub.nil | apply SetSub.take | apply SetSub.drop)))); refine sn_ ?_; (apply sc_seq); ((fail_if_success (apply sc_region (id := 8))); apply sc_region); (refine se_ (ex_fieldAddr ev_ asm_) ?_); (refine se_ (ex_load1 ev_ asm_ mem_ nth_) ?_); (refine se_ (ex_fieldAddr ev_ asm_) ?_); (refine se_ (ex_load1 ev_ asm_ mem_ nth_) ?_); (refine se_ (ex_len_slice ev_ asm_) ?_); (apply so_ex; (apply ex_min; (exact ev_); ((exact Ev.const)); (first | assumption | exact rfl)); exact rfl); (apply so_ex; (apply ex_sliceTo2; (exact ev_); (exact ev_); assumption; assumption; exact hx4); exact rfl); (refine se_ (ex_fieldAddr ev_ asm_) ?_); (apply so_store; (exact ev_); (exact ev_); assumption; exact rfl; exact rfl; exact rfl; (focus (repeat (first | exact Turn.here | apply Turn.there | apply Turn.pre))); (focus (repeat (first | exact SetSub.nil | apply SetSub.take | apply SetSub.drop)))); refine sn_ ?_; (apply sc_seq); ((fail_if_success (apply sc_region (id := 8))); apply sc_region); (refine se_ (ex_fieldAddr ev_ asm_) ?_); (refine se_ (ex_load1 ev_ asm_ mem_ nth_) ?_); (refine se_ (ex_fieldAddr ev_ asm_) ?_); (refine se_ (ex_load1 ev_ asm_ mem_ nth_) ?_); (refine se_ (ex_lenStr ev_ asm_) ?_); (apply so_ex; (apply ex_min; (exact ev_); ((exact Ev.const)); (first | assumption | exact rfl)); exact rfl); (apply so_ex; (apply ex_sliceStr; (exact ev_); (exact ev_); assumption; exact hsk2); exact rfl); (refine se_ (ex_fieldAddr ev_ asm_) ?_); (apply so_store; (exact ev_); (exact ev_); assumption; exact rfl; exact rfl; exact rfl; (focus (repeat (first | exact Turn.here | apply Turn.there | apply Turn.pre))); (focus (repeat (first | exact SetSub.nil | apply SetSub.take | apply SetSub.drop)))); refine sn_ ?_; (apply sc_seq); (apply sc_seq))
      rename_i b5
      generalize sx.extract 0 sk = sx'
      have hcl := ccells_len cs
      have hbb : (cs.length + 1) * 64 ≤ 140737488355328 := by omega
      have hbb2 : cs.length + 1 ≤ 9223372036854775807 := by omega
      by_cases h6 : ((cs.length : Nat) : Int).tmod 7 ≠ 6
      · apply sc_region
        ((refine mv_ ?_); (apply so_ex; (apply ex_rem; (exact ev_); ((exact Ev.const)); (first | assumption | decide | omega); (first | assumption | exact rfl)); exact rfl); (refine se_ (ex_neq_t ev_ .const om_) ?_); (apply so_nil); (apply nm_then))
        refine SC.mono (Q := fun u f L => u = .normal ∧ ∃ (z' id' n' : Int) (s' : ByteArray), At f 1 (tP b1) ∧ At f 3 (.slice p cs.length cap) ∧ At f 4 (.int .i64 (cs.length : Int)) ∧ At f 5 (tP b5) ∧ Held L ((b5, .cells [Value.int .i64 z', .int .i64 id', .int .i64 n', .string s', .slice xp xs'.length xcap].toArray 34) :: (B ++ ((b1, .cells [.slice (some ⟨cb, co, none⟩) an acap, .int .i64 nx].toArray 24) :: P0))) R) ?_ ?_
        · ((refine ct_ ?_); refine sr_ ?_; (refine se_ (ex_fieldAddr ev_ asm_) ?_); (refine se_ (ex_load1 ev_ asm_ mem_ nth_) ?_); (apply so_callq; (exact Ev.func); (focus ((apply EvL.cons; (exact ev_)); (apply EvL.cons; (exact Ev.const)); exact EvL.nil)); (focus (repeat (first | exact App.nil | apply App.cons))); assumption; exact c20 _; (exact sel_); exact rfl); (refine se_ (ex_add .const ev_ wr_) ?_); (refine se_ (ex_fieldAddr ev_ asm_) ?_); (apply so_store; (exact ev_); (exact ev_); assumption; exact rfl; exact rfl; exact rfl; (focus (repeat (first | exact Turn.here | apply Turn.there | apply Turn.pre))); (focus (repeat (first | exact SetSub.nil | apply SetSub.take | apply SetSub.drop)))); refine sn_ ?_; refine sr_ ?_; (refine se_ (ex_fieldAddr ev_ asm_) ?_); (refine se_ (ex_load1 ev_ asm_ mem_ nth_) ?_); (apply so_callq; (exact Ev.func); (focus ((apply EvL.cons; (exact ev_)); (apply EvL.cons; (exact Ev.const)); exact EvL.nil)); (focus (repeat (first | exact App.nil | apply App.cons))); assumption; exact c16 _; (exact sel_); exact rfl); (refine se_ (ex_fieldAddr ev_ asm_) ?_); (apply so_store; (exact ev_); (exact ev_); assumption; exact rfl; exact rfl; exact rfl; (focus (repeat (first | exact Turn.here | apply Turn.there | apply Turn.pre))); (focus (repeat (first | exact SetSub.nil | apply SetSub.take | apply SetSub.drop)))); refine sn_ ?_; refine sr_ ?_; (refine se_ (ex_fieldAddr ev_ asm_) ?_); (refine se_ (ex_load1 ev_ asm_ mem_ nth_) ?_); (refine se_ (ex_fieldAddr ev_ asm_) ?_); (refine se_ (ex_load1 ev_ asm_ mem_ nth_) ?_); (refine se_ (ex_lenStr ev_ asm_) ?_); (refine se_ (ex_add ev_ ev_ wr_) ?_); (apply so_callq; (exact Ev.func); (focus ((apply EvL.cons; (exact ev_)); (apply EvL.cons; (exact Ev.const)); exact EvL.nil)); (focus (repeat (first | exact App.nil | apply App.cons))); assumption; exact c5 _; (exact sel_); exact rfl); (apply so_call; (exact Ev.func); (focus ((apply EvL.cons; (exact ev_)); exact EvL.nil)); (focus (repeat (first | exact App.nil | apply App.cons))); assumption; exact name_tri _; (exact sel_); exact rfl; rintro _ _ ⟨⟨_, rfl⟩, rfl⟩; simp only [List.append_assoc, List.cons_append, List.nil_append]); (refine se_ (ex_fieldAddr ev_ asm_) ?_); (apply so_store; (exact ev_); (exact ev_); assumption; exact rfl; exact rfl; exact rfl; (focus (repeat (first | exact Turn.here | apply Turn.there | apply Turn.pre))); (focus (repeat (first | exact SetSub.nil | apply SetSub.take | apply SetSub.drop)))); refine sn_ ?_; (apply sc_seq); refine sr_ ?_; (refine se_ (ex_fieldAddr ev_ asm_) ?_); (refine se_ (ex_load1 ev_ asm_ mem_ nth_) ?_); (apply so_callq; (exact Ev.func); (focus ((apply EvL.cons; (exact ev_)); (apply EvL.cons; (exact Ev.const)); exact EvL.nil)); (focus (repeat (first | exact App.nil | apply App.cons))); assumption; exact c16 _; (exact sel_); exact rfl); (apply so_split; (apply ex_lss; (exact ev_); ((exact Ev.const))); exact rfl; refine ⟨fun _ => ?_, fun _ => ?_⟩); (refine mv_ ?_); (refine wt_ ?_); (refine se_ (ex_fieldAddr ev_ asm_) ?_); (refine wt_ ?_); (refine se_ (ex_load1 ev_ asm_ mem_ nth_) ?_); (refine wt_ ?_); (apply so_ex; (apply ex_and; (exact ev_); ((exact Ev.const)); (first | assumption | exact rfl)); exact rfl); (refine wt_ ?_); (apply so_split; (apply ex_eql; (exact ev_); ((exact Ev.const))); exact rfl; refine ⟨fun _ => ?_, fun _ => ?_⟩); (refine se_ (ex_pick_t ev_ ev_) ?_); refine sn_ ?_; (refine ct_ ?_); (apply sc_region); (refine se_ (ex_fieldAddr ev_ asm_) ?_); (refine se_ (ex_load1 ev_ asm_ mem_ nth_) ?_); (refine se_ (ex_sub ev_ .const wr_) ?_); (refine se_ (ex_fieldAddr ev_ asm_) ?_); (apply so_store; (exact ev_); (exact ev_); assumption; exact rfl; exact rfl; exact rfl; (focus (repeat (first | exact Turn.here | apply Turn.there | apply Turn.pre))); (focus (repeat (first | exact SetSub.nil | apply SetSub.take | apply SetSub.drop)))); refine sn_ ?_; refine sr_ ?_; (refine se_ (ex_fieldAddr ev_ asm_) ?_); (refine se_ (ex_load1 ev_ asm_ mem_ nth_) ?_); (apply so_callq; (exact Ev.func); (focus ((apply EvL.cons; (exact ev_)); (apply EvL.cons; (exact Ev.const)); exact EvL.nil)); (focus (repeat (first | exact App.nil | apply App.cons))); assumption; exact c16 _; (exact sel_); exact rfl); (refine se_ (ex_lss_t ev_ .const om_) ?_); refine sn_ ?_; (refine ct_ ?_); (apply sc_region); (refine se_ (ex_fieldAddr ev_ asm_) ?_); (refine se_ (ex_load1 ev_ asm_ mem_ nth_) ?_); (apply so_ex; (apply ex_andNot; (exact ev_); (exact Ev.const); exact rfl); exact rfl); (refine se_ (ex_fieldAddr ev_ asm_) ?_); (apply so_store; (exact ev_); (exact ev_); assumption; exact rfl; exact rfl; exact rfl; (focus (repeat (first | exact Turn.here | apply Turn.there | apply Turn.pre))); (focus (repeat (first | exact SetSub.nil | apply SetSub.take | apply SetSub.drop)))); (apply so_nil); (apply And.intro rfl; exact ⟨_, _, _, _, at_, at_, at_, at_, held_⟩); (refine se_ (ex_pick_t ev_ ev_) ?_); refine sn_ ?_; (refine cf_ ?_); (apply sc_skip); (apply nm_then); refine sr_ ?_; (refine se_ (ex_fieldAddr ev_ asm_) ?_); (refine se_ (ex_load1 ev_ asm_ mem_ nth_) ?_); (apply so_callq; (exact Ev.func); (focus ((apply EvL.cons; (exact ev_)); (apply EvL.cons; (exact Ev.const)); exact EvL.nil)); (focus (repeat (first | exact App.nil | apply App.cons))); assumption; exact c16 _; (exact sel_); exact rfl); (refine se_ (ex_lss_t ev_ .const om_) ?_); refine sn_ ?_; (refine ct_ ?_); (apply sc_region); (refine se_ (ex_fieldAddr ev_ asm_) ?_); (refine se_ (ex_load1 ev_ asm_ mem_ nth_) ?_); (apply so_ex; (apply ex_andNot; (exact ev_); (exact Ev.const); exact rfl); exact rfl); (refine se_ (ex_fieldAddr ev_ asm_) ?_); (apply so_store; (exact ev_); (exact ev_); assumption; exact rfl; exact rfl; exact rfl; (focus (repeat (first | exact Turn.here | apply Turn.there | apply Turn.pre))); (focus (repeat (first | exact SetSub.nil | apply SetSub.take | apply SetSub.drop)))); (apply so_nil); (apply And.intro rfl; exact ⟨_, _, _, _, at_, at_, at_, at_, held_⟩); (refine mv_ ?_); (refine sk_ ?_); (refine sk_ ?_); (refine sk_ ?_); (refine sk_ ?_); (refine se_ (ex_pick_f ev_ .const) ?_); refine sn_ ?_; (refine cf_ ?_); (apply sc_skip); (apply nm_then); refine sr_ ?_; (refine se_ (ex_fieldAddr ev_ asm_) ?_); (refine se_ (ex_load1 ev_ asm_ mem_ nth_) ?_); (apply so_callq; (exact Ev.func); (focus ((apply EvL.cons; (exact ev_)); (apply EvL.cons; (exact Ev.const)); exact EvL.nil)); (focus (repeat (first | exact App.nil | apply App.cons))); assumption; exact c16 _; (exact sel_); exact rfl); (refine se_ (ex_lss_f ev_ .const om_) ?_); refine sn_ ?_; (refine cf_ ?_); (apply sc_skip); (apply And.intro rfl; exact ⟨_, _, _, _, at_, at_, at_, at_, held_⟩))
        rintro u f L ⟨rfl, z', id', n', s', a1, a3, a4, a5, ⟨G2, hG2⟩⟩
        refine nm_then (sc_perm hG2 ?_)
        clear hG2
        simp only [List.append_assoc, List.cons_append, List.nil_append]
        ((apply sc_region); (refine mv_ ?_); (refine se_ (ex_loadN ev_ asm_ mem_ sub_) ?_); (apply so_buildS; (focus ((apply EvP.cons; (exact ev_)); exact EvP.nil)); assumption; assumption; assumption; (focus (repeat (first | exact SeqP.nil | (apply SeqP.cons; exact rfl; exact rfl) | exact App.nil | apply App.cons))); exact rfl; exact rfl; exact rfl; intro _); (apply so_appR (et := 34) (s := 5) (ys := [Value.int .i64 z', .int .i64 id', .int .i64 n', .string s', .slice xp xs'.length xcap]); (exact ev_); (exact ev_); exact hrow; (exact sel_); (exact mem_); exact rfl; exact (fun j hj => by rw [Nat.zero_add]); assumption; assumption; assumption; exact rfl; assumption; exact hbb; exact hbb2; exact rfl; exact rfl; exact rfl; intro p2 cap2 H2 hr2); (refine asg_ ?_); (apply so_nil); (apply nm_block); (apply nm_then); (apply sc_region); (refine mv_ ?_); (refine se_ (ex_add ev_ .const wr_) ?_); (refine asg_ ?_); (apply so_nil); (apply nm_then))
        have e2 : ccells cs ++ [Value.int .i64 z', .int .i64 id', .int .i64 n', .string s', .slice xp xs'.length xcap] = ccells (cs ++ [⟨z', id', n', s', xs', xp, xcap⟩]) := by unfold ccells; rw [List.flatMap_append]; rfl
        rw [e2] at hr2
        have e3 : cs.length + 1 = (cs ++ [(⟨z', id', n', s', xs', xp, xcap⟩ : CV)]).length := by simp
        have e4 : (((cs ++ [(⟨z', id', n', s', xs', xp, xcap⟩ : CV)]).length : Nat) : Int) = (cs.length : Int) + 1 := by simp
        rw [e3] at hr2
        refine ⟨70 - (cs ++ [(⟨z', id', n', s', xs', xp, xcap⟩ : CV)]).length, by simp; omega, cs ++ [⟨z', id', n', s', xs', xp, xcap⟩], p2, cap2, H2, rfl, by simp; omega, by simp; omega, ?_, hr2, at_, by rw [← e3]; exact at_, by rw [e4]; exact at_, held_⟩
        intro c hc
        rcases List.mem_append.1 hc with hc | hc
        · exact hok c hc
        · rw [List.mem_singleton.1 hc]; exact ⟨hxt, hx44⟩
      · apply sc_region
        ((refine mv_ ?_); (apply so_ex; (apply ex_rem; (exact ev_); ((exact Ev.const)); (first | assumption | decide | omega); (first | assumption | exact rfl)); exact rfl); (refine se_ (ex_neq_f ev_ .const om_) ?_); (apply so_nil); (apply nm_then))
        refine SC.mono (Q := fun u f L => u = .normal ∧ ∃ (z' id' n' : Int) (s' : ByteArray), At f 1 (tP b1) ∧ At f 3 (.slice p cs.length cap) ∧ At f 4 (.int .i64 (cs.length : Int)) ∧ At f 5 (tP b5) ∧ Held L ((b5, .cells [Value.int .i64 z', .int .i64 id', .int .i64 n', .string s', .slice xp xs'.length xcap].toArray 34) :: (B ++ ((b1, .cells [.slice (some ⟨cb, co, none⟩) an acap, .int .i64 nx].toArray 24) :: P0))) R) ?_ ?_
        · ((refine cf_ ?_); (apply sc_skip); (apply And.intro rfl; exact ⟨_, _, _, _, at_, at_, at_, at_, held_⟩))
        rintro u f L ⟨rfl, z', id', n', s', a1, a3, a4, a5, ⟨G2, hG2⟩⟩
        refine nm_then (sc_perm hG2 ?_)
        clear hG2
        simp only [List.append_assoc, List.cons_append, List.nil_append]
        ((apply sc_region); (refine mv_ ?_); (refine se_ (ex_loadN ev_ asm_ mem_ sub_) ?_); (apply so_buildS; (focus ((apply EvP.cons; (exact ev_)); exact EvP.nil)); assumption; assumption; assumption; (focus (repeat (first | exact SeqP.nil | (apply SeqP.cons; exact rfl; exact rfl) | exact App.nil | apply App.cons))); exact rfl; exact rfl; exact rfl; intro _); (apply so_appR (et := 34) (s := 5) (ys := [Value.int .i64 z', .int .i64 id', .int .i64 n', .string s', .slice xp xs'.length xcap]); (exact ev_); (exact ev_); exact hrow; (exact sel_); (exact mem_); exact rfl; exact (fun j hj => by rw [Nat.zero_add]); assumption; assumption; assumption; exact rfl; assumption; exact hbb; exact hbb2; exact rfl; exact rfl; exact rfl; intro p2 cap2 H2 hr2); (refine asg_ ?_); (apply so_nil); (apply nm_block); (apply nm_then); (apply sc_region); (refine mv_ ?_); (refine se_ (ex_add ev_ .const wr_) ?_); (refine asg_ ?_); (apply so_nil); (apply nm_then))
        have e2 : ccells cs ++ [Value.int .i64 z', .int .i64 id', .int .i64 n', .string s', .slice xp xs'.length xcap] = ccells (cs ++ [⟨z', id', n', s', xs', xp, xcap⟩]) := by unfold ccells; rw [List.flatMap_append]; rfl
        rw [e2] at hr2
        have e3 : cs.length + 1 = (cs ++ [(⟨z', id', n', s', xs', xp, xcap⟩ : CV)]).length := by simp
        have e4 : (((cs ++ [(⟨z', id', n', s', xs', xp, xcap⟩ : CV)]).length : Nat) : Int) = (cs.length : Int) + 1 := by simp
        rw [e3] at hr2
        refine ⟨70 - (cs ++ [(⟨z', id', n', s', xs', xp, xcap⟩ : CV)]).length, by simp; omega, cs ++ [⟨z', id', n', s', xs', xp, xcap⟩], p2, cap2, H2, rfl, by simp; omega, by simp; omega, ?_, hr2, at_, by rw [← e3]; exact at_, by rw [e4]; exact at_, held_⟩
        intro c hc
        rcases List.mem_append.1 hc with hc | hc
        · exact hok c hc
        · rw [List.mem_singleton.1 hc]; exact ⟨hxt, hx44⟩
    · have h70' : ¬ (cs.length : Int) < 70 := by omega
      ((apply sc_seq); refine sr_ ?_; (refine mv_ ?_); (refine se_ (ex_fieldAddr ev_ asm_) ?_); (refine se_ (ex_load1 ev_ asm_ mem_ nth_) ?_); (refine se_ (ex_len_slice ev_ asm_) ?_); (refine se_ (ex_lss_t ev_ ev_ om_) ?_); (refine mv_ ?_); (refine wt_ ?_); (refine mv_ ?_); (refine wt_ ?_); (refine se_ (ex_lss_f ev_ .const om_) ?_); (refine se_ (ex_pick_t ev_ ev_) ?_); refine sn_ ?_; (refine cf_ ?_); (apply sc_exit); (apply et_then); (apply et_then); (apply et_hit); (apply nm_then); refine sr_ ?_; (refine mv_ ?_); (refine asg_ ?_); refine sn_ ?_; (apply sc_ret); (apply ret_ok; (focus ((apply Res.tmp; (exact ev_)); exact Res.nil)); (exact ⟨cs, _, _, B, rfl, hrow, hl70, hok, rfl⟩); (exact sel_); (exact appb_)))
  · have hlt' : ¬ (cs.length : Int) < (an : Int) := by omega
    ((apply sc_seq); refine sr_ ?_; (refine mv_ ?_); (refine se_ (ex_fieldAddr ev_ asm_) ?_); (refine se_ (ex_load1 ev_ asm_ mem_ nth_) ?_); (refine se_ (ex_len_slice ev_ asm_) ?_); (refine se_ (ex_lss_f ev_ ev_ om_) ?_); (refine mv_ ?_); (refine sk_ ?_); (refine sk_ ?_); (refine se_ (ex_pick_f ev_ .const) ?_); refine sn_ ?_; (refine cf_ ?_); (apply sc_exit); (apply et_then); (apply et_then); (apply et_hit); (apply nm_then); refine sr_ ?_; (refine mv_ ?_); (refine asg_ ?_); refine sn_ ?_; (apply sc_ret); (apply ret_ok; (focus ((apply Res.tmp; (exact ev_)); exact Res.nil)); (exact ⟨cs, _, _, B, rfl, hrow, hl70, hok, rfl⟩); (exact sel_); (exact appb_)))
end Go.Proofs.YtfkpjnomfmjplaaGreat
namespace Go.Sym
open Go
/-- from a proved run: the heap only grows -/
theorem tri_of_calls {P : Program} {f : FuncId} {args : Array Value} {v : Value} (h : ∀ w : World, Calls P f args w fun e w' => e = .returned v ∧ ((w'.os, w'.output) = (w.os, w.output) ∧ ∀ (i : Nat) (o : Obj), w.heap[i]? = some o → w'.heap[i]? = some o)) : TriQ P f args [] v := .mk fun E R w hh => (h w).mono fun e w' ⟨he, h1, h2⟩ => ⟨_, _, he, ⟨rfl, rfl⟩, ⟨h1.trans hh.env, fun p hp => h2 _ _ (hh.facts p hp), hh.nodup⟩⟩
end Go.Sym
namespace Go.Proofs.YtfkpjnomfmjplaaGreat
open Go.Sym
theorem sanity_tri : TriQ Tryz.prog 6 #[] [] (.bool true) := tri_of_calls fun w => (Go.Rc.chk_ok2 Go.Rc.noOrc_ok sane.run .nil w).mono fun e w' ⟨he, h1, h2⟩ => ⟨he, h1, h2⟩
theorem ck_zero : zeroOf Tryz.prog 92 = some (ck ⟨0, 0, fun _ => 0, fun _ => 0⟩) := by
  rw [zero92]; unfold ck; kernel_rfl
theorem newC_tri {n : Int} (h : onR n = true) : Tri Tryz.prog 32 #[.int .i64 n] [] fun v L => ∃ cb, v = cP cb ∧ L = [cB cb (Clk.new n)] := by
  have f_mixed := mixed; have f_en53 := en53; have f_pl92_0 := pl92_0; have f_pl92_1 := pl92_1; have f_st92 := st92; have f_ty92 := ty92; have f_zero92 := zero92
  clear f_zero92
  have c1 := on_tri n
  rw [h] at c1
  have hz := ck_zero
  have e1 : Clk.new n = ⟨n, n, fun _ => 0, fun _ => 0⟩ := by unfold Clk.new; rw [if_pos h]
  rw [e1]
  refine tri_intro (args := [_]) Tryz.func32 rfl Tryz.ntmps32 rfl (rs := _) rfl rfl fun E R => ?_
  simp only [fr, List.cons_append, List.nil_append]
  (refine sr_ ?_; (refine ac_ ?_); refine sn_ ?_; (apply sc_seq); refine sr_ ?_; (refine mv_ ?_); (apply so_callq; (exact Ev.func); (focus ((apply EvL.cons; (exact ev_)); exact EvL.nil)); (focus (repeat (first | exact App.nil | apply App.cons))); assumption; exact c1; (exact sel_); exact rfl); (refine se_ (ex_not ev_) ?_); refine sn_ ?_; (refine cf_ ?_); (apply sc_skip); (apply nm_then); refine sr_ ?_; (refine mv_ ?_); (refine mv_ ?_); (apply so_ex; (apply ex_build; (focus ((apply EvP.cons; (exact ev_)); (apply EvP.cons; (exact ev_)); exact EvP.nil)); exact hz; (apply Bld.cons; assumption; exact rfl; exact rfl; exact ck_sub4; apply Bld.cons; assumption; exact rfl; exact rfl; exact ck_sub3; exact Bld.nil (by assumption))); exact rfl); (apply so_box; (exact ev_); exact rfl; exact rfl; intro _); (refine asg_ ?_); refine sn_ ?_; (apply sc_ret); (apply ret_ok; (focus ((apply Res.tmp; (exact ev_)); exact Res.nil)); (exact ⟨_, rfl, rfl⟩); (exact sel_); (exact appb_)))
theorem newT_tri (cb : Nat) : Tri Tryz.prog 25 #[cP cb] [] fun v L => ∃ tb mm, v = tP tb ∧ L = [(tb, .cells [cP cb, .map (some mm), .int .i64 0].toArray 87), (mm, .map #[] 0)] := by
  have f_mixed := mixed; have f_en32 := en32; have f_pl87_0 := pl87_0; have f_pl87_1 := pl87_1; have f_st87 := st87; have f_ty87 := ty87; have f_un_41 : Und Tryz.prog 41 _ := ⟨Tryz.underlying41⟩; have f_zero87 := zero87
  refine tri_intro (args := [_]) Tryz.func25 rfl Tryz.ntmps25 rfl (rs := _) rfl rfl fun E R => ?_
  simp only [fr, List.cons_append, List.nil_append]
  (refine sr_ ?_; (refine ac_ ?_); refine sn_ ?_; (apply sc_seq); refine sr_ ?_; (refine mv_ ?_); (refine se_ (ex_eqp_f ev_ .const asm_) ?_); refine sn_ ?_; (refine cf_ ?_); (apply sc_skip); (apply nm_then); refine sr_ ?_; (refine mv_ ?_); (apply so_makeMap; exact rfl; intro _); (apply so_ex; (apply ex_build; ((focus ((apply EvP.cons; (exact ev_)); (apply EvP.cons; (exact ev_)); exact EvP.nil))); assumption; ((focus (repeat (first | exact Bld.nil (by assumption) | (apply Bld.cons; assumption; exact rfl; exact rfl; (focus (repeat (first | exact SetSub.nil | apply SetSub.take | apply SetSub.drop))))))))); exact rfl); (apply so_box; (exact ev_); exact rfl; exact rfl; intro _); (refine asg_ ?_); refine sn_ ?_; (apply sc_ret))
  rename_i mm tb
  (apply ret_ok; (focus ((apply Res.tmp; (exact ev_)); exact Res.nil)); (exact ⟨tb, mm, rfl, rfl⟩); (exact sel_); (exact appb_))
theorem refOn_tri (n : Int) : Tri Tryz.prog 66 #[.int .i64 n] [] fun v L => (∃ b, v = .bool b) ∧ L = [] := by
  have f_mixed := mixed; 
  refine tri_intro (args := [_]) Tryz.func66 rfl Tryz.ntmps66 rfl (rs := _) rfl rfl fun E R => ?_
  simp only [fr, List.cons_append, List.nil_append]
  (refine sr_ ?_; (refine ac_ ?_); refine sn_ ?_; refine sr_ ?_; (refine mv_ ?_); (apply so_split; (apply ex_geq; (exact ev_); ((exact Ev.const))); exact rfl; refine ⟨fun _ => ?_, fun _ => ?_⟩); (refine mv_ ?_); (refine wt_ ?_); (refine mv_ ?_); (refine wt_ ?_); (apply so_split; (apply ex_leq; (exact ev_); ((exact Ev.const))); exact rfl; refine ⟨fun _ => ?_, fun _ => ?_⟩); (refine se_ (ex_pick_t ev_ ev_) ?_); (refine asg_ ?_); refine sn_ ?_; (apply sc_ret); (apply ret_ok; (focus ((apply Res.tmp; (exact ev_)); exact Res.nil)); (exact ⟨⟨_, rfl⟩, rfl⟩); (exact sel_); (exact appb_)); (refine se_ (ex_pick_t ev_ ev_) ?_); (refine asg_ ?_); refine sn_ ?_; (apply sc_ret); (apply ret_ok; (focus ((apply Res.tmp; (exact ev_)); exact Res.nil)); (exact ⟨⟨_, rfl⟩, rfl⟩); (exact sel_); (exact appb_)); (refine mv_ ?_); (refine sk_ ?_); (refine sk_ ?_); (refine se_ (ex_pick_f ev_ .const) ?_); (refine asg_ ?_); refine sn_ ?_; (apply sc_ret); (apply ret_ok; (focus ((apply Res.tmp; (exact ev_)); exact Res.nil)); (exact ⟨⟨_, rfl⟩, rfl⟩); (exact sel_); (exact appb_)))
theorem refC_tri (n : Int) : Tri Tryz.prog 34 #[.int .i64 n] [] fun v L => (∃ b, v = tP b) ∧ L = [] := by
  have f_mixed := mixed; have f_en66 := en66; have f_pl113_0 := pl113_0; have f_pl113_1 := pl113_1; have f_st113 := st113; have f_ty113 := ty113; have f_zero113 := zero113
  refine tri_intro (args := [_]) Tryz.func34 rfl Tryz.ntmps34 rfl (rs := _) rfl rfl fun E R => ?_
  simp only [fr, List.cons_append, List.nil_append]
  (refine sr_ ?_; (refine ac_ ?_); refine sn_ ?_; refine sr_ ?_; (refine mv_ ?_))
  (apply so_call; (exact Ev.func); (focus ((apply EvL.cons; (exact ev_)); exact EvL.nil)); (focus (repeat (first | exact App.nil | apply App.cons))); assumption; (exact refOn_tri n); (exact sel_); exact rfl)
  rintro v L ⟨⟨b, rfl⟩, rfl⟩
  simp only [List.nil_append]
  cases b with
  | true => ((refine asg_ ?_); refine sn_ ?_; (apply sc_seq); refine sr_ ?_; (refine mv_ ?_); (refine se_ (ex_not ev_) ?_); refine sn_ ?_; (refine cf_ ?_); (apply sc_skip); (apply nm_then); refine sr_ ?_; (refine mv_ ?_); (refine mv_ ?_); (apply so_ex; (apply ex_build; ((focus ((apply EvP.cons; (exact ev_)); (apply EvP.cons; (exact ev_)); exact EvP.nil))); assumption; ((focus (repeat (first | exact Bld.nil (by assumption) | (apply Bld.cons; assumption; exact rfl; exact rfl; (focus (repeat (first | exact SetSub.nil | apply SetSub.take | apply SetSub.drop))))))))); exact rfl); (apply so_box; (exact ev_); exact rfl; exact rfl; intro _); (refine asg_ ?_); refine sn_ ?_; (apply sc_ret); (apply ret_ok; (focus ((apply Res.tmp; (exact ev_)); exact Res.nil)); (exact ⟨⟨_, rfl⟩, rfl⟩); (exact sel_); (exact appb_)))
  | false => ((refine asg_ ?_); refine sn_ ?_; (apply sc_seq); refine sr_ ?_; (refine mv_ ?_); (refine se_ (ex_not ev_) ?_); refine sn_ ?_; (refine ct_ ?_); (apply sc_region); (refine ac_ ?_); refine sn_ ?_; refine sr_ ?_; (refine mv_ ?_); (refine mv_ ?_); (apply so_ex; (apply ex_build; ((focus ((apply EvP.cons; (exact ev_)); (apply EvP.cons; (exact ev_)); exact EvP.nil))); assumption; ((focus (repeat (first | exact Bld.nil (by assumption) | (apply Bld.cons; assumption; exact rfl; exact rfl; (focus (repeat (first | exact SetSub.nil | apply SetSub.take | apply SetSub.drop))))))))); exact rfl); (apply so_box; (exact ev_); exact rfl; exact rfl; intro _); (refine asg_ ?_); refine sn_ ?_; (apply sc_ret); (apply ret_ok; (focus ((apply Res.tmp; (exact ev_)); exact Res.nil)); (exact ⟨⟨_, rfl⟩, rfl⟩); (exact sel_); (exact appb_)))
theorem refT_tri (b : Nat) : Tri Tryz.prog 33 #[tP b] [] fun v L => (∃ b, v = tP b) ∧ L = [] := by
  have f_mixed := mixed; have f_pl110_0 := pl110_0; have f_st110 := st110; have f_ty110 := ty110; have f_zero110 := zero110
  refine tri_intro (args := [_]) Tryz.func33 rfl Tryz.ntmps33 rfl (rs := _) rfl rfl fun E R => ?_
  simp only [fr, List.cons_append, List.nil_append]
  (refine sr_ ?_; (refine ac_ ?_); refine sn_ ?_; refine sr_ ?_; (refine mv_ ?_); (apply so_ex; (apply ex_build; ((focus ((apply EvP.cons; (exact ev_)); exact EvP.nil))); assumption; ((focus (repeat (first | exact Bld.nil (by assumption) | (apply Bld.cons; assumption; exact rfl; exact rfl; (focus (repeat (first | exact SetSub.nil | apply SetSub.take | apply SetSub.drop))))))))); exact rfl); (apply so_box; (exact ev_); exact rfl; exact rfl; intro _); (refine asg_ ?_); refine sn_ ?_; (apply sc_ret); (apply ret_ok; (focus ((apply Res.tmp; (exact ev_)); exact Res.nil)); (exact ⟨⟨_, rfl⟩, rfl⟩); (exact sel_); (exact appb_)))
def T0 (nx : Int) : Ts := ⟨Clk.new (3 + nx % 125), [], 0⟩
theorem new_on (nx : Int) : onR (3 + nx % 125) = true := by rw [onR_iff]; omega
theorem begun_tri (nx : Int) : Tri Tryz.prog 7 #[.int .i64 nx] [] fun v L => ∃ tb w, v = .tuple #[tP tb, tP w] ∧ TsIn 0 (T0 nx) tb L := by
  have f_mixed := mixed; have f_en25 := en25; have f_en32 := en32; have f_en33 := en33; have f_en34 := en34; have f_en9 := en9
  have c1 : TriQ Tryz.prog 9 #[.int .i64 nx, .int .i64 125] [] (.int .i64 (nx % 125)) := rest_tri nx 125 (by omega) (by omega)
  have hon := new_on nx
  refine tri_intro (args := [_]) Tryz.func7 rfl Tryz.ntmps7 rfl (rs := _) rfl rfl fun E R => ?_
  simp only [fr, List.cons_append, List.nil_append]
  (refine sr_ ?_; (refine ac_ ?_); (refine ac_ ?_); refine sn_ ?_; refine sr_ ?_; (refine mv_ ?_); (apply so_callq; (exact Ev.func); (focus ((apply EvL.cons; (exact ev_)); (apply EvL.cons; (exact Ev.const)); exact EvL.nil)); (focus (repeat (first | exact App.nil | apply App.cons))); assumption; exact c1; (exact sel_); exact rfl); (refine se_ (ex_add .const ev_ wr_) ?_); (refine asg_ ?_); refine sn_ ?_; refine sr_ ?_; (refine mv_ ?_))
  (apply so_call; (exact Ev.func); (focus ((apply EvL.cons; (exact ev_)); exact EvL.nil)); (focus (repeat (first | exact App.nil | apply App.cons))); assumption; (exact newC_tri hon); (exact sel_); exact rfl)
  rintro v L ⟨cb, rfl, rfl⟩
  simp only [List.cons_append, List.nil_append]
  skip
  (apply so_call; (exact Ev.func); (focus ((apply EvL.cons; (exact ev_)); exact EvL.nil)); (focus (repeat (first | exact App.nil | apply App.cons))); assumption; (exact newT_tri cb); (exact sel_); exact rfl)
  rintro v L ⟨tb, mm, rfl, rfl⟩
  simp only [List.cons_append, List.nil_append]
  ((refine mv_ ?_))
  (apply so_call; (exact Ev.func); (focus ((apply EvL.cons; (exact ev_)); exact EvL.nil)); (focus (repeat (first | exact App.nil | apply App.cons))); assumption; (exact refC_tri (3 + nx % 125)); (exact sel_); exact rfl)
  rintro v L ⟨⟨b, rfl⟩, rfl⟩
  simp only [List.cons_append, List.nil_append]
  skip
  (apply so_call; (exact Ev.func); (focus ((apply EvL.cons; (exact ev_)); exact EvL.nil)); (focus (repeat (first | exact App.nil | apply App.cons))); assumption; (exact refT_tri b); (exact sel_); exact rfl)
  rintro v L ⟨⟨w, rfl⟩, rfl⟩
  simp only [List.cons_append, List.nil_append]
  have hok : TsOk 0 (T0 nx) #[] 0 (fun _ => ⟨0, .pointer none, [], .pointer none, [], .pointer none, []⟩) := ⟨.empty, fun _ h => (by cases h), fun _ h => (by cases h), ⟨Int.le_refl _, Int.le_refl _⟩, fun _ h => (by cases h), ⟨by show onR (if onR _ then _ else 3) = true; rw [hon]; exact hon, by show onR (if onR _ then _ else 3) = true; rw [hon]; exact hon⟩, Nat.zero_le _⟩
  ((refine asg_ ?_); (refine asg_ ?_); refine sn_ ?_; (apply sc_ret); (apply ret_ok; (focus ((apply Res.tmp; (exact ev_)); (apply Res.tmp; (exact ev_)); exact Res.nil)); (exact ⟨_, _, rfl, cb, mm, #[], 0, _, rfl, hok⟩); (exact sel_); (exact appb_)))
end Go.Proofs.YtfkpjnomfmjplaaGreat
namespace Go.Proofs.YtfkpjnomfmjplaaGreat
open Go.Sym Go.ChangeShapes Go.WideShapes
theorem cells3 : Tryz.prog.cellsOf 3 = 1 := by kernel_rfl
theorem cells9 : Tryz.prog.cellsOf 9 = 1 := by kernel_rfl
theorem cells22 : Tryz.prog.cellsOf 22 = 1 := by kernel_rfl
theorem cells24 : Tryz.prog.cellsOf 24 = 2 := by kernel_rfl
theorem cells32 : Tryz.prog.cellsOf 32 = 1 := by kernel_rfl
theorem cells34 : Tryz.prog.cellsOf 34 = 5 := by kernel_rfl
theorem types24 : Tryz.prog.cellTypes Tryz.prog.depth 24 = some [22, 3] := by kernel_rfl
section
variable {H : Type} {enc : TypeId × Value → H} {W : World} {held : Bool} {fuel : Nat} {x : DataW H × List MemPlace}
theorem block_at {b o : Nat} {sp : Option Nat} {v : Value} (h : W.cell? ⟨b, o, sp⟩ = some v) : sp = none ∧ ∃ c T fz, (b, Obj.cells (List.toArray c) T fz) ∈ allB W := by
  unfold World.cell? at h
  split at h
  · rename_i c T fz hb
    cases sp with
    | some s => simp at h
    | none => exact ⟨rfl, c.toList, T, fz, mem_allB.2 (by simpa using hb)⟩
  · cases h
theorem cell_in {b o : Nat} {v : Value} {c : List Value} {T : TypeId} {fz : Nat × Nat} (hm : (b, Obj.cells (List.toArray c) T fz) ∈ allB W) (h : W.cell? ⟨b, o, none⟩ = some v) : c[o]? = some v := by
  have hb := mem_allB.1 hm
  simp only at hb
  simpa [World.cell?, hb] using h
theorem open_xs {v : Value} (h : DataW.trod enc Tryz.prog W 0 (fun _ => true) held fuel 32 [v] = some x) : ∃ (xs : List Int) (xp : Option Addr) (xcap : Nat), v = .slice xp xs.length xcap ∧ XsIn xs (.slice xp xs.length xcap) (allB W) ∧ xs.length ≤ xcap := by
  rcases Go.Deep.open_slice1 Tryz.underlying32 cells3 h with ⟨h1, _⟩ | ⟨a, len, cap, m, n, V, D, Pl, h1, _, hl, _, hm, _, hx⟩
  · injection h1 with h1
    exact ⟨[], none, 0, h1, ⟨none, 0, rfl, fun h => absurd rfl h⟩, Nat.le_refl _⟩
  · obtain ⟨ab, ao, asp⟩ := a
    injection h1 with h1
    have hm' : m = cap := by simpa using hm
    have hz : ∀ i, i < len → ∃ z : Int, W.cell? (Addr.add ⟨ab, ao, asp⟩ i) = some (.int .i64 z) := fun i hi => by
      obtain ⟨h2, h3⟩ := hx i (by omega)
      obtain ⟨z, hz, _, _⟩ := DataW.trod_int Tryz.underlying3 h3
      injection hz with hz
      exact ⟨z, by rw [h2, hz]⟩
    let xs : List Int := (List.range len).map fun i => if h : i < len then Classical.choose (hz i h) else 0
    have hxl : xs.length = len := by simp [xs]
    refine ⟨xs, some ⟨ab, ao, asp⟩, cap, by rw [hxl]; exact h1, ⟨_, cap, rfl, fun hne => ?_⟩, by omega⟩
    have hpos : 0 < len := by
      rcases Nat.eq_zero_or_pos len with h | h
      · exact absurd (List.eq_nil_of_length_eq_zero (hxl.trans h)) hne
      · exact h
    obtain ⟨z0, h0⟩ := hz 0 hpos
    have ha0 : Addr.add ⟨ab, ao, asp⟩ 0 = ⟨ab, ao, asp⟩ := by simp [Addr.add]
    rw [ha0] at h0
    obtain ⟨rfl, c, T, fz, hmem⟩ := block_at h0
    refine ⟨ab, ao, c, T, fz, rfl, hmem, fun i hi => ?_⟩
    have hi' : i < len := by omega
    have h2 := (congrArg W.cell? (add_none ab ao i).symm).trans (Classical.choose_spec (hz i hi'))
    have h3 := cell_in hmem h2
    rw [Nat.mul_one, h3]
    simp [xs, hi']
set_option maxRecDepth 100000 in
theorem open_call {cs : List Value} (h : DataW.trod enc Tryz.prog W 0 (fun _ => true) held fuel 34 cs = some x) : ∃ (z id nn : Int) (sx : ByteArray) (xs : List Int) (xp : Option Addr) (xcap : Nat), cs = [.int .i64 z, .int .i64 id, .int .i64 nn, .string sx, .slice xp xs.length xcap] ∧ XsIn xs (.slice xp xs.length xcap) (allB W) ∧ xs.length ≤ xcap := by
  obtain ⟨ys, n, _, _, hl, hyl, hf⟩ := DataW.trod_struct Tryz.underlying34 h
  rw [cells34] at hl
  match cs, hl with
  | [c0, c1, c2, c3, c4], _ =>
    have hy : ys.length = 5 := hyl
    match ys, hy with
    | [y0, y1, y2, y3, y4], _ =>
      have f0 := hf 0 _ rfl
      have f1 := hf 1 _ rfl
      have f2 := hf 2 _ rfl
      have f3 := hf 3 _ rfl
      have f4 := hf 4 _ rfl
      simp only [cells3, cells9, cells32, List.drop, List.take, List.getElem?_cons_zero, List.getElem?_cons_succ] at f0 f1 f2 f3 f4
      obtain ⟨z, hz, _, _⟩ := DataW.trod_int Tryz.underlying3 f0
      obtain ⟨id, hid, _, _⟩ := DataW.trod_int Tryz.underlying3 f1
      obtain ⟨nn, hnn, _, _⟩ := DataW.trod_int Tryz.underlying3 f2
      obtain ⟨sx, hsx, _, _⟩ := DataW.trod_string Tryz.underlying9 f3
      obtain ⟨xs, xp, xcap, hv, hxi, hxc⟩ := open_xs f4
      injection hz with hz
      injection hid with hid
      injection hnn with hnn
      injection hsx with hsx
      exact ⟨z, id, nn, sx, xs, xp, xcap, by rw [hz, hid, hnn, hsx, hv], hxi, hxc⟩
theorem open_calls {v : Value} (h : DataW.trod enc Tryz.prog W 0 (fun _ => true) held fuel 22 [v] = some x) : CallsArg v (allB W) := by
  rcases Go.Deep.open_slice Tryz.underlying22 h with ⟨h1, _⟩ | ⟨a, len, cap, m, n, D, Pl, h1, _, hl, _, hm, _, hx⟩
  · injection h1 with h1
    exact ⟨none, 0, 0, h1, fun h => absurd rfl h⟩
  · obtain ⟨ab, ao, asp⟩ := a
    injection h1 with h1
    have hm' : m = cap := by simpa using hm
    rw [cells34] at hx
    refine ⟨some ⟨ab, ao, asp⟩, len, cap, h1, fun hne => ?_⟩
    have hget : ∀ i, i < len → ∃ cs', (∀ j, j < 5 → W.cell? ((Addr.add ⟨ab, ao, asp⟩ (i * 5)).add j) = cs'[j]?) ∧ ∃ (z id nn : Int) (sx : ByteArray) (xs : List Int) (xp : Option Addr) (xcap : Nat), cs' = [.int .i64 z, .int .i64 id, .int .i64 nn, .string sx, .slice xp xs.length xcap] ∧ XsIn xs (.slice xp xs.length xcap) (allB W) ∧ xs.length ≤ xcap := fun i hi => by
      obtain ⟨cs', h2, h3⟩ := hx i (by omega)
      obtain ⟨_, hlen, hcell⟩ := World.cells?_some h2
      exact ⟨cs', fun j hj => hcell j hj, open_call h3⟩
    obtain ⟨cs0, h20, z0, _, _, _, _, _, _, hcs0, _⟩ := hget 0 (by omega)
    have h0 := h20 0 (by omega)
    rw [hcs0] at h0
    have ha0 : (Addr.add ⟨ab, ao, asp⟩ (0 * 5)).add 0 = ⟨ab, ao, asp⟩ := by simp [Addr.add]
    rw [ha0] at h0
    obtain ⟨rfl, c, T, fz, hmem⟩ := block_at h0
    refine ⟨ab, ao, c, T, fz, rfl, hmem, fun i hi => ?_⟩
    obtain ⟨cs', h2, z, id, nn, sx, xs, xp, xcap, hcs, hxi, hxc⟩ := hget i hi
    refine ⟨z, id, nn, sx, xs, xp, xcap, fun j hj => ?_, hxi, hxc⟩
    have h3 := h2 j hj
    rw [add_none, add_none, hcs] at h3
    have hj5 : j < ([.int .i64 z, .int .i64 id, .int .i64 nn, .string sx, .slice xp xs.length xcap] : List Value).length := hj
    rw [List.getElem?_eq_getElem hj5] at h3 ⊢
    exact cell_in hmem h3
end
set_option maxRecDepth 100000 in
/-- the law's argument -/
theorem open_ask {H : Type} {enc : TypeId × Value → H} {W : World} {b : Nat} {v0 : Value} {d0 : DataW H} {p0 : List MemPlace} (hv0 : Value.okWide Tryz.prog W .any b 24 v0) (h0 : DataW.Trod enc Tryz.prog W 0 (fun _ => true) true 24 v0 d0 p0) : ∃ cv nx, v0 = .agg #[cv, .int .i64 nx] ∧ CallsArg cv (allB W) := by
  obtain ⟨cl, rfl, hlen, _⟩ := @struct_cells Tryz.prog W .any b 24 v0 _ [22, 3] Tryz.underlying24 types24 cells24 hv0
  match cl, hlen with
  | [c0, c1], _ =>
    obtain ⟨fuel, hf⟩ := h0
    obtain ⟨ys, n, _, _, hl, hyl, hx⟩ := DataW.trod_struct Tryz.underlying24 hf
    have hy : ys.length = 2 := hyl
    match ys, hy with
    | [y0, y1], _ =>
      have f0 := hx 0 _ rfl
      have f1 := hx 1 _ rfl
      simp only [cells3, cells22, Value.cells, List.drop, List.take, List.getElem?_cons_zero, List.getElem?_cons_succ] at f0 f1
      obtain ⟨z, hz, _, _⟩ := DataW.trod_int Tryz.underlying3 f1
      injection hz with hz
      exact ⟨c0, z, by rw [hz], open_calls f0⟩
end Go.Proofs.YtfkpjnomfmjplaaGreat
