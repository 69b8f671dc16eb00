/- Conflict: two edges compared; parts of a slice; rows of cells. -/
import Derived.Test.YtomgkmoecbnddaaU1
set_option linter.unusedVariables false
set_option linter.unusedSimpArgs false
set_option linter.unnecessarySimpa false
namespace Go.Sym
open Go
section
variable {P : Program} {E : Env} {f : Nat → Value} {L : List Blk} {ty : TypeId} {pos : String} {after : Array Edge} {d : Nat} {x y : Operand} {t et yt : TypeId} {ag : Bool} {s len cap k : Nat} {p : Option Addr} {b : Nat}
theorem ex_sliceTo (hx : Ev f x (.slice (some ⟨b, 0, none⟩) len cap)) (hy : Ev f y (.int .i64 (k : Int))) (ht : Und P t (.slice et)) (hT : tyOf P et = some (ag, s)) (hk : k ≤ cap) :
    Ex P E f L ⟨some d, .slice t x none (some y) none, ty, pos, after, none⟩ (.slice (some ⟨b, 0, none⟩) k cap) := .mk fun w hw => by
  have h1 := run_sizeT (P := P) (w := w) hT
  have h2 : (0 : Int) ≤ (k : Int) ∧ (k : Int) ≤ (cap : Int) := by omega
  simp only [execOp, Option.map_none, Option.map_some, hx.eq, hy.eq]
  simp [Instr.sliceAt, Instr.slice, Instr.sliceBounds, Instr.sliceBound, asIntOf, run_underlying ht.eq, h1, hk, add_none]
theorem ex_sliceFrom (hx : Ev f x (.slice (some ⟨b, 0, none⟩) len cap)) (hy : Ev f y (.int .i64 (k : Int))) (ht : Und P t (.slice et)) (hT : tyOf P et = some (ag, s)) (hk : k ≤ len) (hc : len ≤ cap) :
    Ex P E f L ⟨some d, .slice t x (some y) none none, ty, pos, after, none⟩ (.slice (some ⟨b, if cap = k then 0 else k * s, none⟩) (len - k) (cap - k)) := .mk fun w hw => by
  have h1 := run_sizeT (P := P) (w := w) hT
  simp only [execOp, Option.map_none, Option.map_some, hx.eq, hy.eq]
  by_cases h3 : cap = k
  · simp [Instr.sliceAt, Instr.slice, Instr.sliceBounds, Instr.sliceBound, asIntOf, run_underlying ht.eq, h1, hk, hc, add_none, h3]
  · simp [Instr.sliceAt, Instr.slice, Instr.sliceBounds, Instr.sliceBound, asIntOf, run_underlying ht.eq, h1, hk, hc, add_none, h3]
end
end Go.Sym
namespace Go.Proofs.Ytomgkmoecbnddaa
open Go.Sym
theorem equal92 (a b c e : Int) (w : World) : (Op.equal 92 (.agg #[.int .i64 a, .int .i64 b]) (.agg #[.int .i64 c, .int .i64 e])).run Try.prog w = .ok (decide (a = c) && decide (b = e)) w := by
  have h3 : ∀ (d : Nat) (u v : Int), (Op.equalIn (d + 1) 3 (.int .i64 u) (.int .i64 v)).run Try.prog w = .ok (decide (u = v)) w := fun d u v => by
    simp [Op.equalIn, run_underlying Try.underlying3, BEq.beq]
  have h : (Op.equalIn (9998 + 1 + 1) 92 (.agg #[.int .i64 a, .int .i64 b]) (.agg #[.int .i64 c, .int .i64 e])).run Try.prog w = .ok (decide (a = c) && decide (b = e)) w := by
    rw [Op.equalIn, Sem.run_bind, run_underlying Try.underlying92, Result.andThen_ok]
    have hst : Try.prog.stoodInHeld 92 = false := by kernel_rfl
    have hp : ∀ (u v : Int) (o : Nat), o < 2 → (part 3 #[Value.int .i64 u, .int .i64 v] o).run Try.prog w = .ok (if o = 0 then .int .i64 u else .int .i64 v) w := fun u v o ho => by
      have hT := run_sizeT (P := Try.prog) (w := w) ty3
      match o, ho with
      | 0, _ => simp [part, hT]
      | 1, _ => simp [part, hT]
    simp [hst, h3 9998, hp]
    by_cases h1 : a = c <;> by_cases h2 : b = e <;> simp [h1, h2]
  exact h
theorem ex_ne92 {E : Env} {f : Nat → Value} {L : List Blk} {ty yt : TypeId} {pos : String} {after : Array Edge} {d : Nat} {x y : Operand} {a b c e : Int} {r : Bool} (hx : Ev f x (.agg #[.int .i64 a, .int .i64 b])) (hy : Ev f y (.agg #[.int .i64 c, .int .i64 e])) (hr : (!(decide (a = c) && decide (b = e))) = r) :
    Ex Try.prog E f L ⟨some d, .binOp .neq 92 x y yt, ty, pos, after, none⟩ (.bool r) := .mk fun w _ => by
  have hg : Try.prog.eqGuardType Try.prog.depth 92 = false := by kernel_rfl
  rw [← hr]
  exact run_bin_neq hx hy (by simp [eqGuard, hg]) rfl (equal92 a b c e w)
/-! ### rows -/
theorem rows_len {α : Type} {F : α → List Value} {s : Nat} (hs : ∀ x, (F x).length = s) : ∀ l : List α, (l.flatMap F).length = l.length * s
  | [] => by simp
  | x :: l => by rw [List.flatMap_cons, List.length_append, hs, rows_len hs l, List.length_cons, Nat.succ_mul]; omega
theorem rows_get {α : Type} {F : α → List Value} {s : Nat} (hs : ∀ x, (F x).length = s) : ∀ {l : List α} {j : Nat} (_ : j < l.length) (q : Nat), q < s → (l.flatMap F)[j * s + q]? = (F l[j])[q]?
  | x :: l, 0, _, q, hq => by
    rw [List.flatMap_cons, Nat.zero_mul, Nat.zero_add, List.getElem?_append_left (by rw [hs]; exact hq)]
    rfl
  | x :: l, j + 1, h, q, hq => by
    rw [List.flatMap_cons, List.getElem?_append_right (by rw [hs, Nat.succ_mul]; omega)]
    have e : (j + 1) * s + q - (F x).length = j * s + q := by rw [hs, Nat.succ_mul]; omega
    rw [e, rows_get hs (by simpa using h) q hq]
    rfl
theorem rows_set {α : Type} {F : α → List Value} {s : Nat} (hs : ∀ x, (F x).length = s) : ∀ {l : List α} {j : Nat} (_ : j < l.length) (y : α) (q : Nat) (r : List Value), q + r.length ≤ s → F y = (F l[j]).take q ++ r ++ (F l[j]).drop (q + r.length) →
    (l.set j y).flatMap F = (l.flatMap F).take (j * s + q) ++ r ++ (l.flatMap F).drop (j * s + q + r.length)
  | x :: l, 0, _, y, q, r, hq, hy => by
    have hy : F y = (F x).take q ++ r ++ (F x).drop (q + r.length) := hy
    have h1 := hs x
    show (y :: l).flatMap F = _
    rw [List.flatMap_cons, List.flatMap_cons, Nat.zero_mul, Nat.zero_add, List.take_append_of_le_length (by omega), List.drop_append_of_le_length (by omega), hy]
    simp only [List.append_assoc]
  | x :: l, j + 1, h, y, q, r, hq, hy => by
    have ih := rows_set hs (l := l) (j := j) (by simpa using h) y q r hq hy
    have h1 := hs x
    have e1 : (j + 1) * s + q = (F x).length + (j * s + q) := by rw [h1, Nat.succ_mul]; omega
    show (x :: l.set j y).flatMap F = _
    rw [List.flatMap_cons, List.flatMap_cons, e1, show (F x).length + (j * s + q) + r.length = (F x).length + (j * s + q + r.length) by omega, List.take_append, List.drop_append,
      List.take_of_length_le (show (F x).length ≤ (F x).length + (j * s + q) by omega), List.drop_of_length_le (show (F x).length ≤ (F x).length + (j * s + q + r.length) by omega), Nat.add_sub_cancel_left, Nat.add_sub_cancel_left, ih]
    simp only [List.append_assoc, List.nil_append]
end Go.Proofs.Ytomgkmoecbnddaa
namespace Go.Proofs.Ytomgkmoecbnddaa
open Go.Sym
/-- slices by numbers -/
abbrev Sv := Int → Option Addr × Nat × Nat
def RT.cells (sv : Sv) (x : RT) : List Value := [.int .i64 x.id, .int .i64 x.bg, .int .i64 x.st, .int .i64 x.sq, .bool x.ro, .bool x.dm, .slice (sv x.id).1 (sv x.id).2.1 (sv x.id).2.2]
def ecell (e : Int × Int) : List Value := [.int .i64 e.1, .int .i64 e.2]
def tcells (sv : Sv) (l : List RT) : List Value := l.flatMap (RT.cells sv)
def ecells (l : List (Int × Int)) : List Value := l.flatMap ecell
theorem tlen (sv : Sv) (x : RT) : (x.cells sv).length = 7 := rfl
theorem elen (e : Int × Int) : (ecell e).length = 2 := rfl
def hdr (p : Nat) (vl ve : Value) (n : Int) : Blk := (p, Obj.cells [vl, ve, .int .i64 n].toArray 59)
/-- the list of transactions, its block in P0 -/
def TxIn (sv : Sv) (l : List RT) (o : Option Addr) (P0 : List Blk) : Prop := 0 < l.length → ∃ (b : Nat) (junk : List Value), o = some ⟨b, 0, none⟩ ∧ ((b, Obj.cells (tcells sv l ++ junk).toArray 85) : Blk) ∈ P0
def EdIn (l : List (Int × Int)) (o : Option Addr) (P0 : List Blk) : Prop := 0 < l.length → ∃ (b : Nat) (junk : List Value), o = some ⟨b, 0, none⟩ ∧ ((b, Obj.cells (ecells l ++ junk).toArray 92) : Blk) ∈ P0
theorem t_get {sv : Sv} {l : List RT} (junk : List Value) {j : Nat} (hj : j < l.length) : ∀ q, q < 7 → (tcells sv l ++ junk)[0 + j * 7 + q]? = (l[j].cells sv)[q]? := fun q hq => by
  rw [Nat.zero_add, List.getElem?_append_left (by unfold tcells; rw [rows_len (tlen sv)]; omega)]
  exact rows_get (tlen sv) hj q hq
theorem e_get {l : List (Int × Int)} (junk : List Value) {j : Nat} (hj : j < l.length) : ∀ q, q < 2 → (ecells l ++ junk)[0 + j * 2 + q]? = (ecell l[j])[q]? := fun q hq => by
  rw [Nat.zero_add, List.getElem?_append_left (by unfold ecells; rw [rows_len elen]; omega)]
  exact rows_get elen hj q hq
theorem TxIn.get {sv : Sv} {l : List RT} {o : Option Addr} {P0 : List Blk} (h : TxIn sv l o P0) {j : Nat} (hj : j < l.length) :
    ∃ (b : Nat) (junk : List Value), o = some ⟨b, 0, none⟩ ∧ ((b, Obj.cells (tcells sv l ++ junk).toArray 85) : Blk) ∈ P0 ∧ ∀ q, q < 7 → (tcells sv l ++ junk)[0 + j * 7 + q]? = (l[j].cells sv)[q]? := by
  obtain ⟨b, junk, h1, h2⟩ := h (by omega)
  refine ⟨b, junk, h1, h2, fun q hq => ?_⟩
  rw [Nat.zero_add, List.getElem?_append_left (by unfold tcells; rw [rows_len (tlen sv)]; omega)]
  exact rows_get (tlen sv) hj q hq
theorem EdIn.get {l : List (Int × Int)} {o : Option Addr} {P0 : List Blk} (h : EdIn l o P0) {j : Nat} (hj : j < l.length) :
    ∃ (b : Nat) (junk : List Value), o = some ⟨b, 0, none⟩ ∧ ((b, Obj.cells (ecells l ++ junk).toArray 92) : Blk) ∈ P0 ∧ ∀ q, q < 2 → (ecells l ++ junk)[0 + j * 2 + q]? = (ecell l[j])[q]? := by
  obtain ⟨b, junk, h1, h2⟩ := h (by omega)
  refine ⟨b, junk, h1, h2, fun q hq => ?_⟩
  rw [Nat.zero_add, List.getElem?_append_left (by unfold ecells; rw [rows_len elen]; omega)]
  exact rows_get elen hj q hq
def atV (l : List RT) (k : Int) : Int := match l.findIdx? fun x => decide (x.id = k) with | some i => (i : Int) | none => -1
theorem atV_at {l : List RT} {k : Int} {j : Nat} (h : j < l.length) (hj : l[j].id = k) (hn : ∀ i (h : i < l.length), i < j → l[i].id ≠ k) : atV l k = (j : Int) := by
  have : l.findIdx? (fun x => decide (x.id = k)) = some j := by
    rw [List.findIdx?_eq_some_iff_getElem]
    exact ⟨h, by simpa using hj, fun i hi => by simpa using hn i (by omega) hi⟩
  unfold atV; rw [this]
theorem atV_no {l : List RT} {k : Int} (hn : ∀ x ∈ l, x.id ≠ k) : atV l k = -1 := by
  have : l.findIdx? (fun x => decide (x.id = k)) = none := by
    rw [List.findIdx?_eq_none_iff]
    exact fun x hx => by simpa using hn x hx
  unfold atV; rw [this]
theorem atV_none {l : List RT} {k : Int} (h : findR l k = none) : atV l k = -1 := atV_no (findR_none h)
theorem atV_some {l : List RT} {k : Int} {x : RT} (h : findR l k = some x) : ∃ (i : Nat) (hi : i < l.length), l[i] = x ∧ atV l k = (i : Int) := by
  unfold findR at h
  cases hf : l.findIdx? fun x => decide (x.id = k) with
  | none =>
    rw [List.findIdx?_eq_none_iff] at hf
    have h1 := List.mem_of_find?_eq_some h
    have h2 := List.find?_some h
    rw [hf x h1] at h2; cases h2
  | some i =>
    obtain ⟨hi, h1, h2⟩ := List.findIdx?_eq_some_iff_getElem.1 hf
    refine ⟨i, hi, ?_, by unfold atV; rw [hf]⟩
    obtain ⟨_, s1, s2, rfl, h4⟩ := List.find?_eq_some_iff_append.1 h
    have hle : i = s1.length := by
      rcases Nat.lt_trichotomy i s1.length with h5 | h5 | h5
      · have := h4 s1[i] (List.getElem_mem h5)
        rw [List.getElem_append_left h5] at h1
        simp [h1] at this
      · exact h5
      · have h6 := h2 s1.length h5
        have h7 := List.find?_some h
        rw [List.getElem_append_right (Nat.le_refl _)] at h6
        simp at h6 h7
        exact absurd h7 h6
    subst hle
    rw [List.getElem_append_right (Nat.le_refl _)]
    simp
theorem at_tri {p cl : Nat} {l : List RT} {sv : Sv} {ol : Option Addr} {ve : Value} {n : Int} {P0 : List Blk} (hP : TxIn sv l ol P0) (hS : l.length ≤ 1000000) (k : Int) :
    TriQ Try.prog 44 #[.pointer (some ⟨p, 0, none⟩), .int .i64 k] (hdr p (.slice ol l.length cl) ve n :: P0) (.int .i64 (atV l k)) := by
  have f_mixed := mixed; have f_by85 := by85; have f_fo59_0 := fo59_0; have f_fo85_0 := fo85_0; have f_ty3 := ty3; have f_ty56 := ty56; have f_ty85 := ty85; have f_un_56 : Und Try.prog 56 _ := ⟨Try.underlying56⟩; have f_zero85 := zero85; have f_zv85 := zv85
  refine tri_intro (args := [_, _]) Try.func44 rfl Try.ntmps44 rfl (rs := _) rfl rfl fun E R => ?_
  simp only [fr, hdr, List.cons_append]
  (refine sr_ ?_; (refine ac_ ?_); refine sn_ ?_; (apply sc_seq); refine sr_ ?_; (refine ac_ ?_); refine sn_ ?_; (apply sc_block))
  refine sc_loop (fun q f L => ∃ j : Nat, j ≤ l.length ∧ q = l.length - j ∧ (∀ i (h : i < l.length), i < j → l[i].id ≠ k) ∧ At f 0 (.pointer (some ⟨p, 0, none⟩)) ∧ At f 1 (.int .i64 k) ∧ At f 5 (.int .i64 (j : Int)) ∧
      Held L ([(p, Obj.cells [.slice ol l.length cl, ve, .int .i64 n].toArray 59)] ++ P0) R)
      _ ⟨0, by omega, rfl, fun i h hi => absurd hi (by omega), at_, at_, at_, held_⟩ ?_
  rintro q f L ⟨j, hj, hq, hno, a0, a1, a5, ⟨G, hG⟩⟩
  refine sc_perm hG ?_
  simp only [List.cons_append, List.nil_append]
  ((apply sc_seq); (apply sc_seq); ((fail_if_success (apply sc_region (id := 4))); apply sc_region); (refine mv_ ?_); (refine mv_ ?_); (refine se_ (ex_nilCheck ev_) ?_); (refine se_ (ex_fieldAddr ev_ asm_) ?_); (refine se_ (ex_load1 ev_ asm_ mem_ nth_) ?_); (refine se_ (ex_len_slice ev_ asm_) ?_); (apply so_split; (apply ex_lss; (exact ev_); (exact ev_)); exact rfl; refine ⟨fun _ => ?_, fun _ => ?_⟩); refine sn_ ?_; (refine ct_ ?_); (apply sc_skip); (apply nm_then); (apply sc_seq); (apply sc_block); (apply sc_seq))
  · rename_i hlt
    have hjl : j < l.length := by omega
    obtain ⟨b, junk, ho, hgm, hld⟩ := hP.get hjl
    have h0 : (tcells sv l ++ junk)[0 + j * 7 + 0]? = some (.int .i64 l[j].id) := hld 0 (by omega)
    subst ho
    by_cases hx : l[j].id = k
    · rw [atV_at hjl hx hno]
      ((apply sc_region); (refine mv_ ?_); (refine se_ (ex_nilCheck ev_) ?_); (refine se_ (ex_fieldAddr ev_ asm_) ?_); (refine se_ (ex_load1 ev_ asm_ mem_ nth_) ?_); (refine mv_ ?_); (refine se_ (ex_indexAddr ev_ ev_ asm_ asm_ lit_ lt_) ?_); (refine se_ (ex_fieldAddr ev_ asm_) ?_); (apply so_ex; (apply ex_load1r; (exact ev_); assumption; (exact mem_); exact h0); exact rfl); (refine mv_ ?_); (refine se_ (ex_eql_t ev_ ev_ om_) ?_); refine sn_ ?_; (refine ct_ ?_); refine sr_ ?_; (refine mv_ ?_); (refine asg_ ?_); refine sn_ ?_; (apply sc_ret); (apply rt_block); (apply rt_then); (apply rt_then); (apply rt_block); (apply rt_then); (apply ret_ok; (focus ((apply Res.tmp; (exact ev_)); exact Res.nil)); (exact ⟨rfl, rfl⟩); (exact sel_); (exact appb_)))
    · ((apply sc_region); (refine mv_ ?_); (refine se_ (ex_nilCheck ev_) ?_); (refine se_ (ex_fieldAddr ev_ asm_) ?_); (refine se_ (ex_load1 ev_ asm_ mem_ nth_) ?_); (refine mv_ ?_); (refine se_ (ex_indexAddr ev_ ev_ asm_ asm_ lit_ lt_) ?_); (refine se_ (ex_fieldAddr ev_ asm_) ?_); (apply so_ex; (apply ex_load1r; (exact ev_); assumption; (exact mem_); exact h0); exact rfl); (refine mv_ ?_); (refine se_ (ex_eql_f ev_ ev_ om_) ?_); refine sn_ ?_; (refine cf_ ?_); (apply sc_skip); (apply nm_block); (apply nm_then); (apply sc_region); (refine mv_ ?_); (refine se_ (ex_add ev_ .const wr_) ?_); (refine asg_ ?_); (apply so_nil); (apply nm_then))
      refine ⟨_, by rw [hq]; omega, j + 1, by omega, rfl, fun i h hi => ?_, at_, at_, at_, held_⟩
      by_cases e : i = j
      · subst e; exact hx
      · exact hno i h (by omega)
  · rename_i hge
    have ej : j = l.length := by omega
    have hn : ∀ x ∈ l, x.id ≠ k := fun x hx => by
      obtain ⟨i, hi, rfl⟩ := List.getElem_of_mem hx
      exact hno i hi (by omega)
    rw [atV_no hn]
    (refine sn_ ?_; (refine cf_ ?_); (apply sc_exit); (apply et_then); (apply et_then); (apply et_hit); (apply nm_then); refine sr_ ?_; (refine ac_ ?_); refine sn_ ?_; (apply sc_ret); (apply ret_ok; (focus ((apply Res.tmp; (exact ev_)); exact Res.nil)); (exact ⟨rfl, rfl⟩); (exact sel_); (exact appb_)))
end Go.Proofs.Ytomgkmoecbnddaa
namespace Go.Proofs.Ytomgkmoecbnddaa
open Go.Sym
theorem has_tri {p : Nat} {l : List (Int × Int)} {oe : Option Addr} {ce : Nat} {vl : Value} {n : Int} {P0 : List Blk} (hP : EdIn l oe P0) (hS : l.length ≤ 1000000) (r w : Int) :
    TriQ Try.prog 54 #[.pointer (some ⟨p, 0, none⟩), .int .i64 r, .int .i64 w] (hdr p vl (.slice oe l.length ce) n :: P0) (.bool (decide ((r, w) ∈ l))) := by
  have f_mixed := mixed; have f_by92 := by92; have f_fo59_1 := fo59_1; have f_fo92_0 := fo92_0; have f_fo92_1 := fo92_1; have f_ty3 := ty3; have f_ty57 := ty57; have f_ty92 := ty92; have f_un_57 : Und Try.prog 57 _ := ⟨Try.underlying57⟩; have f_zero92 := zero92; have f_zv92 := zv92
  refine tri_intro (args := [_, _, _]) Try.func54 rfl Try.ntmps54 rfl (rs := _) rfl rfl fun E R => ?_
  simp only [fr, hdr, List.cons_append]
  (refine sr_ ?_; (refine ac_ ?_); refine sn_ ?_; (apply sc_seq); refine sr_ ?_; (refine ac_ ?_); refine sn_ ?_; (apply sc_block))
  refine sc_loop (fun q f L => ∃ j : Nat, j ≤ l.length ∧ q = l.length - j ∧ (∀ i (h : i < l.length), i < j → l[i] ≠ (r, w)) ∧ At f 0 (.pointer (some ⟨p, 0, none⟩)) ∧ At f 1 (.int .i64 r) ∧ At f 2 (.int .i64 w) ∧ At f 7 (.int .i64 (j : Int)) ∧
      Held L ([(p, Obj.cells [vl, .slice oe l.length ce, .int .i64 n].toArray 59)] ++ P0) R)
      _ ⟨0, by omega, rfl, fun i h hi => absurd hi (by omega), at_, at_, at_, at_, held_⟩ ?_
  rintro q f L ⟨j, hj, hq, hno, a0, a1, a2, a7, ⟨G, hG⟩⟩
  refine sc_perm hG ?_
  simp only [List.cons_append, List.nil_append]
  ((apply sc_seq); (apply sc_seq); ((fail_if_success (apply sc_region (id := 4))); apply sc_region); (refine mv_ ?_); (refine mv_ ?_); (refine se_ (ex_nilCheck ev_) ?_); (refine se_ (ex_fieldAddr ev_ asm_) ?_); (refine se_ (ex_load1 ev_ asm_ mem_ nth_) ?_); (refine se_ (ex_len_slice ev_ asm_) ?_); (apply so_split; (apply ex_lss; (exact ev_); (exact ev_)); exact rfl; refine ⟨fun _ => ?_, fun _ => ?_⟩); refine sn_ ?_; (refine ct_ ?_); (apply sc_skip); (apply nm_then); (apply sc_seq); (apply sc_block); (apply sc_seq))
  · rename_i hlt
    have hjl : j < l.length := by omega
    obtain ⟨b, junk, ho, hgm, hld⟩ := hP.get hjl
    have hmem : l[j] ∈ l := List.getElem_mem hjl
    generalize hej : l[j] = ej at hld hmem
    obtain ⟨e1, e2⟩ := ej
    have h0 : (ecells l ++ junk)[0 + j * 2 + 0]? = some (.int .i64 e1) := hld 0 (by omega)
    have h1 : (ecells l ++ junk)[0 + j * 2 + 1]? = some (.int .i64 e2) := hld 1 (by omega)
    subst ho
    by_cases hx : e1 = r ∧ e2 = w
    · obtain ⟨rfl, rfl⟩ := hx
      rw [decide_eq_true hmem]
      ((apply sc_region); (refine mv_ ?_); (refine se_ (ex_nilCheck ev_) ?_); (refine se_ (ex_fieldAddr ev_ asm_) ?_); (refine se_ (ex_load1 ev_ asm_ mem_ nth_) ?_); (refine mv_ ?_); (refine se_ (ex_indexAddr ev_ ev_ asm_ asm_ lit_ lt_) ?_); (refine se_ (ex_fieldAddr ev_ asm_) ?_); (apply so_ex; (apply ex_load1r; (exact ev_); assumption; (exact mem_); (first | exact h0 | exact h1)); exact rfl); (refine mv_ ?_); (refine se_ (ex_eql_t ev_ ev_ om_) ?_); (refine mv_ ?_); (refine wt_ ?_); (refine mv_ ?_); (refine wt_ ?_); (refine se_ (ex_nilCheck ev_) ?_); (refine wt_ ?_); (refine se_ (ex_fieldAddr ev_ asm_) ?_); (refine wt_ ?_); (refine se_ (ex_load1 ev_ asm_ mem_ nth_) ?_); (refine wt_ ?_); (refine mv_ ?_); (refine wt_ ?_); (refine se_ (ex_indexAddr ev_ ev_ asm_ asm_ lit_ lt_) ?_); (refine wt_ ?_); (refine se_ (ex_fieldAddr ev_ asm_) ?_); (refine wt_ ?_); (apply so_ex; (apply ex_load1r; (exact ev_); assumption; (exact mem_); (first | exact h0 | exact h1)); exact rfl); (refine wt_ ?_); (refine mv_ ?_); (refine wt_ ?_); (refine se_ (ex_eql_t ev_ ev_ om_) ?_); (refine se_ (ex_pick_t ev_ ev_) ?_); refine sn_ ?_; (refine ct_ ?_); refine sr_ ?_; (refine ac_ ?_); refine sn_ ?_; (apply sc_ret); (apply rt_block); (apply rt_then); (apply rt_then); (apply rt_block); (apply rt_then); (apply ret_ok; (focus ((apply Res.tmp; (exact ev_)); exact Res.nil)); (exact ⟨rfl, rfl⟩); (exact sel_); (exact appb_)))
    · have hno2 : ∀ i (h : i < l.length), i < j + 1 → l[i] ≠ (r, w) := fun i h hi => by
        by_cases e : i = j
        · subst e; rw [hej]; exact fun e => hx (by injection e with e1 e2; exact ⟨e1, e2⟩)
        · exact hno i h (by omega)
      by_cases hx1 : e1 = r
      · have hx2 : e2 ≠ w := fun e => hx ⟨hx1, e⟩
        ((apply sc_region); (refine mv_ ?_); (refine se_ (ex_nilCheck ev_) ?_); (refine se_ (ex_fieldAddr ev_ asm_) ?_); (refine se_ (ex_load1 ev_ asm_ mem_ nth_) ?_); (refine mv_ ?_); (refine se_ (ex_indexAddr ev_ ev_ asm_ asm_ lit_ lt_) ?_); (refine se_ (ex_fieldAddr ev_ asm_) ?_); (apply so_ex; (apply ex_load1r; (exact ev_); assumption; (exact mem_); (first | exact h0 | exact h1)); exact rfl); (refine mv_ ?_); (refine se_ (ex_eql_t ev_ ev_ om_) ?_); (refine mv_ ?_); (refine wt_ ?_); (refine mv_ ?_); (refine wt_ ?_); (refine se_ (ex_nilCheck ev_) ?_); (refine wt_ ?_); (refine se_ (ex_fieldAddr ev_ asm_) ?_); (refine wt_ ?_); (refine se_ (ex_load1 ev_ asm_ mem_ nth_) ?_); (refine wt_ ?_); (refine mv_ ?_); (refine wt_ ?_); (refine se_ (ex_indexAddr ev_ ev_ asm_ asm_ lit_ lt_) ?_); (refine wt_ ?_); (refine se_ (ex_fieldAddr ev_ asm_) ?_); (refine wt_ ?_); (apply so_ex; (apply ex_load1r; (exact ev_); assumption; (exact mem_); (first | exact h0 | exact h1)); exact rfl); (refine wt_ ?_); (refine mv_ ?_); (refine wt_ ?_); (refine se_ (ex_eql_f ev_ ev_ om_) ?_); (refine se_ (ex_pick_t ev_ ev_) ?_); refine sn_ ?_; (refine cf_ ?_); (apply sc_skip); (apply nm_block); (apply nm_then); (apply sc_region); (refine mv_ ?_); (refine se_ (ex_add ev_ .const wr_) ?_); (refine asg_ ?_); (apply so_nil); (apply nm_then))
        exact ⟨_, by rw [hq]; omega, j + 1, by omega, rfl, hno2, at_, at_, at_, at_, held_⟩
      · ((apply sc_region); (refine mv_ ?_); (refine se_ (ex_nilCheck ev_) ?_); (refine se_ (ex_fieldAddr ev_ asm_) ?_); (refine se_ (ex_load1 ev_ asm_ mem_ nth_) ?_); (refine mv_ ?_); (refine se_ (ex_indexAddr ev_ ev_ asm_ asm_ lit_ lt_) ?_); (refine se_ (ex_fieldAddr ev_ asm_) ?_); (apply so_ex; (apply ex_load1r; (exact ev_); assumption; (exact mem_); (first | exact h0 | exact h1)); exact rfl); (refine mv_ ?_); (refine se_ (ex_eql_f ev_ ev_ om_) ?_); (refine mv_ ?_); (refine sk_ ?_); (refine sk_ ?_); (refine sk_ ?_); (refine sk_ ?_); (refine sk_ ?_); (refine sk_ ?_); (refine sk_ ?_); (refine sk_ ?_); (refine sk_ ?_); (refine sk_ ?_); (refine se_ (ex_pick_f ev_ .const) ?_); refine sn_ ?_; (refine cf_ ?_); (apply sc_skip); (apply nm_block); (apply nm_then); (apply sc_region); (refine mv_ ?_); (refine se_ (ex_add ev_ .const wr_) ?_); (refine asg_ ?_); (apply so_nil); (apply nm_then))
        exact ⟨_, by rw [hq]; omega, j + 1, by omega, rfl, hno2, at_, at_, at_, at_, held_⟩
  · rename_i hge
    have hn : ¬ (r, w) ∈ l := fun hx => by
      obtain ⟨i, hi, e⟩ := List.getElem_of_mem hx
      exact hno i hi (by omega) e
    rw [decide_eq_false hn]
    (refine sn_ ?_; (refine cf_ ?_); (apply sc_exit); (apply et_then); (apply et_then); (apply et_hit); (apply nm_then); refine sr_ ?_; (refine ac_ ?_); refine sn_ ?_; (apply sc_ret); (apply ret_ok; (focus ((apply Res.tmp; (exact ev_)); exact Res.nil)); (exact ⟨rfl, rfl⟩); (exact sel_); (exact appb_)))
/-- a slice of numbers, its block in B -/
def SlM (zs : List Int) (o : Option Addr) (B : List Blk) : Prop := 0 < zs.length → ∃ (b : Nat) (junk : List Value), o = some ⟨b, 0, none⟩ ∧ ((b, Obj.cells (zs.map (Value.int .i64) ++ junk).toArray 3) : Blk) ∈ B
theorem hasI_tri {l : List Int} {o : Option Addr} {c : Nat} {P0 : List Blk} (hP : SlM l o P0) (hS : l.length ≤ 1000000) (k : Int) :
    TriQ Try.prog 56 #[.slice o l.length c, .int .i64 k] P0 (.bool (decide (k ∈ l))) := by
  have f_mixed := mixed; have f_by3 := by3; have f_ty25 := ty25; have f_ty3 := ty3; have f_un_25 : Und Try.prog 25 _ := ⟨Try.underlying25⟩; have f_zero3 := zero3; have f_zv3 := zv3
  refine tri_intro (args := [_, _]) Try.func56 rfl Try.ntmps56 rfl (rs := _) rfl rfl fun E R => ?_
  simp only [fr]
  (refine sr_ ?_; (refine ac_ ?_); refine sn_ ?_; (apply sc_seq); refine sr_ ?_; (refine ac_ ?_); refine sn_ ?_; (apply sc_block))
  refine sc_loop (fun q f L => ∃ j : Nat, j ≤ l.length ∧ q = l.length - j ∧ (∀ i (h : i < l.length), i < j → l[i] ≠ k) ∧ At f 0 (.slice o l.length c) ∧ At f 1 (.int .i64 k) ∧ At f 5 (.int .i64 (j : Int)) ∧
      Held L P0 R)
      _ ⟨0, by omega, rfl, fun i h hi => absurd hi (by omega), at_, at_, at_, ⟨[], by simp⟩⟩ ?_
  rintro q f L ⟨j, hj, hq, hno, a0, a1, a5, ⟨G, hG⟩⟩
  refine sc_perm hG ?_
  ((apply sc_seq); (apply sc_seq); ((fail_if_success (apply sc_region (id := 4))); apply sc_region); (refine mv_ ?_); (refine mv_ ?_); (refine se_ (ex_len_slice ev_ asm_) ?_); (apply so_split; (apply ex_lss; (exact ev_); (exact ev_)); exact rfl; refine ⟨fun _ => ?_, fun _ => ?_⟩); refine sn_ ?_; (refine ct_ ?_); (apply sc_skip); (apply nm_then); (apply sc_seq); (apply sc_block); (apply sc_seq))
  · rename_i hlt
    have hjl : j < l.length := by omega
    obtain ⟨b, junk, ho, hgm⟩ := hP (by omega)
    have h0 : (l.map (Value.int .i64) ++ junk)[0 + j * 1]? = some (.int .i64 l[j]) := by
      rw [Nat.zero_add, Nat.mul_one, List.getElem?_append_left (by simpa using hjl)]
      simp [hjl]
    subst ho
    have hmem : l[j] ∈ l := List.getElem_mem hjl
    by_cases hx : l[j] = k
    · rw [decide_eq_true (hx ▸ hmem)]
      ((apply sc_region); (refine mv_ ?_); (refine mv_ ?_); (refine se_ (ex_indexAddr ev_ ev_ asm_ asm_ lit_ lt_) ?_); (apply so_ex; (apply ex_load1r; (exact ev_); assumption; (exact mem_); exact h0); exact rfl); (refine mv_ ?_); (refine se_ (ex_eql_t ev_ ev_ om_) ?_); refine sn_ ?_; (refine ct_ ?_); refine sr_ ?_; (refine ac_ ?_); refine sn_ ?_; (apply sc_ret); (apply rt_block); (apply rt_then); (apply rt_then); (apply rt_block); (apply rt_then); (apply ret_ok; (focus ((apply Res.tmp; (exact ev_)); exact Res.nil)); (exact ⟨rfl, rfl⟩); (exact sel_); (exact appb_)))
    · ((apply sc_region); (refine mv_ ?_); (refine mv_ ?_); (refine se_ (ex_indexAddr ev_ ev_ asm_ asm_ lit_ lt_) ?_); (apply so_ex; (apply ex_load1r; (exact ev_); assumption; (exact mem_); exact h0); exact rfl); (refine mv_ ?_); (refine se_ (ex_eql_f ev_ ev_ om_) ?_); refine sn_ ?_; (refine cf_ ?_); (apply sc_skip); (apply nm_block); (apply nm_then); (apply sc_region); (refine mv_ ?_); (refine se_ (ex_add ev_ .const wr_) ?_); (refine asg_ ?_); (apply so_nil); (apply nm_then))
      refine ⟨_, by rw [hq]; omega, j + 1, by omega, rfl, fun i h hi => ?_, at_, at_, at_, ⟨G, List.Perm.refl _⟩⟩
      by_cases e : i = j
      · subst e; exact hx
      · exact hno i h (by omega)
  · rename_i hge
    have hn : ¬ k ∈ l := fun hx => by
      obtain ⟨i, hi, e⟩ := List.getElem_of_mem hx
      exact hno i hi (by omega) e
    rw [decide_eq_false hn]
    (refine sn_ ?_; (refine cf_ ?_); (apply sc_exit); (apply et_then); (apply et_then); (apply et_hit); (apply nm_then); refine sr_ ?_; (refine ac_ ?_); refine sn_ ?_; (apply sc_ret); (apply ret_ok; (focus ((apply Res.tmp; (exact ev_)); exact Res.nil)); (exact ⟨rfl, rfl⟩); (exact sel_); (exact appb_)))
end Go.Proofs.Ytomgkmoecbnddaa
namespace Go.Sym
open Go
theorem so_appR {P : Program} {E : Env} {n : Nat} {Q : SPost} {f : Nat → Value} {L : List Blk} {ops rest : List Oper} {x y : Operand} {t et ty : TypeId} {pos : String} {after : Array Edge} {d : Nat} {ag : Bool} {s by_ m c2 len cap b2 o2 : Nat} {p : Option Addr} {c : List Value} {T2 : TypeId} {fz : Nat × Nat} {xs ys z : List Value} {H R : List Blk} (hx : Ev f x (.slice p len cap)) (hy : Ev f y (.slice (some ⟨b2, o2, none⟩) m c2)) (hrow : Row et s (.slice p len cap) xs H) (hs : Sel L H R)
    (hm2 : (b2, .cells c.toArray T2 fz) ∈ L) (hyl : ys.length = m * s) (hyc : ∀ j, j < ys.length → c[o2 + j]? = ys[j]?)
    (ht : Und P t (.slice et)) (hT : tyOf P et = some (ag, s)) (hz : zeroOf P et = some z) (hzl : z.length = s) (hby : bytesT P et = some by_) (hb : (len + m) * by_ ≤ 140737488355328) (hlm : len + m ≤ 9223372036854775807) (hs1 : Nat.ble 1 s = true) (hone : ys.all (·.oneCell') = true) (hd : Nat.blt d n = true)
    (h : ∀ p' cap' H', Row et s (.slice p' (len + m) cap') (xs ++ ys) H' → SO P E n ops Q rest (upd f d (.slice p' (len + m) cap')) (H' ++ R)) :
    SO P E n ops Q (⟨some d, .call ⟨.builtin .append, #[x, y], #[t, t]⟩, ty, pos, after, none⟩ :: rest) f L := by
  have hs2 : 1 ≤ s := Nat.le_of_ble_eq_true hs1
  have hxl : xs.length = len * s := by
    cases hrow with
    | nil => simp
    | row h1 _ => exact h1
  refine so_append hx hy hrow hs hm2 hyl hyc ht hT hz hzl hby hb hlm hs1 hone hd fun v' H' hr' hn' => ?_
  have hl : (xs ++ ys).length = (len + m) * s := by rw [List.length_append, hxl, hyl, Nat.add_mul]
  generalize hX : xs ++ ys = X at *
  cases hr' with
  | nil =>
    have : (len + m) * s = 0 := by rw [← hl]; rfl
    have h0 : len + m = 0 := by
      rcases Nat.mul_eq_zero.1 this with h | h
      · exact h
      · omega
    have := h none 0 [] (by rw [h0]; exact .nil)
    rw [h0] at this
    exact this
  | row h1 h2 =>
    rename_i b len' cap' junk
    have : len' = len + m := Nat.eq_of_mul_eq_mul_right (by omega) (h1.symm.trans hl)
    subst this
    exact h _ _ _ (.row h1 h2)
end Go.Sym
namespace Go.Proofs.Ytomgkmoecbnddaa
open Go.Sym
/-- a number is appended -/
theorem so_appI {E : Env} {n : Nat} {Q : SPost} {f : Nat → Value} {L R : List Blk} {ops rest : List Oper} {x y : Operand} {ty : TypeId} {pos : String} {after : Array Edge} {d b2 cap : Nat} {o : Option Addr} {zs : List Int} {k : Int} {B : List Blk}
    (hx : Ev f x (.slice o zs.length cap)) (hy : Ev f y (.slice (some ⟨b2, 0, none⟩) 1 1)) (h1 : Row 3 1 (.slice o zs.length cap) (zs.map (Value.int .i64)) B) (hs : Sel L B R) (hm2 : (b2, .cells [Value.int .i64 k].toArray 3) ∈ L) (hb1 : zs.length ≤ 1000000000)
    (ht : Und Try.prog 25 (.slice 3)) (hT : tyOf Try.prog 3 = some (false, 1)) (hz : zeroOf Try.prog 3 = some [.int .i64 0]) (hby : bytesT Try.prog 3 = some 8) (hd : Nat.blt d n = true)
    (h : ∀ o' cap' B', Row 3 1 (.slice o' (zs ++ [k]).length cap') ((zs ++ [k]).map (Value.int .i64)) B' → SO Try.prog E n ops Q rest (upd f d (.slice o' (zs ++ [k]).length cap')) (B' ++ R)) : SO Try.prog E n ops Q (⟨some d, .call ⟨.builtin .append, #[x, y], #[25, 25]⟩, ty, pos, after, none⟩ :: rest) f L := by
  refine so_appR (ys := [Value.int .i64 k]) hx hy h1 hs hm2 rfl (fun j hj => by rw [Nat.zero_add]) ht hT hz rfl hby (by omega) (by omega) rfl rfl hd fun p' cap' H' hr' => ?_
  have e : zs.map (Value.int .i64) ++ [Value.int .i64 k] = (zs ++ [k]).map (Value.int .i64) := by rw [List.map_append]; rfl
  rw [e] at hr'
  have := h p' cap' H' (by rw [List.length_append]; exact hr')
  rw [List.length_append] at this
  exact this
end Go.Proofs.Ytomgkmoecbnddaa
