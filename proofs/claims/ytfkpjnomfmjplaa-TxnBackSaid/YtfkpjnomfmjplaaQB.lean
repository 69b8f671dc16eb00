/- Txn: where a manager lies in memory. Txn: at, run; the functions that turn one field. Txn: Anew, Turn, Fail, Save. Txn: Save. Txn: makeSlice; add, Begin. Txn: numbers, Collect. Txn: Own, Taken, Clone, Snap. -/
import Derived.Test.YtfkpjnomfmjplaaQA
import Derived.Laws.MakeOwn
set_option linter.unusedVariables false
set_option linter.unusedSimpArgs false
set_option linter.unnecessarySimpa false
namespace Go.Sym
open Go
theorem tri_perm {P : Program} {f : FuncId} {args : Array Value} {pre pre' : List Blk} {post : Value → List Blk → Prop} (hp : pre.Perm pre') (h : Tri P f args pre' post) : Tri P f args pre post := .mk fun E R w H =>
  h.out E R w (H.perm (hp.append_right R))
theorem tri_perm' {P : Program} {f : FuncId} {args : Array Value} {pre : List Blk} {post : Value → List Blk → Prop} (h : Tri P f args pre fun v L => ∃ L', L.Perm L' ∧ post v L') : Tri P f args pre post := .mk fun E R w H =>
  (h.out E R w H).mono fun _ _ ⟨v, _, he, ⟨L', hp, hq⟩, H'⟩ => ⟨v, L', he, hq, H'.perm (hp.append_right R)⟩
/-- blocks that are forgotten -/
theorem tri_drop {P : Program} {f : FuncId} {args : Array Value} {pre : List Blk} {post : Value → List Blk → Prop} (h : Tri P f args pre fun v L => ∃ L' G, L.Perm (L' ++ G) ∧ post v L') : Tri P f args pre post := .mk fun E R w H =>
  (h.out E R w H).mono fun _ _ ⟨v, _, he, ⟨L', G, hp, hq⟩, H'⟩ => ⟨v, L', he, hq, (H'.perm ((hp.append_right R).trans (List.append_assoc .. ▸ (List.perm_append_comm (l₁ := G) (l₂ := R)).append_left L'))).sub (by rw [← List.append_assoc]; exact List.sublist_append_left _ _)⟩
/-- blocks that are left alone -/
theorem tri_frame {P : Program} {f : FuncId} {args : Array Value} {pre : List Blk} {post : Value → List Blk → Prop} (A : List Blk) (h : Tri P f args pre post) : Tri P f args (pre ++ A) fun v L => ∃ M, post v M ∧ L = M ++ A := .mk fun E R w H =>
  (h.out E (A ++ R) w (by rwa [List.append_assoc] at H)).mono fun _ _ ⟨v, L, he, hq, H'⟩ => ⟨v, L ++ A, he, ⟨L, hq, rfl⟩, by rwa [List.append_assoc]⟩
end Go.Sym
namespace Go.Proofs.Ytfkpjnomfmjplaa
open Go.Sym
/-- where a transaction lies -/
structure TM where
  b : Nat
  sp : Value
  SB : List Blk
  lv : Value
  LB : List Blk
  gv : Value
  GB : List Blk
abbrev tP (tb : Nat) : Value := .pointer (some ⟨tb, 0, none⟩)
abbrev thdr (t : Tx) (m : TM) : Blk := (m.b, .cells [.int .i64 t.mode, m.sp, m.lv, m.gv, .bool t.failed, .bool t.prepared, .string t.name].toArray 80)
def tblks (t : Tx) (m : TM) : List Blk := thdr t m :: (m.SB ++ (m.LB ++ m.GB))
def SnIn (o : Option (Int × List Int)) (sp : Value) (SB : List Blk) : Prop := match o with
  | none => sp = .pointer none ∧ SB = []
  | some s => ∃ sb sv B, sp = tP sb ∧ SB = (sb, .cells [.int .i64 s.1, sv].toArray 48) :: B ∧ SlI s.2 sv B ∧ s.2.length ≤ 124
def lcells (l : List (ByteArray × Int)) : List Value := l.flatMap fun p => [.string p.1, .int .i64 p.2]
theorem lcells_len (l : List (ByteArray × Int)) : (lcells l).length = l.length * 2 := by
  induction l with
  | nil => rfl
  | cons p l ih => unfold lcells at *; rw [List.flatMap_cons, List.length_append, ih, List.length_cons]; simp; omega
theorem lcells_app (l m : List (ByteArray × Int)) : lcells (l ++ m) = lcells l ++ lcells m := List.flatMap_append ..
theorem lc_get {l : List (ByteArray × Int)} {junk : List Value} {i : Nat} (h : i < l.length) : (lcells l ++ junk)[i * 2]? = some (.string l[i].1) ∧ (lcells l ++ junk)[i * 2 + 1]? = some (.int .i64 l[i].2) := by
  induction l generalizing i with
  | nil => simp at h
  | cons p l ih =>
    cases i with
    | zero => exact ⟨rfl, rfl⟩
    | succ i =>
      have := ih (i := i) (by simpa using h)
      rw [show (i + 1) * 2 = i * 2 + 2 by omega]
      exact this
def LvIn (l : List (ByteArray × Int)) (lv : Value) (LB : List Blk) : Prop := l ≠ [] ∧ l.length ≤ 9 ∧ ∃ b cap junk, lv = .slice (some ⟨b, 0, none⟩) l.length cap ∧ (lcells l ++ junk).length = cap * 2 ∧ LB = [(b, .cells (lcells l ++ junk).toArray 91)]
structure TxIn (t : Tx) (m : TM) : Prop where
  sn : SnIn t.snap m.sp m.SB
  lv : LvIn t.lvs m.lv m.LB
  go : SlI t.gone m.gv m.GB
def PB (ρ : Int → TM) (l : List Tx) : List Blk := l.flatMap fun t => tblks t (ρ t.id)
def tml (ρ : Int → TM) (l : List Tx) : List (Int × Value) := l.map fun t => (t.id, tP (ρ t.id).b)
abbrev hdr (T : Ts) (tb cb mm : Nat) : Blk := (tb, .cells [cP cb, .map (some mm), .int .i64 T.last].toArray 74)
structure TsOk (K : Nat) (T : Ts) (es : Array MapEntry) (cl : Nat) (ρ : Int → TM) : Prop where
  map : MapOf (Value.int .i64) (tml ρ T.l) es cl
  tx : ∀ t ∈ T.l, TxIn t (ρ t.id)
  ids : ∀ t ∈ T.l, 1 ≤ t.id ∧ t.id ≤ T.last
  last : 0 ≤ T.last ∧ T.last ≤ K
  gone : ∀ t ∈ T.l, t.gone.length ≤ K
  ck : ClkOk T.c
  len : T.l.length ≤ 16
def TsB (T : Ts) (tb cb mm : Nat) (es : Array MapEntry) (cl : Nat) (ρ : Int → TM) : List Blk := hdr T tb cb mm :: (mm, .map es cl) :: cB cb T.c :: PB ρ T.l
/-- a manager in memory -/
def TsIn (K : Nat) (T : Ts) (tb : Nat) (L : List Blk) : Prop := ∃ cb mm es cl ρ, L = TsB T tb cb mm es cl ρ ∧ TsOk K T es cl ρ
theorem TsOk.nd {K : Nat} {T : Ts} {es : Array MapEntry} {cl : Nat} {ρ : Int → TM} (h : TsOk K T es cl ρ) : (T.l.map (·.id)).Nodup := by
  have := h.map.keys
  unfold tml at this
  rw [List.map_map] at this
  exact this
theorem TsOk.mono {K K' : Nat} {T : Ts} {es : Array MapEntry} {cl : Nat} {ρ : Int → TM} (h : TsOk K T es cl ρ) (hk : K ≤ K') : TsOk K' T es cl ρ :=
  ⟨h.map, h.tx, h.ids, by have := h.last; omega, fun t ht => Nat.le_trans (h.gone t ht) hk, h.ck, h.len⟩
theorem TsIn.mono {K K' : Nat} {T : Ts} {tb : Nat} {L : List Blk} (h : TsIn K T tb L) (hk : K ≤ K') : TsIn K' T tb L := by
  obtain ⟨cb, mm, es, cl, ρ, h1, h2⟩ := h
  exact ⟨cb, mm, es, cl, ρ, h1, h2.mono hk⟩
theorem findT_some {l : List Tx} {id : Int} {t : Tx} (h : findT l id = some t) : t ∈ l ∧ t.id = id := ⟨List.mem_of_find?_eq_some h, by simpa using List.find?_some h⟩
theorem findT_mem {l : List Tx} (hn : (l.map (·.id)).Nodup) {t : Tx} (h : t ∈ l) : findT l t.id = some t := by
  unfold findT
  induction l with
  | nil => cases h
  | cons a l ih =>
    rw [List.map_cons, List.nodup_cons] at hn
    rcases List.mem_cons.1 h with rfl | h
    · simp
    · have : ¬ a.id = t.id := fun e => hn.1 (e ▸ List.mem_map.2 ⟨t, h, rfl⟩)
      rw [List.find?_cons, decide_eq_false this]
      exact ih hn.2 h
theorem lookV_tml (ρ : Int → TM) (l : List Tx) (id : Int) : lookV (tml ρ l) id = (findT l id).map fun _ => tP (ρ id).b := by
  unfold tml findT
  induction l with
  | nil => rfl
  | cons a l ih =>
    rw [List.map_cons, lookV_cons, List.find?_cons]
    by_cases h : a.id = id
    · simp [h]
    · simp only [h, decide_false, if_false]
      exact ih
theorem PB_app (ρ : Int → TM) (l m : List Tx) : PB ρ (l ++ m) = PB ρ l ++ PB ρ m := List.flatMap_append ..
theorem PB_cons (ρ : Int → TM) (t : Tx) (m : List Tx) : PB ρ (t :: m) = tblks t (ρ t.id) ++ PB ρ m := List.flatMap_cons ..
theorem PB_congr {ρ ρ' : Int → TM} {l : List Tx} (h : ∀ t ∈ l, ρ' t.id = ρ t.id) : PB ρ' l = PB ρ l := by
  induction l with
  | nil => rfl
  | cons a l ih => rw [PB_cons, PB_cons, ih fun n hn => h n (List.mem_cons_of_mem _ hn), h a (List.mem_cons_self ..)]
def setρ (ρ : Int → TM) (id : Int) (m : TM) : Int → TM := fun k => if k = id then m else ρ k
theorem setρ_eq (ρ : Int → TM) (id : Int) (m : TM) : setρ ρ id m id = m := if_pos rfl
theorem setρ_ne (ρ : Int → TM) (m : TM) {id k : Int} (h : k ≠ id) : setρ ρ id m k = ρ k := if_neg h
theorem setT_out {l : List Tx} {id : Int} {f : Tx → Tx} (h : ∀ t ∈ l, t.id ≠ id) : setT l id f = l := by
  unfold setT
  conv => rhs; rw [← List.map_id l]
  apply List.map_congr_left
  intro t ht
  rw [if_neg (h t ht)]; rfl
theorem delT_out {l : List Tx} {id : Int} (h : ∀ t ∈ l, t.id ≠ id) : delT l id = l := by
  unfold delT
  rw [List.filter_eq_self]
  intro t ht; simpa using h t ht
/-- a list of transactions about one of them -/
theorem split_at {l : List Tx} (hn : (l.map (·.id)).Nodup) {id : Int} {t : Tx} (hf : findT l id = some t) : ∃ s u, l = s ++ t :: u ∧ t.id = id ∧ (∀ x ∈ s, x.id ≠ id) ∧ (∀ x ∈ u, x.id ≠ id) ∧ (∀ f, setT l id f = s ++ f t :: u) ∧ delT l id = s ++ u := by
  obtain ⟨hm, hid⟩ := findT_some hf
  obtain ⟨s, u, rfl⟩ := List.append_of_mem hm
  rw [List.map_append, List.map_cons, List.nodup_append, List.nodup_cons] at hn
  have h1 : ∀ x ∈ s, x.id ≠ id := fun x hx e => hn.2.2 x.id (List.mem_map.2 ⟨x, hx, rfl⟩) t.id (List.mem_cons_self ..) (e.trans hid.symm)
  have h2 : ∀ x ∈ u, x.id ≠ id := fun x hx e => hn.2.1.1 (List.mem_map.2 ⟨x, hx, e.trans hid.symm⟩)
  refine ⟨s, u, rfl, hid, h1, h2, fun f => ?_, ?_⟩
  · unfold setT at *
    rw [List.map_append, List.map_cons, if_pos hid]
    have a := setT_out (f := f) h1
    have b := setT_out (f := f) h2
    unfold setT at a b
    rw [a, b]
  · have a := delT_out h1
    have b := delT_out h2
    unfold delT at *
    rw [List.filter_append, List.filter_cons, a, b]
    simp [hid]
theorem pb_split {ρ : Int → TM} {l : List Tx} (hn : (l.map (·.id)).Nodup) {id : Int} {t : Tx} (hf : findT l id = some t) : ∃ PO, (PB ρ l).Perm (tblks t (ρ id) ++ PO) ∧ (∀ f m, (f t).id = id → (PB (setρ ρ id m) (setT l id f)).Perm (tblks (f t) m ++ PO)) ∧ PB ρ (delT l id) = PO := by
  obtain ⟨s, u, rfl, hid, h1, h2, h3, h4⟩ := split_at hn hf
  refine ⟨PB ρ s ++ PB ρ u, ?_, fun f m he => ?_, by rw [h4, PB_app]⟩
  · rw [PB_app, PB_cons, hid]
    rw [← List.append_assoc, ← List.append_assoc]
    exact List.perm_append_comm.append_right _
  · rw [h3, PB_app, PB_cons, he, setρ_eq, PB_congr (ρ' := setρ ρ id m) (l := s) fun t ht => setρ_ne _ _ (h1 t ht), PB_congr (ρ' := setρ ρ id m) (l := u) fun t ht => setρ_ne _ _ (h2 t ht)]
    rw [← List.append_assoc, ← List.append_assoc]
    exact List.perm_append_comm.append_right _
theorem pb_hdr {ρ : Int → TM} {l : List Tx} {t : Tx} (h : t ∈ l) : thdr t (ρ t.id) ∈ PB ρ l := List.mem_flatMap.2 ⟨t, h, List.mem_cons_self ..⟩
/-- one transaction is another -/
theorem TsOk.set {K K' : Nat} {T : Ts} {es : Array MapEntry} {cl : Nat} {ρ : Int → TM} (h : TsOk K T es cl ρ) {id : Int} {t : Tx} (hf : findT T.l id = some t) {f : Tx → Tx} (hi : ∀ t, (f t).id = t.id) {m : TM} (hb : m.b = (ρ id).b) (hm : TxIn (f t) m) (hk : K ≤ K') (hg : (f t).gone.length ≤ K') {c : Clk} (hc : ClkOk c) :
    TsOk K' { T.upd id f with c := c } es cl (setρ ρ id m) := by
  have hnd := h.nd
  obtain ⟨s, u, hl, hid, h1, h2, h3, _⟩ := split_at hnd hf
  have hcase : ∀ x ∈ setT T.l id f, (x ∈ T.l ∧ x.id ≠ id) ∨ x = f t := fun x hx => by
    rw [h3] at hx
    rcases List.mem_append.1 hx with hx | hx
    · exact .inl ⟨by rw [hl]; exact List.mem_append_left _ hx, h1 x hx⟩
    · rcases List.mem_cons.1 hx with hx | hx
      · exact .inr hx
      · exact .inl ⟨by rw [hl]; exact List.mem_append_right _ (List.mem_cons_of_mem _ hx), h2 x hx⟩
  have hfid : (f t).id = id := (hi t).trans hid
  have htm := (findT_some hf).1
  refine ⟨?_, fun x hx => ?_, fun x hx => ?_, ?_, fun x hx => ?_, hc, ?_⟩
  · have : tml (setρ ρ id m) (setT T.l id f) = tml ρ T.l := by
      rw [h3]
      have e : tml (setρ ρ id m) (s ++ f t :: u) = tml ρ (s ++ t :: u) := by
        unfold tml
        rw [List.map_append, List.map_append, List.map_cons, List.map_cons, hfid, hid, setρ_eq, hb]
        congr 1
        · apply List.map_congr_left; intro x hx; rw [setρ_ne _ _ (h1 x hx)]
        · congr 1
          apply List.map_congr_left; intro x hx; rw [setρ_ne _ _ (h2 x hx)]
      rw [e, ← hl]
    exact this ▸ h.map
  · rcases hcase x hx with ⟨ha, hb⟩ | rfl
    · rw [setρ_ne _ _ hb]; exact h.tx x ha
    · rw [hfid, setρ_eq]; exact hm
  · rcases hcase x hx with ⟨ha, _⟩ | rfl
    · exact h.ids x ha
    · rw [hfid, ← hid]; exact h.ids t htm
  · have := h.last
    exact ⟨this.1, Int.le_trans this.2 (by omega)⟩
  · rcases hcase x hx with ⟨ha, _⟩ | rfl
    · exact Nat.le_trans (h.gone x ha) hk
    · exact hg
  · show (setT T.l id f).length ≤ 16
    unfold setT; rw [List.length_map]; exact h.len
theorem TsB_split {T : Ts} {tb cb mm : Nat} {es : Array MapEntry} {cl : Nat} {ρ : Int → TM} {id : Int} {t : Tx} (hn : (T.l.map (·.id)).Nodup) (hf : findT T.l id = some t) :
    ∃ PO, (TsB T tb cb mm es cl ρ).Perm (hdr T tb cb mm :: (mm, .map es cl) :: cB cb T.c :: (tblks t (ρ id) ++ PO)) ∧
      (∀ f m c, (f t).id = id → (hdr T tb cb mm :: (mm, .map es cl) :: cB cb c :: (tblks (f t) m ++ PO)).Perm (TsB { T.upd id f with c := c } tb cb mm es cl (setρ ρ id m))) ∧ PB ρ (delT T.l id) = PO := by
  obtain ⟨PO, h1, h2, h3⟩ := pb_split (ρ := ρ) hn hf
  exact ⟨PO, ((h1.cons _).cons _).cons _, fun f m c he => (((h2 f m he).symm.cons _).cons _).cons _, h3⟩
end Go.Proofs.Ytfkpjnomfmjplaa
namespace Go.Proofs.Ytfkpjnomfmjplaa
open Go.Sym
def ptrT (T : Ts) (ρ : Int → TM) (id : Int) : Value := ((findT T.l id).map fun _ => tP (ρ id).b).getD (.pointer none)
theorem at_tri {K : Nat} {T : Ts} {es : Array MapEntry} {cl : Nat} {ρ : Int → TM} (h : TsOk K T es cl ρ) (tb cb mm : Nat) (id : Int) : TriQ Try.prog 41 #[tP tb, .int .i64 id] [hdr T tb cb mm, (mm, .map es cl)] (ptrT T ρ id) := by
  have f_mixed := mixed; have f_fo74_1 := fo74_1; have f_ty76 := ty76; have f_ty72 := ty72; have f_un_23 : Und Try.prog 23 _ := ⟨Try.underlying23⟩; have f_un_72 : Und Try.prog 72 _ := ⟨Try.underlying72⟩; have f_zero76 := zero76; have f_zv76 := zv76
  have f_kl := KL3
  have hm := h.map
  have hlk := lookV_tml ρ T.l id
  have hv : (lookV (tml ρ T.l) id).getD (.pointer none) = ptrT T ρ id := by rw [hlk]; rfl
  refine tri_intro (args := [_, _]) Try.func41 rfl Try.ntmps41 rfl (rs := _) rfl rfl fun E R => ?_
  simp only [fr, List.cons_append, List.nil_append]
  (refine sr_ ?_; (refine ac_ ?_); refine sn_ ?_; (apply sc_seq); refine sr_ ?_; (refine mv_ ?_); (refine se_ (ex_eqp_f ev_ .const asm_) ?_); refine sn_ ?_; (refine cf_ ?_); (apply sc_skip); (apply nm_then); refine sr_ ?_; (refine mv_ ?_); (refine se_ (ex_nilCheck ev_) ?_); (refine se_ (ex_fieldAddr ev_ asm_) ?_); (refine se_ (ex_load1 ev_ asm_ mem_ nth_) ?_); (refine mv_ ?_); (apply so_ex; (apply ex_look; (exact ev_); (exact mem_); assumption; (exact ev_); (first | exact keyEq .. | exact rfl); assumption; assumption; assumption; (first | exact lookEq .. | exact lookEq3 .. | exact lookEq4 .. | assumption | exact rfl)); exact rfl); (refine asg_ ?_); refine sn_ ?_; (apply sc_ret); (apply ret_ok; (focus ((apply Res.tmp; (exact ev_)); exact Res.nil)); (exact ⟨rfl, rfl⟩); (exact sel_); (exact appb_)))
theorem run_no {K : Nat} {T : Ts} {es : Array MapEntry} {cl : Nat} {ρ : Int → TM} (h : TsOk K T es cl ρ) (tb cb mm : Nat) (id : Int) (fv : Value) (hr : T.runs id = none) : TriQ Try.prog 45 #[tP tb, .int .i64 id, fv] (TsB T tb cb mm es cl ρ) (.int .i64 41) := by
  have f_mixed := mixed; have f_en41 := en41; have f_fo80_5 := fo80_5; have f_ty4 := ty4; have f_un_76 : Und Try.prog 76 _ := ⟨Try.underlying76⟩
  have c1 := at_tri h tb cb mm id
  unfold Ts.runs at hr
  unfold ptrT at c1
  unfold TsB
  cases hf : findT T.l id with
  | none =>
    rw [hf] at c1
    simp only [Option.map_none, Option.getD_none] at c1
    refine tri_intro (args := [_, _, _]) Try.func45 rfl Try.ntmps45 rfl (rs := _) rfl rfl fun E R => ?_
    simp only [fr, List.cons_append, List.nil_append]
    (refine sr_ ?_; (refine ac_ ?_); refine sn_ ?_; refine sr_ ?_; (refine mv_ ?_); (refine mv_ ?_); (apply so_callq; (exact Ev.func); (focus ((apply EvL.cons; (exact ev_)); (apply EvL.cons; (exact ev_)); exact EvL.nil)); (focus (repeat (first | exact App.nil | apply App.cons))); assumption; exact c1; (exact sel_); exact rfl); (refine asg_ ?_); refine sn_ ?_; (apply sc_seq); refine sr_ ?_; (refine mv_ ?_); (refine se_ (ex_eqp_t ev_ .const asm_) ?_); (refine mv_ ?_); (refine sk_ ?_); (refine sk_ ?_); (refine sk_ ?_); (refine sk_ ?_); (refine se_ (ex_pick_t ev_ .const) ?_); refine sn_ ?_; (refine ct_ ?_); refine sr_ ?_; (refine ac_ ?_); refine sn_ ?_; (apply sc_ret); (apply rt_then); (apply ret_ok; (focus ((apply Res.tmp; (exact ev_)); exact Res.nil)); (exact ⟨rfl, rfl⟩); (exact sel_); (exact appb_)))
  | some t =>
    rw [hf] at c1 hr
    simp only [Option.map_some, Option.getD_some] at c1
    have hp : t.prepared = true := by
      cases hp : t.prepared with
      | true => rfl
      | false => simp [hp] at hr
    obtain ⟨htm, hid⟩ := findT_some hf
    have hth := pb_hdr (ρ := ρ) htm
    unfold thdr at hth
    rw [hp, hid] at hth
    refine tri_intro (args := [_, _, _]) Try.func45 rfl Try.ntmps45 rfl (rs := _) rfl rfl fun E R => ?_
    simp only [fr, List.cons_append, List.nil_append]
    (refine sr_ ?_; (refine ac_ ?_); refine sn_ ?_; refine sr_ ?_; (refine mv_ ?_); (refine mv_ ?_); (apply so_callq; (exact Ev.func); (focus ((apply EvL.cons; (exact ev_)); (apply EvL.cons; (exact ev_)); exact EvL.nil)); (focus (repeat (first | exact App.nil | apply App.cons))); assumption; exact c1; (exact sel_); exact rfl); (refine asg_ ?_); refine sn_ ?_; (apply sc_seq); refine sr_ ?_; (refine mv_ ?_); (refine se_ (ex_eqp_f ev_ .const asm_) ?_); (refine mv_ ?_); (refine wt_ ?_); (refine mv_ ?_); (refine wt_ ?_); (refine se_ (ex_nilCheck ev_) ?_); (refine wt_ ?_); (refine se_ (ex_fieldAddr ev_ asm_) ?_); (refine wt_ ?_); (refine se_ (ex_load1 ev_ asm_ mem_ nth_) ?_); (refine se_ (ex_pick_f ev_ ev_) ?_); refine sn_ ?_; (refine ct_ ?_); refine sr_ ?_; (refine ac_ ?_); refine sn_ ?_; (apply sc_ret); (apply rt_then); (apply ret_ok; (focus ((apply Res.tmp; (exact ev_)); exact Res.nil)); (exact ⟨rfl, rfl⟩); (exact sel_); (exact appb_)))
theorem run_yes {K : Nat} {T : Ts} {es : Array MapEntry} {cl : Nat} {ρ : Int → TM} (h : TsOk K T es cl ρ) (tb cb mm : Nat) {id : Int} {t : Tx} (hf : findT T.l id = some t) (hp : t.prepared = false) {g : FuncId} {cap : List Value} (he : Enters Try.prog g) {X : List Blk} {post : Value → List Blk → Prop}
    (hT : Tri Try.prog g (tP (ρ id).b :: cap).toArray (hdr T tb cb mm :: (mm, .map es cl) :: thdr t (ρ id) :: X) post) : Tri Try.prog 45 #[tP tb, .int .i64 id, .func (.func g) #[] cap.toArray] (hdr T tb cb mm :: (mm, .map es cl) :: thdr t (ρ id) :: X) post := by
  have f_mixed := mixed; have f_en41 := en41; have f_fo80_5 := fo80_5; have f_ty4 := ty4; have f_un_76 : Und Try.prog 76 _ := ⟨Try.underlying76⟩
  have c1 := at_tri h tb cb mm id
  unfold ptrT at c1
  rw [hf] at c1
  simp only [Option.map_some, Option.getD_some] at c1
  unfold thdr at *
  rw [hp] at *
  refine tri_intro (args := [_, _, _]) Try.func45 rfl Try.ntmps45 rfl (rs := _) rfl rfl fun E R => ?_
  simp only [fr, List.cons_append, List.nil_append]
  (refine sr_ ?_; (refine ac_ ?_); refine sn_ ?_; refine sr_ ?_; (refine mv_ ?_); (refine mv_ ?_); (apply so_callq; (exact Ev.func); (focus ((apply EvL.cons; (exact ev_)); (apply EvL.cons; (exact ev_)); exact EvL.nil)); (focus (repeat (first | exact App.nil | apply App.cons))); assumption; exact c1; (exact sel_); exact rfl); (refine asg_ ?_); refine sn_ ?_; (apply sc_seq); refine sr_ ?_; (refine mv_ ?_); (refine se_ (ex_eqp_f ev_ .const asm_) ?_); (refine mv_ ?_); (refine wt_ ?_); (refine mv_ ?_); (refine wt_ ?_); (refine se_ (ex_nilCheck ev_) ?_); (refine wt_ ?_); (refine se_ (ex_fieldAddr ev_ asm_) ?_); (refine wt_ ?_); (refine se_ (ex_load1 ev_ asm_ mem_ nth_) ?_); (refine se_ (ex_pick_f ev_ ev_) ?_); refine sn_ ?_; (refine cf_ ?_); (apply sc_skip); (apply nm_then); refine sr_ ?_; (refine mv_ ?_); (refine mv_ ?_))
  apply so_call; (exact ev_); (focus ((apply EvL.cons; (exact ev_)); exact EvL.nil)); (focus (repeat (first | exact App.nil | apply App.cons))); exact he; exact hT; (exact Sel.all (ps := _ :: _ :: _ :: X)); exact rfl
  intro v L hpost
  ((refine asg_ ?_); refine sn_ ?_; (apply sc_ret); (apply ret_ok; (focus ((apply Res.tmp; (exact ev_)); exact Res.nil)); (exact hpost); (exact sel_); (exact appb_)))
/-- 'run' with a closure g: what it leaves -/
theorem run_triG {K : Nat} {T : Ts} {tb cb mm : Nat} {es : Array MapEntry} {cl : Nat} {ρ : Int → TM} (h : TsOk K T es cl ρ) (id : Int) {g : FuncId} {cap : List Value} (he : Enters Try.prog g) (G : List Blk) {post : Value → List Blk → Prop}
    (hno : T.runs id = none → ∃ L' G', (TsB T tb cb mm es cl ρ ++ G).Perm (L' ++ G') ∧ post (.int .i64 41) L')
    (hyes : ∀ t PO, T.runs id = some t → findT T.l id = some t → (∀ f m c, (f t).id = id → (hdr T tb cb mm :: (mm, .map es cl) :: cB cb c :: (tblks (f t) m ++ PO)).Perm (TsB { T.upd id f with c := c } tb cb mm es cl (setρ ρ id m))) →
      (TsB T tb cb mm es cl ρ).Perm (hdr T tb cb mm :: (mm, .map es cl) :: thdr t (ρ id) :: (cB cb T.c :: ((ρ id).SB ++ ((ρ id).LB ++ ((ρ id).GB ++ PO))))) →
      Tri Try.prog g (tP (ρ id).b :: cap).toArray (hdr T tb cb mm :: (mm, .map es cl) :: thdr t (ρ id) :: (cB cb T.c :: ((ρ id).SB ++ ((ρ id).LB ++ ((ρ id).GB ++ (PO ++ G)))))) fun v L => ∃ L', L.Perm L' ∧ post v L') :
    Tri Try.prog 45 #[tP tb, .int .i64 id, .func (.func g) #[] cap.toArray] (TsB T tb cb mm es cl ρ ++ G) post := by
  cases hr : T.runs id with
  | none =>
    obtain ⟨L', G', hp, hq⟩ := hno hr
    refine tri_drop ((tri_frame G (run_no h tb cb mm id _ hr)).mono ?_)
    rintro v L ⟨M, ⟨rfl, rfl⟩, rfl⟩
    exact ⟨L', G', hp, hq⟩
  | some t =>
    have hf : findT T.l id = some t ∧ t.prepared = false := by
      unfold Ts.runs at hr
      cases hf : findT T.l id with
      | none => rw [hf] at hr; cases hr
      | some u =>
        rw [hf] at hr
        cases hu : u.prepared with
        | true => simp [hu] at hr
        | false => simp [hu] at hr; subst hr; exact ⟨rfl, hu⟩
    obtain ⟨PO, h1, h2, _⟩ := TsB_split (tb := tb) (cb := cb) (mm := mm) (es := es) (cl := cl) (ρ := ρ) h.nd hf.1
    have h3 : (TsB T tb cb mm es cl ρ).Perm (hdr T tb cb mm :: (mm, .map es cl) :: thdr t (ρ id) :: (cB cb T.c :: ((ρ id).SB ++ ((ρ id).LB ++ ((ρ id).GB ++ PO))))) := by
      refine h1.trans ?_
      unfold tblks
      simp only [List.append_assoc, List.cons_append, List.nil_append]
      exact Sel.perm0 (by (exact sel_))
    refine tri_perm' (tri_perm (h3.append_right G) ?_)
    simp only [List.append_assoc, List.cons_append, List.nil_append]
    exact run_yes h tb cb mm hf.1 hf.2 he (hyes t PO hr hf.1 h2 h3)
/-- 'run' with a closure g: what it leaves -/
theorem run_tri {K : Nat} {T : Ts} {tb cb mm : Nat} {es : Array MapEntry} {cl : Nat} {ρ : Int → TM} (h : TsOk K T es cl ρ) (id : Int) {g : FuncId} {cap : List Value} (he : Enters Try.prog g) (G : List Blk) {post : Value → List Blk → Prop}
    (hno : T.runs id = none → post (.int .i64 41) (TsB T tb cb mm es cl ρ))
    (hyes : ∀ t PO, T.runs id = some t → findT T.l id = some t → (∀ f m c, (f t).id = id → (hdr T tb cb mm :: (mm, .map es cl) :: cB cb c :: (tblks (f t) m ++ PO)).Perm (TsB { T.upd id f with c := c } tb cb mm es cl (setρ ρ id m))) →
      (TsB T tb cb mm es cl ρ).Perm (hdr T tb cb mm :: (mm, .map es cl) :: thdr t (ρ id) :: (cB cb T.c :: ((ρ id).SB ++ ((ρ id).LB ++ ((ρ id).GB ++ PO))))) →
      Tri Try.prog g (tP (ρ id).b :: cap).toArray (hdr T tb cb mm :: (mm, .map es cl) :: thdr t (ρ id) :: (cB cb T.c :: ((ρ id).SB ++ ((ρ id).LB ++ ((ρ id).GB ++ (PO ++ G)))))) fun v L => ∃ L', L.Perm L' ∧ post v L') :
    Tri Try.prog 45 #[tP tb, .int .i64 id, .func (.func g) #[] cap.toArray] (TsB T tb cb mm es cl ρ ++ G) post :=
  run_triG h id he G (fun hr => ⟨_, _, .refl _, hno hr⟩) hyes
end Go.Proofs.Ytfkpjnomfmjplaa
namespace Go.Proofs.Ytfkpjnomfmjplaa
open Go.Sym
theorem fail_tri {K : Nat} {T : Ts} {tb : Nat} {L : List Blk} (h : TsIn K T tb L) (id : Int) (b : Bool) : Tri Try.prog 29 #[tP tb, .int .i64 id, .bool b] L fun v L' => v = .tuple #[] ∧ TsIn K (T.fail id b) tb L' := by
  obtain ⟨cb, mm, es, cl, ρ, rfl, hI⟩ := h
  have c1 : ∀ bx, Tri Try.prog 45 #[tP tb, .int .i64 id, .func (.func 61) #[] [tP bx].toArray] (TsB T tb cb mm es cl ρ ++ [(bx, .cells [.bool b].toArray 4)]) fun v L' => TsIn K (T.fail id b) tb L' := by
    intro bx
    refine run_tri hI id en61 _ (fun hr => ?_) (fun t PO hr hf hup _ => ?_)
    · have e : T.fail id b = T := by unfold Ts.fail; rw [hr]
      rw [e]
      exact ⟨cb, mm, es, cl, ρ, rfl, hI⟩
    · have f_mixed := mixed; have f_fo80_4 := fo80_4; have f_ty4 := ty4
      have e : T.fail id b = { T.upd id (fun t => { t with failed := b }) with c := T.c } := by unfold Ts.fail; rw [hr]; rfl
      have hid := (findT_some hf).2
      have htx := hI.tx t (findT_some hf).1
      rw [hid] at htx
      have hok := hI.set (K' := K) hf (f := fun t => { t with failed := b }) (fun _ => rfl) (m := ρ id) rfl ⟨htx.sn, htx.lv, htx.go⟩ (Nat.le_refl _) (hI.gone t (findT_some hf).1) hI.ck
      have hp := hup (fun t => { t with failed := b }) (ρ id) T.c hid
      rw [← e] at hp hok
      unfold tblks at hp
      simp only [List.append_assoc, List.cons_append, List.nil_append] at hp
      refine tri_intro (args := [_, _]) Try.func61 rfl Try.ntmps61 rfl (rs := _) rfl rfl fun E R => ?_
      simp only [fr, List.cons_append, List.nil_append]
      simp only [List.append_assoc, List.cons_append, List.nil_append]
      (refine sr_ ?_; (refine ac_ ?_); refine sn_ ?_; refine sr_ ?_; (refine mv_ ?_); (refine se_ (ex_load1 ev_ asm_ mem_ nth_) ?_); (refine se_ (ex_nilCheck ev_) ?_); (refine se_ (ex_fieldAddr ev_ asm_) ?_); (apply so_store; (exact ev_); (exact ev_); assumption; exact rfl; exact rfl; exact rfl; (focus (repeat (first | exact Turn.here | apply Turn.there | apply Turn.pre))); (focus (repeat (first | exact SetSub.nil | apply SetSub.take | apply SetSub.drop)))); refine sn_ ?_; refine sr_ ?_; (refine ac_ ?_); refine sn_ ?_; (apply sc_ret); (apply ret_ok; (focus ((apply Res.tmp; (exact ev_)); exact Res.nil)); (exact ⟨_, hp, ⟨cb, mm, es, cl, _, rfl, hok⟩⟩); (exact sel_); (exact appb_)))
  have f_mixed := mixed; have f_en45 := en45; have f_en61 := en61; have f_ty4 := ty4
  refine tri_intro (args := [_, _, _]) Try.func29 rfl Try.ntmps29 rfl (rs := []) rfl rfl fun E R => ?_
  simp only [fr, List.cons_append, List.nil_append]
  (refine sr_ ?_; (apply so_box; (exact ev_); exact rfl; exact rfl; intro _); refine sn_ ?_; (apply sc_region); (refine mv_ ?_); (refine mv_ ?_); (apply so_ex; (apply ex_makeFunc; ((focus ((apply EvL.cons; (exact ev_)); exact EvL.nil)))); exact rfl))
  rename_i bx
  have c2 := c1 bx
  (apply so_call; (exact Ev.func); (focus ((apply EvL.cons; (exact ev_)); (apply EvL.cons; (exact ev_)); (apply EvL.cons; (exact ev_)); exact EvL.nil)); (focus (repeat (first | exact App.nil | apply App.cons))); assumption; (exact c2); (exact sel_); exact rfl)
  intro v L hL
  ((apply so_nil); (apply ret_ok'; (focus (exact Res.nil)); (exact ⟨rfl, hL⟩); (exact sel_); (exact appb_)))
end Go.Proofs.Ytfkpjnomfmjplaa
namespace Go.Proofs.Ytfkpjnomfmjplaa
open Go.Sym
theorem LvIn.of_row {l : List (ByteArray × Int)} {p : Option Addr} {n cap : Nat} {H : List Blk} (hne : l ≠ []) (hle : l.length ≤ 9) (hn : n = l.length) {xs : List Value} (hx : xs = lcells l) (h : Row 91 2 (.slice p n cap) xs H) : LvIn l (.slice p n cap) H := by
  cases h with
  | nil =>
    have := lcells_len l
    rw [← hx] at this
    simp at this
    exact absurd (List.eq_nil_of_length_eq_zero (by omega)) hne
  | row h1 h2 =>
    subst hx hn
    exact ⟨hne, hle, _, _, _, rfl, h2, rfl⟩
/-- Save carries it out -/
def SaveOk (T : Ts) (id : Int) : Prop := ∃ t, T.runs id = some t ∧ t.failed = false ∧ t.lvs.length ≤ 8
theorem save_tri {K : Nat} {T : Ts} {tb : Nat} {L : List Blk} (h : TsIn K T tb L) (id : Int) (s : ByteArray) : Tri Try.prog 15 #[tP tb, .int .i64 id, .string s] L fun v L' => (∃ e, v = .int .i64 e ∧ (SaveOk T id → e = 0)) ∧ TsIn K (T.save id s) tb L' := by
  obtain ⟨cb, mm, es, cl, ρ, rfl, hI⟩ := h
  have c1 : ∀ bx, Tri Try.prog 45 #[tP tb, .int .i64 id, .func (.func 46) #[] [tP bx].toArray] (TsB T tb cb mm es cl ρ ++ [(bx, .cells [.string s].toArray 9)]) fun v L' => (∃ e, v = .int .i64 e ∧ (SaveOk T id → e = 0)) ∧ TsIn K (T.save id s) tb L' := by
    intro bx
    refine run_tri hI id en46 _ (fun hr => ?_) (fun t PO hr hf hup hdn => ?_)
    · have e : T.save id s = T := by unfold Ts.save; rw [hr]
      rw [e]
      exact ⟨⟨_, rfl, fun ⟨_, h, _⟩ => by rw [hr] at h; cases h⟩, cb, mm, es, cl, ρ, rfl, hI⟩
    · have f_mixed := mixed; have f_by91 := by91; have f_fo80_2 := fo80_2; have f_fo80_4 := fo80_4; have f_pl91_0 := pl91_0; have f_st91 := st91; have f_ty4 := ty4; have f_ty77 := ty77; have f_ty9 := ty9; have f_ty91 := ty91; have f_un_77 : Und Try.prog 77 _ := ⟨Try.underlying77⟩; have f_zero91 := zero91; have f_zv91 := zv91
      have hid := (findT_some hf).2
      have htx := hI.tx t (findT_some hf).1
      rw [hid] at htx
      by_cases hc : t.failed = true ∨ 8 < t.lvs.length
      · have e : T.save id s = T := by unfold Ts.save; rw [hr]; dsimp only; rw [if_pos hc]
        rw [e]
        have hno : ∀ e : Int, SaveOk T id → e = 0 := fun e ⟨t', h, h1, h2⟩ => by
          rw [hr] at h; cases h
          rcases hc with h | h
          · rw [h1] at h; cases h
          · omega
        have hlv := htx.lv
        generalize hm : ρ id = m at *
        obtain ⟨b, sp, SB, lv, LB, gv, GB⟩ := m
        obtain ⟨hne, hle, lb, cap, junk, hlv1, hj, hLB⟩ := hlv
        subst hlv1
        unfold thdr
        refine tri_intro (args := [_, _]) Try.func46 rfl Try.ntmps46 rfl (rs := _) rfl rfl fun E R => ?_
        simp only [fr, List.cons_append, List.nil_append]
        simp only [List.append_assoc, List.cons_append, List.nil_append]
        cases hfl : t.failed with
        | true =>
          unfold thdr at hdn
          rw [hfl] at hdn
          (refine sr_ ?_; (refine ac_ ?_); refine sn_ ?_; (apply sc_seq); (apply sc_block); refine sr_ ?_; (refine mv_ ?_); (refine se_ (ex_nilCheck ev_) ?_); (refine se_ (ex_fieldAddr ev_ asm_) ?_); (refine se_ (ex_load1 ev_ asm_ mem_ nth_) ?_); (refine asg_ ?_); refine sn_ ?_; (refine ct_ ?_); refine sr_ ?_; (refine ac_ ?_); refine sn_ ?_; (apply sc_ret); (apply rt_block); (apply rt_then); (apply ret_ok; (focus ((apply Res.tmp; (exact ev_)); exact Res.nil)); (exact ⟨_, hdn.symm, ⟨_, rfl, hno _⟩, ⟨cb, mm, es, cl, _, rfl, hI⟩⟩); (exact sel_); (exact appb_)))
        | false =>
          unfold thdr at hdn
          rw [hfl] at hdn
          have h8 : (t.lvs.length : Int) > 8 := by rw [hfl] at hc; rcases hc with h | h; exact absurd h (by simp); omega
          (refine sr_ ?_; (refine ac_ ?_); refine sn_ ?_; (apply sc_seq); (apply sc_block); refine sr_ ?_; (refine mv_ ?_); (refine se_ (ex_nilCheck ev_) ?_); (refine se_ (ex_fieldAddr ev_ asm_) ?_); (refine se_ (ex_load1 ev_ asm_ mem_ nth_) ?_); (refine asg_ ?_); refine sn_ ?_; (refine cf_ ?_); refine sr_ ?_; (refine mv_ ?_); (refine se_ (ex_nilCheck ev_) ?_); (refine se_ (ex_fieldAddr ev_ asm_) ?_); (refine se_ (ex_load1 ev_ asm_ mem_ nth_) ?_); (refine se_ (ex_len_slice ev_ asm_) ?_); (refine se_ (ex_gtr_t ev_ .const om_) ?_); (refine asg_ ?_); refine sn_ ?_; (refine ct_ ?_); refine sr_ ?_; (refine ac_ ?_); refine sn_ ?_; (apply sc_ret); (apply rt_block); (apply rt_then); (apply ret_ok; (focus ((apply Res.tmp; (exact ev_)); exact Res.nil)); (exact ⟨_, hdn.symm, ⟨_, rfl, hno _⟩, ⟨cb, mm, es, cl, _, rfl, hI⟩⟩); (exact sel_); (exact appb_)))
      · have e : T.save id s = { T.upd id (fun t => { t with lvs := t.lvs ++ [(s, 0)] }) with c := T.c } := by unfold Ts.save; rw [hr]; dsimp only; rw [if_neg hc]; rfl
        rw [not_or] at hc
        obtain ⟨hfl, h8⟩ := hc
        rw [Bool.not_eq_true] at hfl
        have n8 : ¬ (t.lvs.length : Int) > 8 := by omega
        obtain ⟨hne, hle, lb, cap, junk, hlv1, hj, hLB⟩ := htx.lv
        have hok : ∀ lv' LB', LvIn (t.lvs ++ [(s, 0)]) lv' LB' → _ := fun lv' LB' hlv' => hI.set (K' := K) hf (f := fun t => { t with lvs := t.lvs ++ [(s, 0)] }) (fun _ => rfl) (m := { ρ id with lv := lv', LB := LB' }) rfl ⟨htx.sn, hlv', htx.go⟩ (Nat.le_refl _) (hI.gone t (findT_some hf).1) hI.ck
        have hp := fun lv' LB' => hup (fun t => { t with lvs := t.lvs ++ [(s, 0)] }) { ρ id with lv := lv', LB := LB' } T.c hid
        rw [← e] at hp hok
        unfold tblks at hp
        simp only [List.append_assoc, List.cons_append, List.nil_append] at hp
        generalize hm : ρ id = m at *
        obtain ⟨b, sp, SB, lv, LB, gv, GB⟩ := m
        obtain ⟨tid, mode, snap, lvs, gone, failed, prep, nm⟩ := t
        dsimp only at *
        subst hlv1 hLB hfl
        unfold thdr at *
        have hll := lcells_len lvs
        have hbb : (lvs.length + 1) * 24 ≤ 140737488355328 := by omega
        have hbb2 : lvs.length + 1 ≤ 9223372036854775807 := by omega
        refine tri_intro (args := [_, _]) Try.func46 rfl Try.ntmps46 rfl (rs := _) rfl rfl fun E R => ?_
        simp only [fr, List.cons_append, List.nil_append]
        simp only [List.append_assoc, List.cons_append, List.nil_append]
        ((apply sc_seq); ((fail_if_success (apply sc_region (id := 5))); apply sc_region); (refine ac_ ?_); refine sn_ ?_; (apply sc_seq); (apply sc_block); (apply sc_seq); ((fail_if_success (apply sc_region (id := 5))); apply sc_region); (refine mv_ ?_); (refine se_ (ex_nilCheck ev_) ?_); (refine se_ (ex_fieldAddr ev_ asm_) ?_); (refine se_ (ex_load1 ev_ asm_ mem_ nth_) ?_); (refine asg_ ?_); refine sn_ ?_; (refine cf_ ?_); (apply sc_seq); ((fail_if_success (apply sc_region (id := 5))); apply sc_region); (refine mv_ ?_); (refine se_ (ex_nilCheck ev_) ?_); (refine se_ (ex_fieldAddr ev_ asm_) ?_); (refine se_ (ex_load1 ev_ asm_ mem_ nth_) ?_); (refine se_ (ex_len_slice ev_ asm_) ?_); (refine se_ (ex_gtr_f ev_ .const om_) ?_); (refine asg_ ?_); refine sn_ ?_; (refine cf_ ?_); (apply sc_skip); (apply nm_block); (apply nm_then); (apply sc_seq))
        refine SC.mono (Q := fun u f L => u = .normal ∧ ∃ p' cap' H', Row 91 2 (.slice p' (lvs.length + 1) cap') (lcells lvs ++ [Value.string s, .int .i64 0]) H' ∧ Held L (H' ++ (hdr T tb cb mm :: (mm, .map es cl) :: (b, .cells [Value.int .i64 mode, sp, .slice p' (lvs.length + 1) cap', gv, .bool false, .bool prep, .string nm].toArray 80) :: cB cb T.c :: (SB ++ (GB ++ PO)))) R) ?_ ?_
        · ((apply sc_any (id := 5) (vol := [(b, Obj.cells [Value.int .i64 mode, sp, .slice (some ⟨lb, 0, none⟩) lvs.length cap, gv, .bool false, .bool prep, .string nm].toArray 80), (lb, .cells (lcells lvs ++ junk).toArray 91)]); assumption; (exact sel_); exact rfl; exact rfl; (apply sa_take (i := 0); kernel_rfl; exact rfl; kernel_rfl; kernel_rfl; exact rfl; exact rfl; (exact sel_); (apply qo_ex; (apply ex_move; (exact ev_))); apply sa_take (i := 1); kernel_rfl; exact rfl; kernel_rfl; kernel_rfl; exact rfl; exact rfl; (exact sel_); (apply qo_ex; (apply ex_move; (exact ev_))); apply sa_take (i := 2); kernel_rfl; exact rfl; kernel_rfl; kernel_rfl; exact rfl; exact rfl; (exact sel_); (apply qo_ex; (apply ex_nilCheck; (exact ev_))); apply sa_take (i := 3); kernel_rfl; exact rfl; kernel_rfl; kernel_rfl; exact rfl; exact rfl; (exact sel_); (apply qo_ex; (apply ex_fieldAddr; (exact ev_); assumption)); apply sa_take (i := 5); kernel_rfl; exact rfl; kernel_rfl; kernel_rfl; exact rfl; exact rfl; (exact sel_); (apply qo_ex; (apply ex_load1; (exact ev_); assumption; (exact mem_); (exact nth_))); apply sa_take (i := 6); kernel_rfl; exact rfl; kernel_rfl; kernel_rfl; exact rfl; exact rfl; (exact sel_); (apply qo_ex; (apply ex_build; ((focus ((apply EvP.cons; (exact ev_)); exact EvP.nil))); assumption; ((focus (repeat (first | exact Bld.nil (by assumption) | (apply Bld.cons; assumption; exact rfl; exact rfl; (focus (repeat (first | exact SetSub.nil | apply SetSub.take | apply SetSub.drop)))))))))); apply sa_two (i := 4) (j := 7); exact rfl; exact rfl; kernel_rfl; exact rfl; exact rfl; rotate_left 1; ((((apply so_buildS; (focus ((apply EvP.cons; (exact ev_)); exact EvP.nil)); assumption; assumption; assumption; (focus (repeat (first | exact SeqP.nil | (apply SeqP.cons; exact rfl; exact rfl) | exact App.nil | apply App.cons))); exact rfl; exact rfl; exact rfl; intro _)))); apply sa_next; (exact sel_); (apply sa_one (i := 4); exact rfl; kernel_rfl; exact rfl; (((refine se_ (ex_load1 ev_ asm_ mem_ nth_) ?_))); apply sa_next; (exact sel_); apply sa_one (i := 8); exact rfl; kernel_rfl; exact rfl; (((apply so_appR (et := 91) (s := 2) (ys := [Value.string s, .int .i64 0]); (exact ev_); (exact ev_); exact (Row.row hll hj); (exact sel_); (exact mem_); exact rfl; exact (fun j hj => by rw [Nat.zero_add]); assumption; assumption; assumption; exact rfl; assumption; exact hbb; exact hbb2; exact rfl; exact rfl; exact rfl; intro p' cap' H' hrow'))); apply sa_next; (exact sel_); apply sa_take (i := 9); kernel_rfl; exact rfl; kernel_rfl; kernel_rfl; exact rfl; exact rfl; (exact sel_); (apply qo_ex; (apply ex_nilCheck; (exact ev_))); apply sa_take (i := 10); kernel_rfl; exact rfl; kernel_rfl; kernel_rfl; exact rfl; exact rfl; (exact sel_); (apply qo_ex; (apply ex_fieldAddr; (exact ev_); assumption)); apply sa_one (i := 11); exact rfl; kernel_rfl; exact rfl; (((apply so_store; (exact ev_); (exact ev_); assumption; exact rfl; exact rfl; exact rfl; (focus (repeat (first | exact Turn.here | apply Turn.there | apply Turn.pre))); (focus (repeat (first | exact SetSub.nil | apply SetSub.take | apply SetSub.drop)))))); apply sa_next; (exact sel_); (apply sa_done; kernel_rfl)); rotate_right 1; ((((refine se_ (ex_load1 ev_ asm_ mem_ nth_) ?_)))); apply sa_next; (exact sel_); (apply sa_one (i := 7); exact rfl; kernel_rfl; exact rfl; (((apply so_buildS; (focus ((apply EvP.cons; (exact ev_)); exact EvP.nil)); assumption; assumption; assumption; (focus (repeat (first | exact SeqP.nil | (apply SeqP.cons; exact rfl; exact rfl) | exact App.nil | apply App.cons))); exact rfl; exact rfl; exact rfl; intro _))); apply sa_next; (exact sel_); apply sa_one (i := 8); exact rfl; kernel_rfl; exact rfl; (((apply so_appR (et := 91) (s := 2) (ys := [Value.string s, .int .i64 0]); (exact ev_); (exact ev_); exact (Row.row hll hj); (exact sel_); (exact mem_); exact rfl; exact (fun j hj => by rw [Nat.zero_add]); assumption; assumption; assumption; exact rfl; assumption; exact hbb; exact hbb2; exact rfl; exact rfl; exact rfl; intro p' cap' H' hrow'))); apply sa_next; (exact sel_); apply sa_take (i := 9); kernel_rfl; exact rfl; kernel_rfl; kernel_rfl; exact rfl; exact rfl; (exact sel_); (apply qo_ex; (apply ex_nilCheck; (exact ev_))); apply sa_take (i := 10); kernel_rfl; exact rfl; kernel_rfl; kernel_rfl; exact rfl; exact rfl; (exact sel_); (apply qo_ex; (apply ex_fieldAddr; (exact ev_); assumption)); apply sa_one (i := 11); exact rfl; kernel_rfl; exact rfl; (((apply so_store; (exact ev_); (exact ev_); assumption; exact rfl; exact rfl; exact rfl; (focus (repeat (first | exact Turn.here | apply Turn.there | apply Turn.pre))); (focus (repeat (first | exact SetSub.nil | apply SetSub.take | apply SetSub.drop)))))); apply sa_next; (exact sel_); (apply sa_done; kernel_rfl)))); (apply And.intro rfl; exact ⟨_, _, _, hrow', held_⟩); (apply And.intro rfl; exact ⟨_, _, _, hrow', held_⟩))
        rintro u f L ⟨rfl, p', cap', H', hrow', ⟨G, hG⟩⟩
        apply nm_then
        refine sc_perm hG ?_
        have hlv' := LvIn.of_row (l := lvs ++ [(s, 0)]) (by simp) (by simp; omega) (by simp) (by rw [lcells_app]; rfl) hrow'
        have hp' := hp (.slice p' (lvs.length + 1) cap') H'
        dsimp only at hp'
        have hok' := hok _ _ hlv'
        simp only [List.append_assoc, List.cons_append, List.nil_append]
        (refine sr_ ?_; (refine ac_ ?_); refine sn_ ?_; (apply sc_ret); (apply ret_ok; (focus ((apply Res.tmp; (exact ev_)); exact Res.nil)); (exact ⟨_, hp', ⟨_, rfl, fun _ => rfl⟩, ⟨cb, mm, es, cl, _, rfl, hok'⟩⟩); (exact sel_); (exact appb_)))
  have f_mixed := mixed; have f_en45 := en45; have f_en46 := en46; have f_ty9 := ty9
  refine tri_intro (args := [_, _, _]) Try.func15 rfl Try.ntmps15 rfl (rs := _) rfl rfl fun E R => ?_
  simp only [fr, List.cons_append, List.nil_append]
  (refine sr_ ?_; (apply so_box; (exact ev_); exact rfl; exact rfl; intro _); (refine ac_ ?_); refine sn_ ?_; refine sr_ ?_; (refine mv_ ?_); (refine mv_ ?_); (apply so_ex; (apply ex_makeFunc; ((focus ((apply EvL.cons; (exact ev_)); exact EvL.nil)))); exact rfl))
  rename_i bx
  have c2 := c1 bx
  (apply so_call; (exact Ev.func); (focus ((apply EvL.cons; (exact ev_)); (apply EvL.cons; (exact ev_)); (apply EvL.cons; (exact ev_)); exact EvL.nil)); (focus (repeat (first | exact App.nil | apply App.cons))); assumption; (exact c2); (exact sel_); exact rfl)
  rintro v L ⟨⟨e, rfl, he⟩, hL⟩
  ((refine asg_ ?_); refine sn_ ?_; (apply sc_ret); (apply ret_ok; (focus ((apply Res.tmp; (exact ev_)); exact Res.nil)); (exact ⟨⟨_, rfl, he⟩, hL⟩); (exact sel_); (exact appb_)))
end Go.Proofs.Ytfkpjnomfmjplaa
namespace Go.Sym
open Go
theorem made_eq (zl : List Value) (s : Nat) (hs : zl.length = s) : ∀ c : Nat, (List.range (c * s)).map (fun i => zl.toArray[i % zl.toArray.size]!) = (List.replicate c zl).flatten
  | 0 => by simp
  | c + 1 => by
    have e1 : (c + 1) * s = s + c * s := by rw [Nat.succ_mul, Nat.add_comm]
    rw [e1, List.range_add, List.map_append, List.map_map, List.replicate_succ, List.flatten_cons]
    congr 1
    · apply List.ext_getElem
      · simp [hs]
      · intro i h1 h2
        simp only [List.getElem_map, List.getElem_range]
        have h3 : i % zl.toArray.size = i := Nat.mod_eq_of_lt (by simpa using h2)
        rw [h3]
        simp [h2]
    · rw [← made_eq zl s hs c]
      apply List.map_congr_left
      intro i _
      show zl.toArray[(s + i) % zl.toArray.size]! = _
      have h3 : (s + i) % zl.toArray.size = i % zl.toArray.size := by
        have : zl.toArray.size = s := by simpa using hs
        rw [this, Nat.add_mod_left]
      rw [h3]
theorem so_makeN {P : Program} {E : Env} {n : Nat} {Q : SPost} {f : Nat → Value} {L : List Blk} {ty : TypeId} {pos : String} {after : Array Edge} {d : Nat} {ops rest : List Oper} {t et : TypeId} {x y : Operand} {N s by_ : Nat} {ag : Bool} {zl : List Value} (hx : Ev f x (.int .i64 (N : Int))) (hy : Ev f y (.int .i64 (N : Int))) (ht : Und P t (.slice et)) (hT : tyOf P et = some (ag, s)) (hby : bytesT P et = some by_) (hz : zeroOf P et = some zl) (hzl : zl.length = s) (hb : by_ * N ≤ 1000000) (hN : N ≤ 1000000) (hd : Nat.blt d n = true)
    (h : ∀ b, SO P E n ops Q rest (upd f d (.slice (some ⟨b, 0, none⟩) N N)) ((b, .cells (List.replicate N zl).flatten.toArray et) :: L)) : SO P E n ops Q (⟨some d, .makeSlice t x y, ty, pos, after, none⟩ :: rest) f L := by
  refine so_makeSlice hx hy (fun w => ?_) hd h
  obtain ⟨i, hi, hib⟩ := run_bytesT hby
  have his : i.size = s := by
    have h1 := run_sizeT (P := P) (w := w) hT
    simp [sizeOf, run_info hi] at h1
    exact h1
  obtain ⟨zo, hzo, hzc⟩ : ∃ zv, i.zero = some zv ∧ zv.cells = zl.toArray := by
    unfold zeroOf at hz
    cases hzz : i.zero with
    | none => simp [hi, hzz] at hz
    | some zv => simp [hi, hzz] at hz; exact ⟨zv, rfl, by rw [← hz]⟩
  have hb' : (i.bytes : Int) * (N : Int) ≤ 281474976710656 := by
    have h : ((by_ * N : Nat) : Int) ≤ 281474976710656 := by omega
    rw [hib]; rwa [Int.natCast_mul] at h
  have hr := run_make (P := P) w t et i zo ht.eq hi hzo .i64 .i64 N N (by omega) (by omega) hb' (by omega)
  simp only [Int.toNat_natCast] at hr
  have hm : madeCells zo.cells (N * i.size) = (List.replicate N zl).flatten.toArray := by
    rw [hzc, his]
    apply Array.ext'
    rw [← made_eq zl s hzl N]
    simp [madeCells]
  rw [hm] at hr
  exact hr
end Go.Sym
namespace Go.Proofs.Ytfkpjnomfmjplaa
open Go.Sym
theorem right_tri (m : Int) : TriQ Try.prog 39 #[.int .i64 m] [] (.bool (rightR m)) := by
  have f_mixed := mixed; 
  unfold rightR
  refine tri_intro (args := [_]) Try.func39 rfl Try.ntmps39 rfl (rs := _) rfl rfl fun E R => ?_
  simp only [fr, List.cons_append, List.nil_append]
  by_cases h0 : m ≥ 0
  · rw [decide_eq_true (show 0 ≤ m from h0)]
    by_cases h1 : m ≤ 15
    · rw [decide_eq_true h1]
      by_cases h2 : bitsZ .and .i64 m 3 = 3
      · rw [decide_eq_true h2]
        (refine sr_ ?_; (refine ac_ ?_); refine sn_ ?_; refine sr_ ?_; (refine mv_ ?_); (refine se_ (ex_geq_t ev_ .const om_) ?_); (refine mv_ ?_); (refine wt_ ?_); (refine mv_ ?_); (refine wt_ ?_); (refine se_ (ex_leq_t ev_ .const om_) ?_); (refine se_ (ex_pick_t ev_ ev_) ?_); (refine mv_ ?_); (refine wt_ ?_); (refine mv_ ?_); (refine wt_ ?_); (apply so_ex; (apply ex_and; (exact ev_); ((exact Ev.const)); (first | assumption | exact rfl)); exact rfl); (refine wt_ ?_); (refine se_ (ex_neq_f ev_ .const om_) ?_); (refine se_ (ex_pick_t ev_ ev_) ?_); (refine asg_ ?_); refine sn_ ?_; (apply sc_ret); (apply ret_ok; (focus ((apply Res.tmp; (exact ev_)); exact Res.nil)); (exact ⟨rfl, rfl⟩); (exact sel_); (exact appb_)))
      · rw [decide_eq_false h2]
        (refine sr_ ?_; (refine ac_ ?_); refine sn_ ?_; refine sr_ ?_; (refine mv_ ?_); (refine se_ (ex_geq_t ev_ .const om_) ?_); (refine mv_ ?_); (refine wt_ ?_); (refine mv_ ?_); (refine wt_ ?_); (refine se_ (ex_leq_t ev_ .const om_) ?_); (refine se_ (ex_pick_t ev_ ev_) ?_); (refine mv_ ?_); (refine wt_ ?_); (refine mv_ ?_); (refine wt_ ?_); (apply so_ex; (apply ex_and; (exact ev_); ((exact Ev.const)); (first | assumption | exact rfl)); exact rfl); (refine wt_ ?_); (refine se_ (ex_neq_t ev_ .const om_) ?_); (refine se_ (ex_pick_t ev_ ev_) ?_); (refine asg_ ?_); refine sn_ ?_; (apply sc_ret); (apply ret_ok; (focus ((apply Res.tmp; (exact ev_)); exact Res.nil)); (exact ⟨rfl, rfl⟩); (exact sel_); (exact appb_)))
    · rw [decide_eq_false h1]
      (refine sr_ ?_; (refine ac_ ?_); refine sn_ ?_; refine sr_ ?_; (refine mv_ ?_); (refine se_ (ex_geq_t ev_ .const om_) ?_); (refine mv_ ?_); (refine wt_ ?_); (refine mv_ ?_); (refine wt_ ?_); (refine se_ (ex_leq_f ev_ .const om_) ?_); (refine se_ (ex_pick_t ev_ ev_) ?_); (refine mv_ ?_); (refine sk_ ?_); (refine sk_ ?_); (refine sk_ ?_); (refine se_ (ex_pick_f ev_ .const) ?_); (refine asg_ ?_); refine sn_ ?_; (apply sc_ret); (apply ret_ok; (focus ((apply Res.tmp; (exact ev_)); exact Res.nil)); (exact ⟨rfl, rfl⟩); (exact sel_); (exact appb_)))
  · rw [decide_eq_false (show ¬ 0 ≤ m from h0)]
    (refine sr_ ?_; (refine ac_ ?_); refine sn_ ?_; refine sr_ ?_; (refine mv_ ?_); (refine se_ (ex_geq_f ev_ .const om_) ?_); (refine mv_ ?_); (refine sk_ ?_); (refine sk_ ?_); (refine se_ (ex_pick_f ev_ .const) ?_); (refine mv_ ?_); (refine sk_ ?_); (refine sk_ ?_); (refine sk_ ?_); (refine se_ (ex_pick_f ev_ .const) ?_); (refine asg_ ?_); refine sn_ ?_; (apply sc_ret); (apply ret_ok; (focus ((apply Res.tmp; (exact ev_)); exact Res.nil)); (exact ⟨rfl, rfl⟩); (exact sel_); (exact appb_)))
theorem add_tri {K : Nat} {T : Ts} {es : Array MapEntry} {cl : Nat} {ρ : Int → TM} (h : TsOk K T es cl ρ) (hK : K ≤ 1000000) (tb cb mm b : Nat) : Tri Try.prog 40 #[tP tb, tP b] [hdr T tb cb mm, (mm, .map es cl)] fun v L' => v = .int .i64 (T.last + 1) ∧ ∃ es' cl', MapOf (Value.int .i64) (putV (tml ρ T.l) (T.last + 1) (tP b)) es' cl' ∧ L' = [hdr { T with last := T.last + 1 } tb cb mm, (mm, .map es' cl')] := by
  have f_mixed := mixed; have f_fo74_1 := fo74_1; have f_fo74_2 := fo74_2; have f_ty3 := ty3; have f_ty72 := ty72; have f_ty76 := ty76; have f_un_72 : Und Try.prog 72 _ := ⟨Try.underlying72⟩; have f_zero76 := zero76; have f_zv76 := zv76
  have f_kl := KL3
  have hm := h.map
  have hl := h.last
  have f_w : IntKind.i64.wrap (T.last + 1) = T.last + 1 := wrap_in (by unfold InI; omega)
  refine tri_intro (args := [_, _]) Try.func40 rfl Try.ntmps40 rfl (rs := _) rfl rfl fun E R => ?_
  simp only [fr, List.cons_append, List.nil_append]
  (refine sr_ ?_; (refine ac_ ?_); refine sn_ ?_; refine sr_ ?_; (refine mv_ ?_); (refine se_ (ex_nilCheck ev_) ?_); (refine se_ (ex_fieldAddr ev_ asm_) ?_); (refine se_ (ex_load1 ev_ asm_ mem_ nth_) ?_); (refine se_ (ex_add ev_ .const wr_) ?_); (refine se_ (ex_nilCheck ev_) ?_); (refine se_ (ex_fieldAddr ev_ asm_) ?_); (apply so_store; (exact ev_); (exact ev_); assumption; exact rfl; exact rfl; exact rfl; (focus (repeat (first | exact Turn.here | apply Turn.there | apply Turn.pre))); (focus (repeat (first | exact SetSub.nil | apply SetSub.take | apply SetSub.drop)))); refine sn_ ?_; (apply sc_seq); (apply sc_any (id := 2) (vol := [(mm, Obj.map es cl)]); assumption; (exact sel_); exact rfl; exact rfl; (apply sa_take (i := 0); kernel_rfl; exact rfl; kernel_rfl; kernel_rfl; exact rfl; exact rfl; (exact sel_); (apply qo_ex; (apply ex_move; (exact ev_))); apply sa_take (i := 1); kernel_rfl; exact rfl; kernel_rfl; kernel_rfl; exact rfl; exact rfl; (exact sel_); (apply qo_ex; (apply ex_nilCheck; (exact ev_))); apply sa_take (i := 2); kernel_rfl; exact rfl; kernel_rfl; kernel_rfl; exact rfl; exact rfl; (exact sel_); (apply qo_ex; (apply ex_fieldAddr; (exact ev_); assumption)); apply sa_take (i := 3); kernel_rfl; exact rfl; kernel_rfl; kernel_rfl; exact rfl; exact rfl; (exact sel_); (apply qo_ex; (apply ex_load1; (exact ev_); assumption; (exact mem_); (exact nth_))); apply sa_take (i := 4); kernel_rfl; exact rfl; kernel_rfl; kernel_rfl; exact rfl; exact rfl; (exact sel_); (apply qo_ex; (apply ex_move; (exact ev_))); apply sa_take (i := 5); kernel_rfl; exact rfl; kernel_rfl; kernel_rfl; exact rfl; exact rfl; (exact sel_); (apply qo_ex; (apply ex_nilCheck; (exact ev_))); apply sa_take (i := 6); kernel_rfl; exact rfl; kernel_rfl; kernel_rfl; exact rfl; exact rfl; (exact sel_); (apply qo_ex; (apply ex_fieldAddr; (exact ev_); assumption)); apply sa_take (i := 7); kernel_rfl; exact rfl; kernel_rfl; kernel_rfl; exact rfl; exact rfl; (exact sel_); (apply qo_ex; (apply ex_load1; (exact ev_); assumption; (exact mem_); (exact nth_))); apply sa_take (i := 8); kernel_rfl; exact rfl; kernel_rfl; kernel_rfl; exact rfl; exact rfl; (exact sel_); (apply qo_ex; (apply ex_move; (exact ev_))); apply sa_one (i := 9); exact rfl; kernel_rfl; exact rfl; (((apply so_mapUp; (exact ev_); (intro _ _; (focus (repeat (first | exact Turn.here | apply Turn.there | apply Turn.pre)))); assumption; (exact ev_); (first | exact keyEq .. | exact rfl); (exact ev_); assumption; assumption; intro _ _ _))); apply sa_next; (exact sel_); (apply sa_done_then; kernel_rfl))); refine sr_ ?_; (refine mv_ ?_); (refine se_ (ex_nilCheck ev_) ?_); (refine se_ (ex_fieldAddr ev_ asm_) ?_); (refine se_ (ex_load1 ev_ asm_ mem_ nth_) ?_); (refine asg_ ?_); refine sn_ ?_; (apply sc_ret); (apply ret_ok; (focus ((apply Res.tmp; (exact ev_)); exact Res.nil)); (exact ⟨rfl, _, _, by assumption, rfl⟩); (exact sel_); (exact appb_)))
theorem TsOk.add {K : Nat} {T : Ts} {es es' : Array MapEntry} {cl cl' : Nat} {ρ : Int → TM} (h : TsOk K T es cl ρ) {m : TM} {t : Tx} (hM : MapOf (Value.int .i64) (putV (tml ρ T.l) (T.last + 1) (tP m.b)) es' cl') (ht : TxIn t m) (hid : t.id = T.last + 1) (hg : t.gone = []) (hl : T.l.length < 16) {c : Clk} (hc : ClkOk c) :
    TsOk (K + 1) { T.add t with c := c } es' cl' (setρ ρ (T.last + 1) m) ∧ ∀ tb cb mm, TsB { T.add t with c := c } tb cb mm es' cl' (setρ ρ (T.last + 1) m) = hdr { T with last := T.last + 1 } tb cb mm :: (mm, .map es' cl') :: cB cb c :: (PB ρ T.l ++ tblks t m) := by
  have hne : ∀ x ∈ T.l, x.id ≠ T.last + 1 := fun x hx => by have := h.ids x hx; omega
  have hno : hasK (tml ρ T.l) (T.last + 1) = false := by
    unfold hasK tml
    rw [List.any_map, List.any_eq_false]
    intro x hx
    simpa using hne x hx
  have e1 : putV (tml ρ T.l) (T.last + 1) (tP m.b) = tml (setρ ρ (T.last + 1) m) (T.l ++ [t]) := by
    unfold putV
    rw [if_neg (by rw [hno]; simp)]
    unfold tml
    rw [List.map_append]
    congr 1
    · apply List.map_congr_left
      intro x hx; rw [setρ_ne _ _ (hne x hx)]
    · rw [List.map_singleton, hid, setρ_eq]
  have hcase : ∀ x ∈ T.l ++ [t], (x ∈ T.l ∧ x.id ≠ T.last + 1) ∨ x = t := fun x hx => by
    rcases List.mem_append.1 hx with hx | hx
    · exact .inl ⟨hx, hne x hx⟩
    · exact .inr (List.mem_singleton.1 hx)
  have hla := h.last
  refine ⟨⟨e1 ▸ hM, fun x hx => ?_, fun x hx => ?_, ?_, fun x hx => ?_, hc, ?_⟩, fun tb cb mm => ?_⟩
  · rcases hcase x hx with ⟨ha, hb⟩ | rfl
    · rw [setρ_ne _ _ hb]; exact h.tx x ha
    · rw [hid, setρ_eq]; exact ht
  · show 1 ≤ x.id ∧ x.id ≤ T.last + 1
    rcases hcase x hx with ⟨ha, _⟩ | rfl
    · have := h.ids x ha; omega
    · omega
  · show 0 ≤ T.last + 1 ∧ T.last + 1 ≤ ((K + 1 : Nat) : Int)
    omega
  · rcases hcase x hx with ⟨ha, _⟩ | rfl
    · have := h.gone x ha; omega
    · rw [hg]; simp
  · show (T.l ++ [t]).length ≤ 16
    rw [List.length_append, List.length_singleton]; omega
  · unfold TsB
    show _ :: _ :: _ :: PB _ (T.l ++ [t]) = _
    rw [PB_app, PB_congr (ρ' := setρ ρ (T.last + 1) m) (l := T.l) fun x hx => setρ_ne _ _ (hne x hx), PB_cons, hid, setρ_eq]
    simp [PB, Ts.add, hdr]
theorem begin0_tri {K : Nat} {T : Ts} {tb : Nat} {L : List Blk} (h : TsIn K T tb L) (hK : K ≤ 1000000) (m : Int) : Tri Try.prog 11 #[tP tb, .int .i64 m] L fun v L' => (∃ n e, v = .tuple #[.int .i64 n, .int .i64 e] ∧ (rightR m = true → T.l.length < 16 → n = T.last + 1)) ∧ TsIn (K + 1) (T.begin m) tb L' := by
  obtain ⟨cb, mm, es, cl, ρ, rfl, hI⟩ := h
  have f_mixed := mixed; have f_by91 := by91; have f_en39 := en39; have f_en40 := en40; have f_fo74_1 := fo74_1; have f_pl80_0 := pl80_0; have f_pl80_2 := pl80_2; have f_st80 := st80; have f_ty72 := ty72; have f_ty76 := ty76; have f_ty77 := ty77; have f_ty80 := ty80; have f_ty91 := ty91; have f_un_23 : Und Try.prog 23 _ := ⟨Try.underlying23⟩; have f_un_72 : Und Try.prog 72 _ := ⟨Try.underlying72⟩; have f_un_77 : Und Try.prog 77 _ := ⟨Try.underlying77⟩; have f_zero76 := zero76; have f_zero80 := zero80; have f_zero91 := zero91; have f_zv76 := zv76; have f_zv91 := zv91
  have c1 := right_tri m
  have hm := hI.map
  have hml : (tml ρ T.l).length = T.l.length := by unfold tml; rw [List.length_map]
  refine tri_perm' ?_
  by_cases hr : rightR m = true
  · rw [hr] at c1
    by_cases hl : T.l.length < 16
    · have e : T.begin m = { T.add (newTx (T.last + 1) m) with c := T.c } := by unfold Ts.begin; rw [if_pos ⟨hr, hl⟩]; rfl
      have n16 : ¬ ((tml ρ T.l).length : Int) ≥ 16 := by omega
      unfold TsB
      refine tri_intro (args := [_, _]) Try.func11 rfl Try.ntmps11 rfl (rs := _) rfl rfl fun E R => ?_
      simp only [fr, List.cons_append, List.nil_append]
      (refine sr_ ?_; (refine ac_ ?_); (refine ac_ ?_); refine sn_ ?_; (apply sc_seq); (apply sc_block); refine sr_ ?_; (refine mv_ ?_); (refine se_ (ex_eqp_f ev_ .const asm_) ?_); (refine asg_ ?_); refine sn_ ?_; (refine cf_ ?_); refine sr_ ?_; (refine mv_ ?_); (apply so_callq; (exact Ev.func); (focus ((apply EvL.cons; (exact ev_)); exact EvL.nil)); (focus (repeat (first | exact App.nil | apply App.cons))); assumption; exact c1; (exact sel_); exact rfl); (refine se_ (ex_not ev_) ?_); (refine asg_ ?_); refine sn_ ?_; (refine cf_ ?_); refine sr_ ?_; (refine mv_ ?_); (refine se_ (ex_nilCheck ev_) ?_); (refine se_ (ex_fieldAddr ev_ asm_) ?_); (refine se_ (ex_load1 ev_ asm_ mem_ nth_) ?_); (refine se_ (ex_len_map ev_ mem_ asm_ asm_) ?_); (refine se_ (ex_geq_f ev_ .const om_) ?_); (refine asg_ ?_); refine sn_ ?_; (refine cf_ ?_); (apply sc_skip); (apply nm_block); (apply nm_then); refine sr_ ?_; (refine mv_ ?_); (refine mv_ ?_); (apply so_makeN (N := 1); exact Ev.const; exact Ev.const; assumption; assumption; assumption; assumption; exact rfl; decide; decide; exact rfl; intro lb); (apply so_ex; (apply ex_build; ((focus ((apply EvP.cons; (exact ev_)); (apply EvP.cons; (exact ev_)); exact EvP.nil))); assumption; ((focus (repeat (first | exact Bld.nil (by assumption) | (apply Bld.cons; assumption; exact rfl; exact rfl; (focus (repeat (first | exact SetSub.nil | apply SetSub.take | apply SetSub.drop))))))))); exact rfl); (apply so_box; (exact ev_); exact rfl; exact rfl; intro _))
      rename_i b
      have c2 := add_tri hI hK tb cb mm b
      (apply so_call; (exact Ev.func); (focus ((apply EvL.cons; (exact ev_)); (apply EvL.cons; (exact ev_)); exact EvL.nil)); (focus (repeat (first | exact App.nil | apply App.cons))); assumption; (exact c2); (exact sel_); exact rfl)
      rintro v L ⟨rfl, es', cl', hM, rfl⟩
      have hok := hI.add (m := ⟨b, .pointer none, [], .slice (some ⟨lb, 0, none⟩) 1 1, [(lb, .cells [.string ByteArray.empty, .int .i64 0].toArray 91)], .slice none 0 0, []⟩) (t := newTx (T.last + 1) m) hM ⟨⟨rfl, rfl⟩, ⟨by simp [newTx], by simp [newTx], lb, 1, [], rfl, rfl, rfl⟩, .empty⟩ rfl rfl hl hI.ck
      rw [← e] at hok
      have hB := hok.2 tb cb mm
      unfold tblks at hB
      simp only [List.append_assoc, List.cons_append, List.nil_append, List.append_nil] at hB ⊢
      ((refine asg_ ?_); (refine ac_ ?_); refine sn_ ?_; (apply sc_ret); (apply ret_ok; (focus ((apply Res.tmp; (exact ev_)); (apply Res.tmp; (exact ev_)); exact Res.nil)); (exact ⟨_, .of_eq hB.symm, ⟨_, _, rfl, fun _ _ => rfl⟩, ⟨cb, mm, es', cl', _, rfl, hok.1⟩⟩); (exact sel_); (exact appb_)))
    · have e : T.begin m = T := by unfold Ts.begin; rw [if_neg fun h => hl h.2]
      rw [e]
      have n16 : ((tml ρ T.l).length : Int) ≥ 16 := by omega
      unfold TsB
      refine tri_intro (args := [_, _]) Try.func11 rfl Try.ntmps11 rfl (rs := _) rfl rfl fun E R => ?_
      simp only [fr, List.cons_append, List.nil_append]
      (refine sr_ ?_; (refine ac_ ?_); (refine ac_ ?_); refine sn_ ?_; (apply sc_seq); (apply sc_block); refine sr_ ?_; (refine mv_ ?_); (refine se_ (ex_eqp_f ev_ .const asm_) ?_); (refine asg_ ?_); refine sn_ ?_; (refine cf_ ?_); refine sr_ ?_; (refine mv_ ?_); (apply so_callq; (exact Ev.func); (focus ((apply EvL.cons; (exact ev_)); exact EvL.nil)); (focus (repeat (first | exact App.nil | apply App.cons))); assumption; exact c1; (exact sel_); exact rfl); (refine se_ (ex_not ev_) ?_); (refine asg_ ?_); refine sn_ ?_; (refine cf_ ?_); refine sr_ ?_; (refine mv_ ?_); (refine se_ (ex_nilCheck ev_) ?_); (refine se_ (ex_fieldAddr ev_ asm_) ?_); (refine se_ (ex_load1 ev_ asm_ mem_ nth_) ?_); (refine se_ (ex_len_map ev_ mem_ asm_ asm_) ?_); (refine se_ (ex_geq_t ev_ .const om_) ?_); (refine asg_ ?_); refine sn_ ?_; (refine ct_ ?_); refine sr_ ?_; (refine ac_ ?_); (refine ac_ ?_); refine sn_ ?_; (apply sc_ret); (apply rt_block); (apply rt_then); (apply ret_ok; (focus ((apply Res.tmp; (exact ev_)); (apply Res.tmp; (exact ev_)); exact Res.nil)); (exact ⟨_, .refl _, ⟨_, _, rfl, fun _ h => absurd h hl⟩, ⟨cb, mm, es, cl, ρ, rfl, hI.mono (Nat.le_succ _)⟩⟩); (exact sel_); (exact appb_)))
  · have e : T.begin m = T := by unfold Ts.begin; rw [if_neg fun h => hr h.1]
    rw [e]
    rw [Bool.not_eq_true] at hr
    rw [hr] at c1
    refine tri_intro (args := [_, _]) Try.func11 rfl Try.ntmps11 rfl (rs := _) rfl rfl fun E R => ?_
    simp only [fr, List.cons_append, List.nil_append]
    (refine sr_ ?_; (refine ac_ ?_); (refine ac_ ?_); refine sn_ ?_; (apply sc_seq); (apply sc_block); refine sr_ ?_; (refine mv_ ?_); (refine se_ (ex_eqp_f ev_ .const asm_) ?_); (refine asg_ ?_); refine sn_ ?_; (refine cf_ ?_); refine sr_ ?_; (refine mv_ ?_); (apply so_callq; (exact Ev.func); (focus ((apply EvL.cons; (exact ev_)); exact EvL.nil)); (focus (repeat (first | exact App.nil | apply App.cons))); assumption; exact c1; (exact sel_); exact rfl); (refine se_ (ex_not ev_) ?_); (refine asg_ ?_); refine sn_ ?_; (refine ct_ ?_); refine sr_ ?_; (refine ac_ ?_); (refine ac_ ?_); refine sn_ ?_; (apply sc_ret); (apply rt_block); (apply rt_then); (apply ret_ok; (focus ((apply Res.tmp; (exact ev_)); (apply Res.tmp; (exact ev_)); exact Res.nil)); (exact ⟨_, .refl _, ⟨_, _, rfl, fun h => by rw [hr] at h; cases h⟩, ⟨cb, mm, es, cl, ρ, rfl, hI.mono (Nat.le_succ _)⟩⟩); (exact sel_); (exact appb_)))
end Go.Proofs.Ytfkpjnomfmjplaa
namespace Go.Sym
open Go
theorem sc_drop {P : Program} {E : Env} {n : Nat} {c : Code} {Q : SPost} {f : Nat → Value} {L G : List Blk} (h : SC P E n c Q f L) : SC P E n c Q f (L ++ G) := .mk fun a w hr hh => h.out a w hr hh.left
end Go.Sym
namespace Go.Proofs.Ytfkpjnomfmjplaa
open Go.Sym
/-- the levels ls lie in the cells c from o on -/
def LvAt (ls : List (ByteArray × Int)) (c : List Value) (o : Nat) : Prop := ∀ i (h : i < ls.length), c[o + i * 2]? = some (.string ls[i].1) ∧ c[o + i * 2 + 1]? = some (.int .i64 ls[i].2)
theorem lvAt_mk (l : List (ByteArray × Int)) (junk : List Value) : LvAt l (lcells l ++ junk) 0 := fun i h => by rw [Nat.zero_add]; exact lc_get h
theorem lvAt_drop (l : List (ByteArray × Int)) (junk : List Value) (k : Nat) : LvAt (l.drop k) (lcells l ++ junk) (0 + k * 2) := fun i h => by
  rw [List.length_drop] at h
  have := lc_get (l := l) (junk := junk) (i := k + i) (by omega)
  rw [List.getElem_drop, show 0 + k * 2 + i * 2 = (k + i) * 2 by omega]
  exact this
theorem xids_take {ls : List (ByteArray × Int)} {i : Nat} (h : i < ls.length) : xidsOf (ls.take (i + 1)) = xidsOf (ls.take i) ++ if ls[i].2 ≠ 0 then [ls[i].2] else [] := by
  unfold xidsOf
  rw [List.take_succ_eq_append_getElem h, List.map_append, List.filter_append]
  congr 1
  simp only [List.map_cons, List.map_nil, List.filter_cons, List.filter_nil]
  by_cases h0 : ls[i].2 = 0 <;> simp [h0]
theorem xids_app (a b : List (ByteArray × Int)) : xidsOf (a ++ b) = xidsOf a ++ xidsOf b := by
  unfold xidsOf; rw [List.map_append, List.filter_append]
theorem xids_len (l : List (ByteArray × Int)) : (xidsOf l).length ≤ l.length := by
  unfold xidsOf; exact Nat.le_trans (List.length_filter_le _ _) (by rw [List.length_map]; exact Nat.le_refl _)
theorem xids_get {ls : List (ByteArray × Int)} {i : Nat} (h : i < ls.length) (h0 : ls[i].2 ≠ 0) : (xidsOf ls)[(xidsOf (ls.take i)).length]? = some ls[i].2 := by
  have e : xidsOf ls = xidsOf (ls.take (i + 1)) ++ xidsOf (ls.drop (i + 1)) := by rw [← xids_app, List.take_append_drop]
  rw [e, xids_take h, if_pos h0, List.append_assoc, List.getElem?_append_right (Nat.le_refl _)]
  simp
theorem numbers_tri (p : Option Addr) (n cap : Nat) : Tri Try.prog 42 #[.slice p n cap] [] fun v L => ∃ bx, v = .func (.func 69) #[] [tP bx].toArray ∧ L = [(bx, .cells [.slice p n cap].toArray 77)] := by
  have f_mixed := mixed; have f_en69 := en69; have f_ty77 := ty77
  refine tri_intro (args := [_]) Try.func42 rfl Try.ntmps42 rfl (rs := _) rfl rfl fun E R => ?_
  simp only [fr, List.cons_append, List.nil_append]
  (refine sr_ ?_; (apply so_box; (exact ev_); exact rfl; exact rfl; intro _); (refine ac_ ?_); refine sn_ ?_; refine sr_ ?_; (apply so_ex; (apply ex_makeFunc; ((focus ((apply EvL.cons; (exact ev_)); exact EvL.nil)))); exact rfl); (refine asg_ ?_); refine sn_ ?_; (apply sc_ret); (apply ret_ok; (focus ((apply Res.tmp; (exact ev_)); exact Res.nil)); (exact ⟨_, rfl, rfl⟩); (exact sel_); (exact appb_)))
def needN (bx lb o n cap : Nat) (c : List Value) (T : TypeId) (fz : Nat × Nat) (L : List Blk) : Prop := (bx, .cells [.slice (some ⟨lb, o, none⟩) n cap].toArray 77) ∈ L ∧ (lb, .cells c.toArray T fz) ∈ L
set_option maxHeartbeats 4000000 in
theorem nums_gives {bx lb o cap : Nat} {ls : List (ByteArray × Int)} {c : List Value} {T : TypeId} {fz : Nat × Nat} (hc : LvAt ls c o) (hn : ls.length ≤ 100) : Gives Try.prog 69 [tP bx] (needN bx lb o ls.length cap c T fz) ((xidsOf ls).map (Value.int .i64)) := by
  have f_mixed := mixed; have f_by91 := by91; have f_fo91_1 := fo91_1; have f_ty91 := ty91; have f_ty3 := ty3; have f_ty77 := ty77; have f_un_77 : Und Try.prog 77 _ := ⟨Try.underlying77⟩; have f_zero91 := zero91; have f_zv91 := zv91
  refine gives_intro Try.func69 rfl Try.ntmps69 rfl rfl fun E l J Jx hJ hY L h0 => ?_
  obtain ⟨m1, m2⟩ := hJ 0 L h0
  simp only [fr, List.cons_append, List.nil_append]
  (refine sr_ ?_; (refine se_ (ex_load1 ev_ asm_ mem_ nth_) ?_); (refine se_ (ex_len_slice ev_ asm_) ?_); (refine se_ (ex_move .const) ?_); refine sn_ ?_; (apply sc_block))
  refine sc_loop (fun k f L => ∃ (i : Nat), k = ls.length - i ∧ i ≤ ls.length ∧ (∃ L0 G, L.Perm (L0 ++ G) ∧ J (xidsOf (ls.take i)).length L0) ∧ At f 0 (.func (.yield l) #[] #[]) ∧ At f 5 (.slice (some ⟨lb, o, none⟩) ls.length cap) ∧ At f 6 (.int .i64 (ls.length : Int)) ∧ At f 7 (.int .i64 (i : Int)))
    _ ⟨0, rfl, Nat.zero_le _, ⟨L, [], by simp, h0⟩, at_, at_, at_, at_⟩ ?_
  clear m1 m2 h0 L
  rintro k f L1 ⟨i, hk, hi, ⟨L, G, hp, hj⟩, a0, a5, a6, a7⟩
  refine sc_perm hp (sc_drop ?_)
  clear hp
  obtain ⟨m1, m2⟩ := hJ _ L hj
  by_cases hlt : i < ls.length
  · have hlt' : (i : Int) < (ls.length : Int) := by omega
    have e1 : ((i + 1 : Nat) : Int) = (i : Int) + 1 := by omega
    obtain ⟨k0, k1⟩ := hc i hlt
    have htk := xids_take hlt
    have hxg := xids_get hlt
    generalize hls : ls[i] = p at *
    obtain ⟨nm, x⟩ := p
    dsimp only at *
    have hx2 : ∀ j, j < [Value.string nm, .int .i64 x].length → c[o + i * 2 + j]? = [Value.string nm, .int .i64 x][j]? := fun j hj => by
      match j, hj with
      | 0, _ => exact k0
      | 1, _ => exact k1
    by_cases hx : x = 0
    · rw [if_neg (by simp [hx]), List.append_nil] at htk
      have hxn : ¬ x ≠ 0 := fun h => h hx
      (refine sr_ ?_; (refine se_ (ex_lss_t ev_ ev_ om_) ?_); refine sn_ ?_; (apply sc_seq); (refine ct_ ?_); (apply sc_skip); (apply nm_then); (apply sc_seq); (apply sc_block); refine sr_ ?_; (refine se_ (ex_indexAddr ev_ ev_ asm_ asm_ lit_ lt_) ?_); (apply so_ex; (apply ex_loadNr (r := [Value.string nm, .int .i64 x]); (exact ev_); assumption; (exact mem_); exact rfl; exact hx2); exact rfl); (apply so_alloc; assumption; exact rfl; intro _); (apply so_store; (exact ev_); (exact ev_); assumption; exact rfl; exact rfl; exact rfl; (focus (repeat (first | exact Turn.here | apply Turn.there | apply Turn.pre))); (focus (repeat (first | exact SetSub.nil | apply SetSub.take | apply SetSub.drop)))); refine sn_ ?_; refine sr_ ?_; (refine se_ (ex_fieldAddr ev_ asm_) ?_); (refine se_ (ex_load1 ev_ asm_ mem_ nth_) ?_); (refine se_ (ex_neq_f ev_ .const om_) ?_); (refine mv_ ?_); (refine sk_ ?_); (refine sk_ ?_); (refine sk_ ?_); (refine sk_ ?_); (refine sk_ ?_); (refine se_ (ex_pick_f ev_ .const) ?_); refine sn_ ?_; (refine cf_ ?_); (apply sc_skip); (apply nm_block); (apply nm_then); (apply sc_region); (refine se_ (ex_add ev_ .const wr_) ?_); (refine mv_ ?_); (apply so_nil); (apply nm_then))
      exact ⟨ls.length - (i + 1), by omega, i + 1, rfl, by omega, ⟨L, [_], List.perm_append_comm (l₁ := [_]) (l₂ := L), by rw [htk]; exact hj⟩, at_, at_, at_, by rw [e1]; exact at_⟩
    · have hxn : x ≠ 0 := hx
      rw [if_pos hxn] at htk
      ((apply sc_seq); ((fail_if_success (apply sc_region (id := 3))); apply sc_region); (refine se_ (ex_lss_t ev_ ev_ om_) ?_); refine sn_ ?_; (apply sc_seq); (refine ct_ ?_); (apply sc_skip); (apply nm_then); (apply sc_seq); (apply sc_block); (apply sc_seq); ((fail_if_success (apply sc_region (id := 3))); apply sc_region); (refine se_ (ex_indexAddr ev_ ev_ asm_ asm_ lit_ lt_) ?_); (apply so_ex; (apply ex_loadNr (r := [Value.string nm, .int .i64 x]); (exact ev_); assumption; (exact mem_); exact rfl; exact hx2); exact rfl); (apply so_alloc; assumption; exact rfl; intro _); (apply so_store; (exact ev_); (exact ev_); assumption; exact rfl; exact rfl; exact rfl; (focus (repeat (first | exact Turn.here | apply Turn.there | apply Turn.pre))); (focus (repeat (first | exact SetSub.nil | apply SetSub.take | apply SetSub.drop)))); refine sn_ ?_; (apply sc_seq))
      have hxg := hxg hxn
      apply sc_region_y
      apply sy_ex; (apply ex_fieldAddr; (exact ev_); assumption); exact rfl
      apply sy_ex; (apply ex_load1; (exact ev_); assumption; (exact mem_); (exact nth_)); exact rfl
      apply sy_ex; (apply ex_neq_t; (exact ev_); (exact Ev.const); omega); exact rfl
      apply sy_ex; (apply ex_move; (exact ev_)); exact rfl
      apply sy_want; exact rfl; (exact ev_); exact rfl; exact rfl
      apply sy_ex; (apply ex_move; (exact ev_)); exact rfl
      apply sy_want; exact rfl; (exact ev_); exact rfl; exact rfl
      apply sy_ex; (apply ex_fieldAddr; (exact ev_); assumption); exact rfl
      apply sy_want; exact rfl; (exact ev_); exact rfl; exact rfl
      apply sy_ex; (apply ex_load1; (exact ev_); assumption; (exact mem_); (exact nth_)); exact rfl
      apply sy_want; exact rfl; (exact ev_); exact rfl; exact rfl
      apply sy_yield (l := l); (exact ev_); (exact ev_); exact rfl
      intro w hw
      refine (hY _ _ w L (by rw [List.getElem?_map, hxg]; rfl) hj (hw.sub (List.sublist_cons_self _ _))).mono ?_
      rintro e w' (⟨he, L', hj', hp'⟩ | ⟨he, L', hx', hp'⟩)
      · refine ⟨true, L', he, hp', ?_⟩
        apply sy_so; rfl; (repeat (first | exact noOut_ret | exact noOut_retM | exact noOut_rnd | apply noOut_then | apply noOut_block))
        ((refine wt_ ?_); (refine se_ (ex_not ev_) ?_); (refine se_ (ex_pick_t ev_ ev_) ?_); refine sn_ ?_; (refine cf_ ?_); (apply sc_skip); (apply nm_block); (apply nm_then); (apply sc_region); (refine se_ (ex_add ev_ .const wr_) ?_); (refine mv_ ?_); (apply so_nil); (apply nm_then))
        exact ⟨ls.length - (i + 1), by omega, i + 1, rfl, by omega, ⟨L', [], by simp, by rw [htk, List.length_append]; exact hj'⟩, at_, at_, at_, by rw [e1]; exact at_⟩
      · refine ⟨false, L', he, hp', ?_⟩
        apply sy_so; rfl; (repeat (first | exact noOut_ret | exact noOut_retM | exact noOut_rnd | apply noOut_then | apply noOut_block))
        ((refine wt_ ?_); (refine se_ (ex_not ev_) ?_); (refine se_ (ex_pick_t ev_ ev_) ?_); refine sn_ ?_; (refine ct_ ?_); (apply sc_ret); (apply rt_block); (apply rt_then); (apply rt_then); (apply rt_block))
        exact ret_ok (L' := L') (G := []) .nil (.inr hx') (M := []) Sel.self .nil
  · have hlt' : ¬ (i : Int) < (ls.length : Int) := by omega
    obtain rfl : i = ls.length := by omega
    rw [List.take_length] at hj
    (refine sr_ ?_; (refine se_ (ex_lss_f ev_ ev_ om_) ?_); refine sn_ ?_; (apply sc_seq); (refine cf_ ?_); (apply sc_exit); (apply et_then); (apply et_then); (apply et_hit))
    refine ret_ok' (L' := L) (G := []) .nil (.inl (by rw [List.length_map]; exact hj)) (M := []) Sel.self .nil
/-- a new slice: nil if nothing is in it -/
def SlN (zs : List Int) (v : Value) (B : List Blk) : Prop := SlI zs v B ∧ (zs = [] → v = .slice none 0 0 ∧ B = [])
theorem nums_enters : Enters Try.prog 69 := en69
set_option maxHeartbeats 4000000 in
/-- what slices.Collect gathers -/
theorem appendSeq_tri {gi : FuncId} {cap : List Value} {need : List Blk → Prop} {zs : List Int} (he : Enters Try.prog gi) (hG : Gives Try.prog gi cap need (zs.map (Value.int .i64))) (hz : zs.length ≤ 1000000) (pre : List Blk) (hneed : ∀ M, (∀ x ∈ pre, x ∈ M) → need M) : Tri Try.prog 72 #[.slice none 0 0, .func (.func gi) #[] cap.toArray] pre fun v L => ∃ B, SlN zs v B ∧ L = B ++ pre := by
  have f_mixed := mixed; have f_by3 := by3; have f_ty3 := ty3; have f_ty36 := ty36; have f_un_36 : Und Try.prog 36 _ := ⟨Try.underlying36⟩; have f_zero3 := zero3; have f_zv3 := zv3
  refine tri_marks (args := [_, _]) Try.func72 rfl Try.ntmps72 rfl (rs := _) rfl rfl fun E R => ?_
  simp only [fr, List.cons_append, List.nil_append]
  ((apply sm_seq); (apply sm_region; exact rfl; (repeat (first | exact noOut_ret | exact noOut_retM | exact noOut_rnd | apply noOut_then | apply noOut_block))); (apply so_box; (exact ev_); exact rfl; exact rfl; intro _); (refine ac_ ?_); refine sn_ ?_; (apply sm_seq); (apply sm_seq); (apply sm_region; exact rfl; (repeat (first | exact noOut_ret | exact noOut_retM | exact noOut_rnd | apply noOut_then | apply noOut_block))); (refine mv_ ?_); refine sn_ ?_; (apply sm_block))
  rename_i b1
  refine sm_range1 (by (exact ev_)) he hG rfl rfl
    (fun i Li => ∃ sv B G, SlN (zs.take i) sv B ∧ Li.Perm (B ++ ((b1, .cells [sv].toArray 36) :: (pre ++ (G ++ R))))) (fun _ _ => False) ?_ ?_ ?_ ?_ ?_ ?_
  · rintro i Li R' ⟨sv, B, G, _, hp⟩
    exact hneed _ fun x hx => List.mem_append_left _ (hp.mem_iff.2 (List.mem_append_right _ (List.mem_cons_of_mem _ (List.mem_append_left _ hx))))
  · exact ⟨_, [], [], ⟨.empty, fun _ => ⟨rfl, rfl⟩⟩, by simp⟩
  · rintro lp i x Li R' hx ⟨sv, B, G, hB, hp⟩
    rw [List.getElem?_map] at hx
    obtain ⟨z, hzz, rfl⟩ := Option.map_eq_some_iff.1 hx
    obtain ⟨hlt, hz'⟩ := List.getElem?_eq_some_iff.1 hzz
    refine sm_perm (hp.append_right R') ?_
    have htk : zs.take (i + 1) = zs.take i ++ [z] := by rw [List.take_succ_eq_append_getElem hlt, hz']
    have hbl : (zs.take i).length ≤ 1000000 := by rw [List.length_take]; omega
    generalize zs.take i = S at hB hbl htk
    obtain ⟨⟨p, cap, rfl, hrow⟩, _⟩ := hB
    simp only [List.append_assoc, List.cons_append, List.nil_append]
    ((apply sm_block); (apply sm_region; exact rfl; (repeat (first | exact noOut_ret | exact noOut_retM | exact noOut_rnd | apply noOut_then | apply noOut_block))); (refine se_ (ex_load1 ev_ asm_ mem_ nth_) ?_); (refine mv_ ?_); (apply so_buildS; (focus ((apply EvP.cons; (exact ev_)); exact EvP.nil)); assumption; assumption; assumption; (focus (repeat (first | exact SeqP.nil | (apply SeqP.cons; exact rfl; exact rfl) | exact App.nil | apply App.cons))); exact rfl; exact rfl; exact rfl; intro _); (apply so_appI; (exact ev_); (exact ev_); exact hrow; (exact sel_); (exact mem_); omega; assumption; assumption; assumption; assumption; exact rfl; intro o' cap' B' hrow'); (apply so_store; (exact ev_); (exact ev_); assumption; exact rfl; exact rfl; exact rfl; (focus (repeat (first | exact Turn.here | apply Turn.there | apply Turn.pre))); (focus (repeat (first | exact SetSub.nil | apply SetSub.take | apply SetSub.drop)))); (apply so_nil); (apply nm_block))
    refine rnd_ok ⟨_, _, G, by rw [htk]; exact ⟨⟨_, _, rfl, by assumption⟩, fun h => absurd h (by simp)⟩, .refl _⟩ (by simp only [List.append_assoc, List.cons_append, List.nil_append]; exact rfl) (by (exact sel_))
  · rintro k Ld ⟨sv, B, G, hB, hp⟩
    rw [List.length_map, List.take_length] at hB
    obtain ⟨⟨p, cap, rfl, hrow⟩, hnil⟩ := hB
    apply nm_block
    apply nm_then
    refine sm_perm (hp.cons _) ?_
    ((apply sm_seq); (apply sm_region; exact rfl; (repeat (first | exact noOut_ret | exact noOut_retM | exact noOut_rnd | apply noOut_then | apply noOut_block))); (refine se_ (ex_load1 ev_ asm_ mem_ nth_) ?_); (refine asg_ ?_); refine sn_ ?_; (apply sm_ret); (apply retM_mark; (exact pick_); apply ret_ok; (focus ((apply Res.tmp; (exact ev_)); exact Res.nil)); (exact ⟨_, ⟨⟨_, _, rfl, hrow⟩, hnil⟩, rfl⟩); (exact sel_); (exact appb_)))
  · intro _ _ h; exact h.elim
  · intro _ _ _ h; exact h.elim
theorem collect_tri {gi : FuncId} {cap : List Value} {need : List Blk → Prop} {zs : List Int} (he : Enters Try.prog gi) (hG : Gives Try.prog gi cap need (zs.map (Value.int .i64))) (hz : zs.length ≤ 1000000) (pre : List Blk) (hneed : ∀ M, (∀ x ∈ pre, x ∈ M) → need M) : Tri Try.prog 44 #[.func (.func gi) #[] cap.toArray] pre fun v L => ∃ B, SlN zs v B ∧ L = B ++ pre := by
  have f_mixed := mixed; have f_en72 := en72
  have c1 := appendSeq_tri he hG hz pre hneed
  refine tri_intro (args := [_]) Try.func44 rfl Try.ntmps44 rfl (rs := _) rfl rfl fun E R => ?_
  simp only [fr, List.cons_append, List.nil_append]
  (refine sr_ ?_; (refine ac_ ?_); refine sn_ ?_; refine sr_ ?_; (refine mv_ ?_))
  (apply so_call; (exact Ev.func); (focus ((apply EvL.cons; (exact Ev.const)); (apply EvL.cons; (exact ev_)); exact EvL.nil)); (focus (repeat (first | exact App.nil | apply App.cons))); assumption; (exact c1); (exact sel_); exact rfl)
  rintro v L ⟨B, ⟨⟨p, cap, rfl, hrow⟩, hnil⟩, rfl⟩
  simp only [List.append_assoc]
  ((refine asg_ ?_); refine sn_ ?_; (apply sc_ret); (apply ret_ok; (focus ((apply Res.tmp; (exact ev_)); exact Res.nil)); (exact ⟨_, ⟨⟨_, _, rfl, hrow⟩, hnil⟩, rfl⟩); (exact sel_); (exact appb_)))
/-- the xids of levels that lie in memory -/
theorem xids_tri {bx lb o cap : Nat} {ls : List (ByteArray × Int)} {c : List Value} {T : TypeId} {fz : Nat × Nat} (hc : LvAt ls c o) (hn : ls.length ≤ 100) : Tri Try.prog 44 #[.func (.func 69) #[] [tP bx].toArray] [(bx, .cells [.slice (some ⟨lb, o, none⟩) ls.length cap].toArray 77), (lb, .cells c.toArray T fz)] fun v L => ∃ B, SlN (xidsOf ls) v B ∧ L = B ++ [(bx, .cells [.slice (some ⟨lb, o, none⟩) ls.length cap].toArray 77), (lb, .cells c.toArray T fz)] :=
  collect_tri nums_enters (nums_gives hc hn) (by have := xids_len ls; omega) _ fun M hM => ⟨hM _ (List.mem_cons_self ..), hM _ (List.mem_cons_of_mem _ (List.mem_cons_self ..))⟩
end Go.Proofs.Ytfkpjnomfmjplaa
namespace Go.Proofs.Ytfkpjnomfmjplaa
open Go.Sym
def ownT (T : Ts) (id : Int) : List Int := ((findT T.l id).map Tx.own).getD []
theorem TxIn.open {t : Tx} {m : TM} (h : TxIn t m) : ∃ b lb cap junk sp SB gv GB, m = ⟨b, sp, SB, .slice (some ⟨lb, 0, none⟩) t.lvs.length cap, [(lb, .cells (lcells t.lvs ++ junk).toArray 91)], gv, GB⟩ ∧ (lcells t.lvs ++ junk).length = cap * 2 ∧ t.lvs ≠ [] ∧ t.lvs.length ≤ 9 := by
  obtain ⟨b, sp, SB, lv, LB, gv, GB⟩ := m
  obtain ⟨hne, hle, lb, cap, junk, h1, h2, h3⟩ := h.lv
  dsimp only at h1 h3
  subst h1 h3
  exact ⟨b, lb, cap, junk, sp, SB, gv, GB, rfl, h2, hne, hle⟩
theorem own_tri {K : Nat} {T : Ts} {tb : Nat} {L : List Blk} (h : TsIn K T tb L) (id : Int) : Tri Try.prog 28 #[tP tb, .int .i64 id] L fun v L' => ∃ B, SlI (ownT T id) v B ∧ L' = B ++ L := by
  obtain ⟨cb, mm, es, cl, ρ, rfl, hI⟩ := h
  have f_mixed := mixed; have f_en41 := en41; have f_en44 := en44; have f_en42 := en42; have f_fo80_2 := fo80_2; have f_ty77 := ty77; have f_un_76 : Und Try.prog 76 _ := ⟨Try.underlying76⟩
  have c1 := at_tri hI tb cb mm id
  unfold ptrT at c1
  refine tri_perm' ?_
  cases hf : findT T.l id with
  | none =>
    rw [hf] at c1
    simp only [Option.map_none, Option.getD_none] at c1
    have e : ownT T id = [] := by unfold ownT; rw [hf]; rfl
    rw [e]
    unfold TsB
    refine tri_intro (args := [_, _]) Try.func28 rfl Try.ntmps28 rfl (rs := _) rfl rfl fun E R => ?_
    simp only [fr, List.cons_append, List.nil_append]
    (refine sr_ ?_; (refine ac_ ?_); refine sn_ ?_; refine sr_ ?_; (refine mv_ ?_); (refine mv_ ?_); (apply so_callq; (exact Ev.func); (focus ((apply EvL.cons; (exact ev_)); (apply EvL.cons; (exact ev_)); exact EvL.nil)); (focus (repeat (first | exact App.nil | apply App.cons))); assumption; exact c1; (exact sel_); exact rfl); (refine asg_ ?_); refine sn_ ?_; (apply sc_seq); refine sr_ ?_; (refine mv_ ?_); (refine se_ (ex_eqp_t ev_ .const asm_) ?_); refine sn_ ?_; (refine ct_ ?_); refine sr_ ?_; (refine ac_ ?_); refine sn_ ?_; (apply sc_ret); (apply rt_then); (apply ret_ok; (focus ((apply Res.tmp; (exact ev_)); exact Res.nil)); (exact ⟨_, .refl _, [], .empty, rfl⟩); (exact sel_); (exact appb_)))
  | some t =>
    rw [hf] at c1
    simp only [Option.map_some, Option.getD_some] at c1
    have e : ownT T id = xidsOf t.lvs := by unfold ownT; rw [hf]; rfl
    rw [e]
    obtain ⟨PO, h1, _, _⟩ := TsB_split (tb := tb) (cb := cb) (mm := mm) (es := es) (cl := cl) (ρ := ρ) hI.nd hf
    have htx := hI.tx t (findT_some hf).1
    rw [(findT_some hf).2] at htx
    obtain ⟨b, lb, cap, junk, sp, SB, gv, GB, hm, hj, hne, hle⟩ := htx.open
    unfold tblks thdr at h1
    rw [hm] at h1 c1
    simp only [List.append_assoc, List.cons_append, List.nil_append] at h1
    have c3 := fun bx => xids_tri (bx := bx) (cap := cap) (T := 91) (fz := (0, 0)) (lvAt_mk t.lvs junk) (by omega) (lb := lb)
    refine tri_perm h1 ?_
    refine tri_intro (args := [_, _]) Try.func28 rfl Try.ntmps28 rfl (rs := _) rfl rfl fun E R => ?_
    simp only [fr, List.cons_append, List.nil_append]
    simp only [List.append_assoc, List.cons_append, List.nil_append]
    (refine sr_ ?_; (refine ac_ ?_); refine sn_ ?_; refine sr_ ?_; (refine mv_ ?_); (refine mv_ ?_); (apply so_callq; (exact Ev.func); (focus ((apply EvL.cons; (exact ev_)); (apply EvL.cons; (exact ev_)); exact EvL.nil)); (focus (repeat (first | exact App.nil | apply App.cons))); assumption; exact c1; (exact sel_); exact rfl); (refine asg_ ?_); refine sn_ ?_; (apply sc_seq); refine sr_ ?_; (refine mv_ ?_); (refine se_ (ex_eqp_f ev_ .const asm_) ?_); refine sn_ ?_; (refine cf_ ?_); (apply sc_skip); (apply nm_then); refine sr_ ?_; (refine mv_ ?_); (refine se_ (ex_nilCheck ev_) ?_); (refine se_ (ex_fieldAddr ev_ asm_) ?_); (refine se_ (ex_load1 ev_ asm_ mem_ nth_) ?_))
    (apply so_call; (exact Ev.func); (focus ((apply EvL.cons; (exact ev_)); exact EvL.nil)); (focus (repeat (first | exact App.nil | apply App.cons))); assumption; (exact numbers_tri _ _ _); (exact sel_); exact rfl)
    rintro v L ⟨bx, rfl, rfl⟩
    simp only [List.append_assoc, List.cons_append, List.nil_append]
    skip
    (apply so_call; (exact Ev.func); (focus ((apply EvL.cons; (exact ev_)); exact EvL.nil)); (focus (repeat (first | exact App.nil | apply App.cons))); assumption; (exact c3 bx); (exact sel_); exact rfl)
    rintro v L ⟨B, ⟨⟨p', cap', rfl, hrow⟩, _⟩, rfl⟩
    simp only [List.append_assoc, List.cons_append, List.nil_append]
    ((refine asg_ ?_); refine sn_ ?_; (apply sc_ret); (apply ret_ok; (focus ((apply Res.tmp; (exact ev_)); exact Res.nil)); (exact ⟨_, h1.symm.append_left B, B, ⟨_, _, rfl, hrow⟩, rfl⟩); (exact sel_); (exact appb_)))
end Go.Proofs.Ytfkpjnomfmjplaa
