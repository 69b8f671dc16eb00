/- Conflict: the reference's graph in memory, for changes; Prepare, Commit. -/
import Derived.Test.YtomgkmoecbnddaaV7
import Derived.Test.YtomgkmoecbnddaaV5
set_option linter.unusedVariables false
set_option linter.unusedSimpArgs false
set_option linter.unnecessarySimpa false
namespace Go.Proofs.Ytomgkmoecbnddaa
open Go.Sym
structure RBlk (K : Nat) (g : RG) (sv : Sv) (ol : Option Addr) (cl : Nat) (oe : Option Addr) (ce : Nat) (BL BE BB : List Blk) : Prop where
  l : Row 85 7 (.slice ol g.L.length cl) (tcells sv g.L) BL
  e : Row 92 2 (.slice oe g.E.length ce) (ecells g.E) BE
  b : ∀ x ∈ g.L, SlM x.bs (sv x.id).1 BB ∧ (sv x.id).2.1 = x.bs.length ∧ x.bs.length ≤ K
  sl : g.L.length ≤ K
  se : g.E.length ≤ K
  n : 0 ≤ g.n ∧ g.n ≤ K
  k : K ≤ 500
/-- the reference's graph, at p, lies in Lb -/
def RRep (K : Nat) (g : RG) (p : Nat) (Lb : List Blk) : Prop := ∃ ol cl oe ce sv BL BE BB, Lb = hdr p (.slice ol g.L.length cl) (.slice oe g.E.length ce) g.n :: (BL ++ (BE ++ BB)) ∧ RBlk K g sv ol cl oe ce BL BE BB
theorem row_tx {sv : Sv} {l : List RT} {o : Option Addr} {c : Nat} {B : List Blk} (h : Row 85 7 (.slice o l.length c) (tcells sv l) B) (X : List Blk) : TxIn sv l o (B ++ X) := fun hp => by
  generalize hv : Value.slice o l.length c = v at h
  generalize hx : tcells sv l = xs at h
  cases h with
  | nil => injection hv with _ h2 _; omega
  | row h1 h2 =>
    injection hv with e1 e2 e3
    subst e1
    exact ⟨_, _, rfl, List.mem_append_left _ (List.mem_cons_self ..)⟩
theorem row_ed {l : List (Int × Int)} {o : Option Addr} {c : Nat} {B : List Blk} (h : Row 92 2 (.slice o l.length c) (ecells l) B) (X Y : List Blk) : EdIn l o (X ++ (B ++ Y)) := fun hp => by
  generalize hv : Value.slice o l.length c = v at h
  generalize hx : ecells l = xs at h
  cases h with
  | nil => injection hv with _ h2 _; omega
  | row h1 h2 =>
    injection hv with e1 e2 e3
    subst e1
    exact ⟨_, _, rfl, List.mem_append_right _ (List.mem_append_left _ (List.mem_cons_self ..))⟩
theorem row_open {s t : Nat} {xs : List Value} {o : Option Addr} {n c : Nat} {B : List Blk} (h : Row t s (.slice o n c) xs B) (hn : 0 < n) : ∃ b junk, o = some ⟨b, 0, none⟩ ∧ B = [(b, .cells (xs ++ junk).toArray t)] ∧ xs.length = n * s ∧ (xs ++ junk).length = c * s := by
  generalize hv : Value.slice o n c = v at h
  cases h with
  | nil => injection hv with _ h2 _; omega
  | row h1 h2 =>
    injection hv with e1 e2 e3
    subst e1 e2 e3
    exact ⟨_, _, rfl, rfl, h1, h2⟩
theorem set_map {l : List RT} (hn : (l.map (·.id)).Nodup) {i : Nat} (hi : i < l.length) {F : RT → RT} (hF : ∀ y, y.id ≠ l[i].id → F y = y) : l.set i (F l[i]) = l.map F := by
  apply List.ext_getElem
  · simp
  · intro j h1 h2
    rw [List.getElem_map, List.getElem_set]
    split
    · rename_i e; subst e; rfl
    · rename_i e
      symm
      refine hF _ fun h3 => e ?_
      rw [List.nodup_iff_pairwise_ne, List.pairwise_iff_getElem] at hn
      have hj : j < l.length := by simpa using h1
      rcases Nat.lt_trichotomy i j with h | h | h
      · have h4 := hn i j (by simpa using hi) (by simpa using hj) h
        rw [List.getElem_map, List.getElem_map] at h4
        exact absurd h3.symm h4
      · exact h
      · have h4 := hn j i (by simpa using hj) (by simpa using hi) h
        rw [List.getElem_map, List.getElem_map] at h4
        exact absurd h3 h4
theorem t_store {sv : Sv} {l : List RT} (junk : List Value) {i : Nat} (hi : i < l.length) (y : RT) (q : Nat) (r : List Value) (hq : q + r.length ≤ 7) (hy : y.cells sv = (l[i].cells sv).take q ++ r ++ (l[i].cells sv).drop (q + r.length)) :
    tcells sv (l.set i y) ++ junk = (tcells sv l ++ junk).take (0 + i * 7 + q) ++ r ++ (tcells sv l ++ junk).drop (0 + i * 7 + q + r.length) ∧ 0 + i * 7 + q + r.length ≤ (tcells sv l ++ junk).length := by
  have h1 := rows_set (tlen sv) hi y q r hq hy
  have h2 := rows_len (tlen sv) l
  have h3 : i * 7 + q + r.length ≤ (tcells sv l).length := by unfold tcells; rw [h2]; omega
  unfold tcells at h3 ⊢
  rw [Nat.zero_add, List.take_append_of_le_length (by omega), List.drop_append_of_le_length (by omega), h1, List.length_append]
  exact ⟨by simp only [List.append_assoc], by omega⟩
theorem map_tlen (sv : Sv) (l : List RT) (F : RT → RT) : (tcells sv (l.map F)).length = (tcells sv l).length := by
  unfold tcells; rw [rows_len (tlen sv), rows_len (tlen sv), List.length_map]
theorem RBlk.map {K : Nat} {g : RG} {sv : Sv} {ol oe : Option Addr} {cl ce : Nat} {BE BB : List Blk} {b : Nat} {junk : List Value} (h : RBlk K g sv ol cl oe ce [(b, .cells (tcells sv g.L ++ junk).toArray 85)] BE BB) (ho : ol = some ⟨b, 0, none⟩) (hl : (tcells sv g.L).length = g.L.length * 7) (hj : (tcells sv g.L ++ junk).length = cl * 7) (F : RT → RT) (hF : ∀ x, (F x).id = x.id ∧ (F x).bs = x.bs) {K' : Nat} {n' : Int} (hK : K ≤ K') (hK' : K' ≤ 500) (hn : 0 ≤ n' ∧ n' ≤ K') :
    RBlk K' ⟨g.L.map F, g.E, n'⟩ sv ol cl oe ce [(b, .cells (tcells sv (g.L.map F) ++ junk).toArray 85)] BE BB := by
  subst ho
  have h1 := map_tlen sv g.L F
  refine ⟨?_, h.e, fun y hy => ?_, by show (g.L.map F).length ≤ _; rw [List.length_map]; have := h.sl; omega, Nat.le_trans h.se hK, hn, hK'⟩
  · show Row 85 7 (.slice _ (g.L.map F).length cl) (tcells sv (g.L.map F)) _
    rw [List.length_map]
    exact .row (by rw [h1, hl]) (by rw [List.length_append, h1, ← List.length_append, hj])
  · obtain ⟨x, hx, rfl⟩ := List.mem_map.1 hy
    rw [(hF x).1, (hF x).2]
    obtain ⟨k1, k2, k3⟩ := h.b x hx
    exact ⟨k1, k2, by omega⟩
theorem RBlk.same {K K' : Nat} {g : RG} {sv : Sv} {ol oe : Option Addr} {cl ce : Nat} {BL BE BB : List Blk} (h : RBlk K g sv ol cl oe ce BL BE BB) (hK : K ≤ K') (hK' : K' ≤ 500) : RBlk K' g sv ol cl oe ce BL BE BB :=
  ⟨h.l, h.e, fun x hx => by obtain ⟨k1, k2, k3⟩ := h.b x hx; exact ⟨k1, k2, by omega⟩, Nat.le_trans h.sl hK, Nat.le_trans h.se hK, ⟨h.n.1, by have := h.n.2; omega⟩, hK'⟩
theorem RRep.mono {K K' : Nat} {g : RG} {p : Nat} {L : List Blk} (h : RRep K g p L) (hK : K ≤ K') (hK' : K' ≤ 500) : RRep K' g p L := by
  obtain ⟨ol, cl, oe, ce, sv, BL, BE, BB, h1, h2⟩ := h
  exact ⟨ol, cl, oe, ce, sv, BL, BE, BB, h1, h2.same hK hK'⟩
theorem prepR_tri {K : Nat} {g : RG} {p : Nat} {Lb : List Blk} (hR : RRep K g p Lb) (hok : (g.L.map (·.id)).Nodup) (tx : Int) :
    Tri Try.prog 45 #[.pointer (some ⟨p, 0, none⟩), .int .i64 tx] Lb fun v L' => v = .tuple #[] ∧ RRep K (g.prepare tx) p L' := by
  have f_mixed := mixed; have f_by85 := by85; have f_en44 := en44; have f_fo59_0 := fo59_0; have f_fo85_2 := fo85_2; have f_ty3 := ty3; have f_ty56 := ty56; have f_ty85 := ty85; have f_un_56 : Und Try.prog 56 _ := ⟨Try.underlying56⟩; have f_zero85 := zero85; have f_zv85 := zv85
  obtain ⟨ol, cl, oe, ce, sv, BL, BE, BB, rfl, h⟩ := hR
  have hk := h.k
  have hat := at_tri (p := p) (cl := cl) (ve := .slice oe g.E.length ce) (n := g.n) (row_tx h.l (BE ++ BB)) (by have := h.sl; omega) tx
  refine tri_intro (args := [_, _]) Try.func45 rfl Try.ntmps45 rfl (rs := []) rfl rfl fun E R => ?_
  simp only [fr, hdr, List.cons_append, List.append_assoc] at hat ⊢
  unfold RG.prepare
  cases hf : findR g.L tx with
  | none =>
    rw [atV_none hf] at hat
    (refine sr_ ?_; (refine mv_ ?_); (refine mv_ ?_); (apply so_callq; (exact Ev.func); (focus ((apply EvL.cons; (exact ev_)); (apply EvL.cons; (exact ev_)); exact EvL.nil)); (focus (repeat (first | exact App.nil | apply App.cons))); assumption; exact hat; (exact sel_); exact rfl); (refine asg_ ?_); refine sn_ ?_; refine sr_ ?_; (refine mv_ ?_); (refine se_ (ex_geq_f ev_ .const om_) ?_); (refine mv_ ?_); (refine sk_ ?_); (refine sk_ ?_); (refine sk_ ?_); (refine sk_ ?_); (refine sk_ ?_); (refine sk_ ?_); (refine sk_ ?_); (refine sk_ ?_); (refine sk_ ?_); (refine se_ (ex_pick_f ev_ .const) ?_); refine sn_ ?_; (refine cf_ ?_); (apply sc_skip); (apply ret_ok'; (focus (exact Res.nil)); (exact ⟨rfl, ol, cl, oe, ce, sv, BL, BE, BB, rfl, h⟩); (exact sel_); (exact appb_)))
  | some x =>
    obtain ⟨i, hi, hx, hv⟩ := atV_some hf
    rw [hv] at hat
    obtain ⟨b, junk, ho, rfl, hl, hj⟩ := row_open h.l (by omega)
    subst ho
    obtain ⟨_, _, h2, _, _, _⟩ := t_cells (sv := sv) junk hi hx
    simp only [List.cons_append, List.nil_append] at hat ⊢
    have hid := (findR_some hf).2
    by_cases hs : x.st = 1
    · rw [if_pos hs]
      have hst := t_store (sv := sv) junk hi (setSt tx 2 g.L[i]) 2 [Value.int .i64 2] (by decide) (by rw [hx]; unfold setSt; rw [if_pos hid]; rfl)
      rw [set_map hok hi (F := setSt tx 2) (fun y hy => by unfold setSt; rw [if_neg (fun e => hy (e.trans (by rw [hx, hid])))])] at hst
      have hm := h.map rfl hl hj (setSt tx 2) (fun x => by unfold setSt; split <;> exact ⟨rfl, rfl⟩) (Nat.le_refl K) hk h.n
      obtain ⟨hst1, hst2⟩ := hst
      have hlm : (g.L.map (setSt tx 2)).length = g.L.length := List.length_map ..
      (refine sr_ ?_; (refine mv_ ?_); (refine mv_ ?_); (apply so_callq; (exact Ev.func); (focus ((apply EvL.cons; (exact ev_)); (apply EvL.cons; (exact ev_)); exact EvL.nil)); (focus (repeat (first | exact App.nil | apply App.cons))); assumption; exact hat; (exact sel_); exact rfl); (refine asg_ ?_); refine sn_ ?_; refine sr_ ?_; (refine mv_ ?_); (refine se_ (ex_geq_t ev_ .const om_) ?_); (refine mv_ ?_); (refine wt_ ?_); (refine mv_ ?_); (refine wt_ ?_); (refine se_ (ex_nilCheck ev_) ?_); (refine wt_ ?_); (refine se_ (ex_fieldAddr ev_ asm_) ?_); (refine wt_ ?_); (refine se_ (ex_load1 ev_ asm_ mem_ nth_) ?_); (refine wt_ ?_); (refine mv_ ?_); (refine wt_ ?_); (refine se_ (ex_indexAddr ev_ ev_ asm_ asm_ lit_ lt_) ?_); (refine wt_ ?_); (refine se_ (ex_fieldAddr ev_ asm_) ?_); (refine wt_ ?_); (apply so_ex; (apply ex_load1r; (exact ev_); assumption; (exact mem_); exact h2); exact rfl); (refine wt_ ?_); (refine se_ (ex_eql_t ev_ .const om_) ?_); (refine se_ (ex_pick_t ev_ ev_) ?_); refine sn_ ?_; (refine ct_ ?_); (apply sc_region); (refine mv_ ?_); (refine se_ (ex_nilCheck ev_) ?_); (refine se_ (ex_fieldAddr ev_ asm_) ?_); (refine se_ (ex_load1 ev_ asm_ mem_ nth_) ?_); (refine mv_ ?_); (refine se_ (ex_indexAddr ev_ ev_ asm_ asm_ lit_ lt_) ?_); (refine se_ (ex_fieldAddr ev_ asm_) ?_); (apply so_storer (r := [Value.int .i64 2]); (exact ev_); (exact Ev.const); assumption; exact rfl; exact rfl; exact rfl; (focus (repeat (first | exact Turn.here | apply Turn.there | apply Turn.pre))); exact hst1; exact hst2); (apply so_nil))
      rw [← hlm]
      (apply ret_ok'; (focus (exact Res.nil)); (exact ⟨rfl, _, cl, oe, ce, sv, _, BE, BB, rfl, hm⟩); (exact sel_); (exact appb_))
    · rw [if_neg hs]
      (refine sr_ ?_; (refine mv_ ?_); (refine mv_ ?_); (apply so_callq; (exact Ev.func); (focus ((apply EvL.cons; (exact ev_)); (apply EvL.cons; (exact ev_)); exact EvL.nil)); (focus (repeat (first | exact App.nil | apply App.cons))); assumption; exact hat; (exact sel_); exact rfl); (refine asg_ ?_); refine sn_ ?_; refine sr_ ?_; (refine mv_ ?_); (refine se_ (ex_geq_t ev_ .const om_) ?_); (refine mv_ ?_); (refine wt_ ?_); (refine mv_ ?_); (refine wt_ ?_); (refine se_ (ex_nilCheck ev_) ?_); (refine wt_ ?_); (refine se_ (ex_fieldAddr ev_ asm_) ?_); (refine wt_ ?_); (refine se_ (ex_load1 ev_ asm_ mem_ nth_) ?_); (refine wt_ ?_); (refine mv_ ?_); (refine wt_ ?_); (refine se_ (ex_indexAddr ev_ ev_ asm_ asm_ lit_ lt_) ?_); (refine wt_ ?_); (refine se_ (ex_fieldAddr ev_ asm_) ?_); (refine wt_ ?_); (apply so_ex; (apply ex_load1r; (exact ev_); assumption; (exact mem_); exact h2); exact rfl); (refine wt_ ?_); (refine se_ (ex_eql_f ev_ .const om_) ?_); (refine se_ (ex_pick_t ev_ ev_) ?_); refine sn_ ?_; (refine cf_ ?_); (apply sc_skip); (apply ret_ok'; (focus (exact Res.nil)); (exact ⟨rfl, _, cl, oe, ce, sv, _, BE, BB, rfl, h⟩); (exact sel_); (exact appb_)))
end Go.Proofs.Ytomgkmoecbnddaa
