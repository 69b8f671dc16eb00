/- Conflict: contracts over a graph in memory, with maps or without. -/
import Derived.Test.YtomgkmoecbnddaaR9
set_option linter.unusedVariables false
set_option linter.unusedSimpArgs false
set_option linter.unnecessarySimpa false
namespace Go.Proofs.Ytomgkmoecbnddaa
open Go.Sym

theorem SymG.upd {g : Gr} (h : SymG g) {p : Int → Bool} {f : Nd → Nd} (hf : ∀ n, (f n).id = n.id ∧ (f n).ins = n.ins ∧ (f n).outs = n.outs) : SymG (g.upd p f) := by
  have key : ∀ m ∈ (g.upd p f).live, ∃ x ∈ g.live, m.id = x.id ∧ m.ins = x.ins ∧ m.outs = x.outs := fun m hm => by
    obtain ⟨x, h1, h2⟩ := updL_mem hm
    refine ⟨x, h1, ?_⟩
    split at h2
    · rw [h2]; exact hf x
    · rw [h2]; exact ⟨rfl, rfl, rfl⟩
  intro m hm k hk
  obtain ⟨x, h1, h2, h3, _⟩ := key m hm
  obtain ⟨y, h4, h5, _, h6⟩ := key k hk
  rw [h5, h3, h2, h6]
  exact h x h1 y h4
theorem SymG.linkQ {g : Gr} (h : SymG g) {r w : Nd} (hne : r.id ≠ w.id) : SymG (g.linkQ r w) := by
  unfold Gr.linkQ
  split
  · exact h.upd fun _ => ⟨rfl, rfl, rfl⟩
  · split
    · exact h.upd fun _ => ⟨rfl, rfl, rfl⟩
    · have key : ∀ m ∈ ((g.upd (at1 r.id) fun n => { n with outs := addI n.outs w.id }).upd (at1 w.id) fun n => { n with ins := addI n.ins r.id }).live, ∃ x ∈ g.live, m.id = x.id ∧ (∀ k, k ∈ m.ins ↔ k ∈ x.ins ∨ (x.id = w.id ∧ k = r.id)) ∧ (∀ k, k ∈ m.outs ↔ k ∈ x.outs ∨ (x.id = r.id ∧ k = w.id)) := fun m hm => by
        obtain ⟨y, h1, h2⟩ := updL_mem hm
        obtain ⟨x, h3, h4⟩ := updL_mem h1
        have hy : y.id = x.id := by rw [h4]; split <;> rfl
        refine ⟨x, h3, ?_, ?_, ?_⟩
        · rw [h2]; split <;> exact hy
        · intro k
          have e1 : y.ins = x.ins := by rw [h4]; split <;> rfl
          rw [h2]
          by_cases hw : y.id = w.id
          · rw [if_pos (by simp [at1, hw])]
            show k ∈ addI y.ins r.id ↔ _
            rw [addI_mem, e1]
            exact ⟨fun h => h.imp id fun h => ⟨hy.symm.trans hw, h⟩, fun h => h.imp id fun h => h.2⟩
          · rw [if_neg (by simp [at1, hw]), e1]
            exact ⟨.inl, fun h => h.elim id fun h => absurd (hy.trans h.1) hw⟩
        · intro k
          have e2 : m.outs = y.outs := by rw [h2]; split <;> rfl
          rw [e2, h4]
          by_cases hr : x.id = r.id
          · rw [if_pos (by simp [at1, hr])]
            show k ∈ addI x.outs w.id ↔ _
            rw [addI_mem]
            exact ⟨fun h => h.imp id fun h => ⟨hr, h⟩, fun h => h.imp id fun h => h.2⟩
          · rw [if_neg (by simp [at1, hr])]
            exact ⟨.inl, fun h => h.elim id fun h => absurd h.1 hr⟩
      intro m hm k hk
      obtain ⟨x, h1, h2, h3, _⟩ := key m hm
      obtain ⟨y, h4, h5, _, h6⟩ := key k hk
      rw [h3, h6, h5, h2, h x h1 y h4]
      exact ⟨fun h => h.imp id fun h => ⟨h.2, h.1⟩, fun h => h.imp id fun h => ⟨h.2, h.1⟩⟩
theorem SymG.edgeG {g : Gr} (h : SymG g) (a b : Int) : SymG (g.edgeG a b) := by
  unfold Gr.edgeG
  cases findL g.nodes a with
  | none => exact h
  | some r =>
    cases findL g.nodes b with
    | none => exact h
    | some w =>
      dsimp only
      split
      · exact h
      · rename_i hno
        have hl := h.linkQ (r := r) (w := w) fun e => hno (.inl e)
        split
        · exact hl.upd fun _ => ⟨rfl, rfl, rfl⟩
        · exact hl
theorem SymG.checkQ {g : Gr} (h : SymG g) (a : Int) : SymG (g.checkQ a).2 := by
  unfold Gr.checkQ
  cases findL g.nodes a with
  | none => exact h
  | some n =>
    dsimp only
    split
    · exact h
    · split
      · exact h
      · split
        · exact h.upd fun _ => ⟨rfl, rfl, rfl⟩
        · have h2 : SymG (g.doomV (chkL g.nodes n)) := SymG.upd (f := setDm) h fun _ => ⟨rfl, rfl, rfl⟩
          exact SymG.upd (f := setAsk) h2 fun n => by unfold setAsk; split <;> exact ⟨rfl, rfl, rfl⟩
theorem SymG.forget {g : Gr} (h : SymG g) : SymG g.forgetG := h
theorem SymG.abortQ {K : Nat} {g : Gr} (hI : GOk K g) (h : SymG g) (a : Int) : SymG (g.abortQ a) := by
  unfold Gr.abortQ
  cases hf : findL g.nodes a with
  | none => exact h
  | some n =>
    dsimp only
    split
    · exact h
    · rename_i hs
      have hnl : n ∈ g.live := (List.mem_append.1 (findL_some hf).1).resolve_right fun e => hs (hI.en n e)
      exact (off_gok (K' := K) (q1 := none) (q2 := none) (cm := g.commits) (es := []) hI h hnl (Nat.le_refl _) hI.sz.2.2.2 ⟨hI.sz.2.1, hI.sz.2.2.1⟩ (.inl rfl)).2
theorem SymG.commitQ {K : Nat} {g : Gr} (hI : GOk K g) (h : SymG g) (hK : K + 1 ≤ 4000) (a : Int) : SymG (g.commitQ a) := by
  unfold Gr.commitQ
  cases hf : findL g.nodes a with
  | none => exact h
  | some n =>
    dsimp only
    split
    · exact h
    · rename_i hs
      have hn := (findL_some hf).1
      have hnl : n ∈ g.live := (List.mem_append.1 hn).resolve_right fun e => hs (hI.en n e)
      have hrg := hI.rg n hn
      have hsz := hI.sz
      exact (off_gok (K' := K + 1) (q1 := some (g.commits + 1)) (q2 := some (doneN n (g.commits + 1)).far) (cm := g.commits + 1) (es := [doneN n (g.commits + 1)]) hI h hnl (by omega) hK (by omega) (.inr ⟨_, rfl, rfl, rfl, rfl, rfl, by show 0 ≤ n.begin_; omega, by show n.begin_ ≤ _; omega, by show 0 ≤ g.commits + 1; omega, by show g.commits + 1 ≤ _; omega⟩)).2
theorem GRep.new {K : Nat} (p : Nat) (most : Int) : GRep K (Gr.new most) p (fblk p most) := .inl ⟨rfl, rfl⟩
theorem beginR_tri {K : Nat} {g : Gr} {p : Nat} {L : List Blk} (hR : GRep K g p L) (hK : K + 1 ≤ 4000) {tx : Int} {ro : Bool} :
    Tri Try.prog 12 #[.pointer (some ⟨p, 0, none⟩), .int .i64 tx, .bool ro] L fun v L' => v = .tuple #[] ∧ GRep (K + 1) (g.beginQ tx ro) p L' :=
  (begin_tri hR hK).mono fun _ _ ⟨h1, M, h2, h3, h4, h5⟩ => ⟨h1, .inr ⟨M, h4, h2, h3, h5⟩⟩
theorem doomedR_tri {K : Nat} {g : Gr} {p : Nat} {L : List Blk} (hR : GRep K g p L) {tx : Int} : TriQ Try.prog 17 #[.pointer (some ⟨p, 0, none⟩), .int .i64 tx] L (.bool (g.isDoomed tx)) := by
  rcases hR with ⟨hg, rfl⟩ | ⟨M, rfl, rfl, hI, hS⟩
  · have e : g.isDoomed tx = false := by rw [hg]; rfl
    rw [e]
    generalize g.most = most
    have f_mixed := mixed; have f_en30 := en30; have f_fo72_2 := fo72_2; have f_fo72_5 := fo72_5; have f_ty3 := ty3; have f_ty4 := ty4; have f_un_69 : Und Try.prog 69 _ := ⟨Try.underlying69⟩
    have hf := findF_tri (p := p) (most := most) (tx := tx)
    refine tri_intro (args := [_, _]) Try.func17 rfl Try.ntmps17 rfl (rs := _) rfl rfl fun E R => ?_
    simp only [fr, fblk, List.cons_append, List.nil_append] at hf ⊢
    (refine sr_ ?_; (refine ac_ ?_); refine sn_ ?_; refine sr_ ?_; (refine mv_ ?_); (refine mv_ ?_); (apply so_callq; (exact Ev.func); (focus ((apply EvL.cons; (exact ev_)); (apply EvL.cons; (exact ev_)); exact EvL.nil)); (focus (repeat (first | exact App.nil | apply App.cons))); assumption; exact hf; (exact sel_); exact rfl); (refine asg_ ?_); refine sn_ ?_; refine sr_ ?_; (refine mv_ ?_); (refine se_ (ex_nep_f ev_ .const asm_) ?_); (refine mv_ ?_); (refine sk_ ?_); (refine sk_ ?_); (refine sk_ ?_); (refine sk_ ?_); (refine sk_ ?_); (refine se_ (ex_pick_f ev_ .const) ?_); (refine mv_ ?_); (refine sk_ ?_); (refine sk_ ?_); (refine sk_ ?_); (refine sk_ ?_); (refine se_ (ex_pick_f ev_ .const) ?_); (refine asg_ ?_); refine sn_ ?_; (apply sc_ret); (apply ret_ok; (focus ((apply Res.tmp; (exact ev_)); exact Res.nil)); (exact ⟨rfl, rfl⟩); (exact sel_); (exact appb_)))
  · exact doomed_tri hI
theorem edgeR_tri {K : Nat} {g : Gr} {p : Nat} {L : List Blk} (hR : GRep K g p L) {a b c : Int} :
    Tri Try.prog 13 #[.pointer (some ⟨p, 0, none⟩), .int .i64 a, .int .i64 b, .int .i64 c] L fun v L' => v = .int .i64 (g.edgeR a b c) ∧ GRep K (g.edgeG a b) p L' := by
  rcases hR with ⟨hg, rfl⟩ | ⟨M, rfl, rfl, hI, hS⟩
  · have e1 : g.edgeR a b c = 0 := by rw [hg]; rfl
    have e2 : g.edgeG a b = g := by rw [hg]; rfl
    rw [e1, e2]
    have hn := GRep.new (K := K) p g.most
    rw [← hg] at hn
    generalize g.most = most at *
    have f_mixed := mixed; have f_by79 := by79; have f_en17 := en17; have f_en30 := en30; have f_en32 := en32; have f_en33 := en33; have f_en34 := en34; have f_en35 := en35; have f_fo72_1 := fo72_1; have f_fo72_2 := fo72_2; have f_fo72_3 := fo72_3; have f_fo72_5 := fo72_5; have f_ty3 := ty3; have f_ty4 := ty4; have f_ty75 := ty75; have f_ty79 := ty79; have f_un_69 : Und Try.prog 69 _ := ⟨Try.underlying69⟩; have f_un_75 : Und Try.prog 75 _ := ⟨Try.underlying75⟩; have f_zero79 := zero79; have f_zv79 := zv79
    have hf1 := findF_tri (p := p) (most := most) (tx := a)
    have hf2 := findF_tri (p := p) (most := most) (tx := b)
    refine tri_intro (args := [_, _, _, _]) Try.func13 rfl Try.ntmps13 rfl (rs := _) rfl rfl fun E R => ?_
    simp only [fr, fblk, List.cons_append, List.nil_append] at hf1 hf2 hn ⊢
    (refine sr_ ?_; (refine ac_ ?_); refine sn_ ?_; refine sr_ ?_; (refine mv_ ?_); (refine mv_ ?_); (apply so_callq; (exact Ev.func); (focus ((apply EvL.cons; (exact ev_)); (apply EvL.cons; (exact ev_)); exact EvL.nil)); (focus (repeat (first | exact App.nil | apply App.cons))); assumption; exact hf1; (exact sel_); exact rfl); (refine mv_ ?_); (refine mv_ ?_); (apply so_callq; (exact Ev.func); (focus ((apply EvL.cons; (exact ev_)); (apply EvL.cons; (exact ev_)); exact EvL.nil)); (focus (repeat (first | exact App.nil | apply App.cons))); assumption; exact hf2; (exact sel_); exact rfl); (refine asg_ ?_); (refine asg_ ?_); refine sn_ ?_; (apply sc_seq); (apply sc_seq); (apply sc_quiet (id := 2); assumption; kernel_rfl); (refine qe_ (ex_move ev_) ?_); (refine qe_ (ex_eqp_t ev_ .const asm_) ?_); (refine qe_ (ex_move ev_) ?_); (refine qs_ ?_); (refine qs_ ?_); (refine qe_ (ex_pick_t ev_ .const) ?_); (refine qe_ (ex_move ev_) ?_); (refine qs_ ?_); (refine qs_ ?_); (refine qs_ ?_); (refine qe_ (ex_pick_t ev_ .const) ?_); (refine qe_ (ex_move ev_) ?_); (refine qs_ ?_); (refine qs_ ?_); (refine qs_ ?_); (refine qs_ ?_); (refine qs_ ?_); (refine qs_ ?_); (refine qu_ ?_); (refine qu_ ?_); (refine qu_ ?_); (refine qu_ ?_); (refine qu_ ?_); (refine qs_ ?_); (refine qe_ (ex_pick_t ev_ .const) ?_); (refine qe_ (ex_move ev_) ?_); (refine qs_ ?_); (refine qs_ ?_); (refine qs_ ?_); (refine qs_ ?_); (refine qs_ ?_); (refine qs_ ?_); (refine qu_ ?_); (refine qu_ ?_); (refine qu_ ?_); (refine qu_ ?_); (refine qu_ ?_); (refine qu_ ?_); (refine qu_ ?_); (refine qu_ ?_); (refine qu_ ?_); (refine qs_ ?_); (refine qe_ (ex_pick_t ev_ .const) ?_); (refine qe_ (ex_move ev_) ?_); (refine qs_ ?_); (refine qs_ ?_); (refine qs_ ?_); (refine qs_ ?_); (refine qs_ ?_); (refine qs_ ?_); (refine qu_ ?_); (refine qu_ ?_); (refine qu_ ?_); (refine qu_ ?_); (refine qu_ ?_); (refine qu_ ?_); (refine qu_ ?_); (refine qu_ ?_); (refine qu_ ?_); (refine qs_ ?_); (refine qe_ (ex_pick_t ev_ .const) ?_); (apply sq_nil); (apply nm_then); (refine ct_ ?_); refine sr_ ?_; (refine ac_ ?_); refine sn_ ?_; (apply sc_ret); (apply rt_then); (apply ret_ok; (focus ((apply Res.tmp; (exact ev_)); exact Res.nil)); (exact ⟨rfl, hn⟩); (exact sel_); (exact appb_)))
  · exact (edge_tri hI).mono fun _ _ ⟨h1, M', h2, h3, h4⟩ => ⟨h1, .inr ⟨M', h4.2.2.1, h2, h3, hS.edgeG a b⟩⟩
theorem checkR_tri {K : Nat} {g : Gr} {p : Nat} {L : List Blk} (hR : GRep K g p L) {a : Int} :
    Tri Try.prog 15 #[.pointer (some ⟨p, 0, none⟩), .int .i64 a] L fun v L' => v = .int .i64 (g.checkQ a).1 ∧ GRep K (g.checkQ a).2 p L' := by
  rcases hR with ⟨hg, rfl⟩ | ⟨M, rfl, rfl, hI, hS⟩
  · have e1 : g.checkQ a = (41, g) := by rw [hg]; rfl
    rw [e1]
    have hn := GRep.new (K := K) p g.most
    rw [← hg] at hn
    generalize g.most = most at *
    have f_mixed := mixed; have f_by3 := by3; have f_by69 := by69; have f_by79 := by79; have f_en30 := en30; have f_en31 := en31; have f_en34 := en34; have f_en35 := en35; have f_en37 := en37; have f_fo72_2 := fo72_2; have f_fo72_5 := fo72_5; have f_fo72_6 := fo72_6; have f_ty25 := ty25; have f_ty3 := ty3; have f_ty4 := ty4; have f_ty64 := ty64; have f_ty69 := ty69; have f_ty75 := ty75; have f_ty79 := ty79; have f_ty81 := ty81; have f_un_25 : Und Try.prog 25 _ := ⟨Try.underlying25⟩; have f_un_64 : Und Try.prog 64 _ := ⟨Try.underlying64⟩; have f_un_69 : Und Try.prog 69 _ := ⟨Try.underlying69⟩; have f_un_75 : Und Try.prog 75 _ := ⟨Try.underlying75⟩; have f_un_81 : Und Try.prog 81 _ := ⟨Try.underlying81⟩; have f_zero3 := zero3; have f_zero69 := zero69; have f_zero79 := zero79; have f_zv3 := zv3; have f_zv69 := zv69; have f_zv79 := zv79
    have hf1 := findF_tri (p := p) (most := most) (tx := a)
    refine tri_intro (args := [_, _]) Try.func15 rfl Try.ntmps15 rfl (rs := _) rfl rfl fun E R => ?_
    simp only [fr, fblk, List.cons_append, List.nil_append] at hf1 hn ⊢
    (refine sr_ ?_; (refine ac_ ?_); refine sn_ ?_; refine sr_ ?_; (refine mv_ ?_); (refine mv_ ?_); (apply so_callq; (exact Ev.func); (focus ((apply EvL.cons; (exact ev_)); (apply EvL.cons; (exact ev_)); exact EvL.nil)); (focus (repeat (first | exact App.nil | apply App.cons))); assumption; exact hf1; (exact sel_); exact rfl); (refine asg_ ?_); refine sn_ ?_; (apply sc_seq); refine sr_ ?_; (refine mv_ ?_); (refine se_ (ex_eqp_t ev_ .const asm_) ?_); (refine mv_ ?_); (refine sk_ ?_); (refine sk_ ?_); (refine sk_ ?_); (refine sk_ ?_); (refine sk_ ?_); (refine se_ (ex_pick_t ev_ .const) ?_); refine sn_ ?_; (refine ct_ ?_); refine sr_ ?_; (refine ac_ ?_); refine sn_ ?_; (apply sc_ret); (apply rt_then); (apply ret_ok; (focus ((apply Res.tmp; (exact ev_)); exact Res.nil)); (exact ⟨rfl, hn⟩); (exact sel_); (exact appb_)))
  · exact (check_tri hI).mono fun _ _ ⟨h1, h2, h3, h4⟩ => ⟨h1, .inr ⟨M, rfl, h2, h3, hS.checkQ a⟩⟩
theorem abortR_tri {K : Nat} {g : Gr} {p : Nat} {L : List Blk} (hR : GRep K g p L) {a : Int} :
    Tri Try.prog 14 #[.pointer (some ⟨p, 0, none⟩), .int .i64 a] L fun v L' => v = .tuple #[] ∧ GRep K (g.abortQ a) p L' := by
  rcases hR with ⟨hg, rfl⟩ | ⟨M, rfl, rfl, hI, hS⟩
  · have e1 : g.abortQ a = g := by rw [hg]; rfl
    rw [e1]
    have hn := GRep.new (K := K) p g.most
    rw [← hg] at hn
    generalize g.most = most at *
    have f_mixed := mixed; have f_en30 := en30; have f_en36 := en36; have f_fo66_2 := fo66_2; have f_fo72_2 := fo72_2; have f_fo72_6 := fo72_6; have f_fo72_7 := fo72_7; have f_ty3 := ty3; have f_ty64 := ty64; have f_ty69 := ty69; have f_un_64 : Und Try.prog 64 _ := ⟨Try.underlying64⟩; have f_un_69 : Und Try.prog 69 _ := ⟨Try.underlying69⟩; have f_zero69 := zero69; have f_zv69 := zv69
    have hf1 := findF_tri (p := p) (most := most) (tx := a)
    refine tri_intro (args := [_, _]) Try.func14 rfl Try.ntmps14 rfl (rs := []) rfl rfl fun E R => ?_
    simp only [fr, fblk, List.cons_append, List.nil_append] at hf1 hn ⊢
    (refine sr_ ?_; (refine mv_ ?_); (refine mv_ ?_); (apply so_callq; (exact Ev.func); (focus ((apply EvL.cons; (exact ev_)); (apply EvL.cons; (exact ev_)); exact EvL.nil)); (focus (repeat (first | exact App.nil | apply App.cons))); assumption; exact hf1; (exact sel_); exact rfl); (refine asg_ ?_); refine sn_ ?_; (apply sc_seq); refine sr_ ?_; (refine mv_ ?_); (refine se_ (ex_eqp_t ev_ .const asm_) ?_); (refine mv_ ?_); (refine sk_ ?_); (refine sk_ ?_); (refine sk_ ?_); (refine sk_ ?_); (refine sk_ ?_); (refine se_ (ex_pick_t ev_ .const) ?_); refine sn_ ?_; (refine ct_ ?_); (apply sc_ret); (apply rt_then); (apply ret_ok; (focus (exact Res.nil)); (exact ⟨rfl, hn⟩); (exact sel_); (exact appb_)))
  · exact (abort_tri hI hS).mono fun _ _ ⟨h1, M', h2, h3, h4⟩ => ⟨h1, .inr ⟨M', h4, h2, h3, hS.abortQ hI.n.gok a⟩⟩
theorem commitR_tri {K : Nat} {g : Gr} {p : Nat} {L : List Blk} (hR : GRep K g p L) (hK : K + 1 ≤ 4000) {a : Int} :
    Tri Try.prog 16 #[.pointer (some ⟨p, 0, none⟩), .int .i64 a] L fun v L' => v = .tuple #[] ∧ GRep (K + 1) (g.commitQ a) p L' := by
  rcases hR with ⟨hg, rfl⟩ | ⟨M, rfl, rfl, hI, hS⟩
  · have e1 : g.commitQ a = g := by rw [hg]; rfl
    rw [e1]
    have hn := GRep.new (K := K + 1) p g.most
    rw [← hg] at hn
    generalize g.most = most at *
    have f_mixed := mixed; have f_en30 := en30; have f_en36 := en36; have f_en38 := en38; have f_fo66_1 := fo66_1; have f_fo66_2 := fo66_2; have f_fo66_3 := fo66_3; have f_fo72_2 := fo72_2; have f_fo72_3 := fo72_3; have f_fo72_6 := fo72_6; have f_fo72_7 := fo72_7; have f_fo72_8 := fo72_8; have f_fo72_9 := fo72_9; have f_ty3 := ty3; have f_ty64 := ty64; have f_ty69 := ty69; have f_un_64 : Und Try.prog 64 _ := ⟨Try.underlying64⟩; have f_un_69 : Und Try.prog 69 _ := ⟨Try.underlying69⟩; have f_zero69 := zero69; have f_zv69 := zv69
    have hf1 := findF_tri (p := p) (most := most) (tx := a)
    refine tri_intro (args := [_, _]) Try.func16 rfl Try.ntmps16 rfl (rs := []) rfl rfl fun E R => ?_
    simp only [fr, fblk, List.cons_append, List.nil_append] at hf1 hn ⊢
    (refine sr_ ?_; (refine mv_ ?_); (refine mv_ ?_); (apply so_callq; (exact Ev.func); (focus ((apply EvL.cons; (exact ev_)); (apply EvL.cons; (exact ev_)); exact EvL.nil)); (focus (repeat (first | exact App.nil | apply App.cons))); assumption; exact hf1; (exact sel_); exact rfl); (refine asg_ ?_); refine sn_ ?_; (apply sc_seq); refine sr_ ?_; (refine mv_ ?_); (refine se_ (ex_eqp_t ev_ .const asm_) ?_); (refine mv_ ?_); (refine sk_ ?_); (refine sk_ ?_); (refine sk_ ?_); (refine sk_ ?_); (refine sk_ ?_); (refine se_ (ex_pick_t ev_ .const) ?_); refine sn_ ?_; (refine ct_ ?_); (apply sc_ret); (apply rt_then); (apply ret_ok; (focus (exact Res.nil)); (exact ⟨rfl, hn⟩); (exact sel_); (exact appb_)))
  · exact (commit_tri hI hS hK).mono fun _ _ ⟨h1, M', h2, h3, h4⟩ => ⟨h1, .inr ⟨M', h4, h2, h3, SymG.commitQ hI.n.gok hS hK a⟩⟩
theorem newR_tri {most : Int} : Tri Try.prog 10 #[.int .i64 most] [] fun v L => ∃ p, v = .pointer (some ⟨p, 0, none⟩) ∧ GRep 0 (Gr.new most) p L :=
  new_tri.mono fun _ _ ⟨p, h1, h2⟩ => ⟨p, h1, by rw [h2]; exact GRep.new p most⟩
end Go.Proofs.Ytomgkmoecbnddaa
