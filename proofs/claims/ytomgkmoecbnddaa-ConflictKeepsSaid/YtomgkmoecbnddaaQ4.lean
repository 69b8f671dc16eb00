/- Conflict: into. -/
import Derived.Test.YtomgkmoecbnddaaQ3
set_option linter.unusedVariables false
set_option linter.unusedSimpArgs false
set_option linter.unnecessarySimpa false
namespace Go.Proofs.Ytomgkmoecbnddaa
open Go.Sym

/-- structures as a slice -/
def SlS (ρ : Int → Raw) (S : List St3) (v : Value) (B : List Blk) : Prop :=
  (S = [] ∧ v = .slice none 0 0 ∧ B = []) ∨ ∃ (b cap : Nat) (junk : List Value), S ≠ [] ∧ v = .slice (some ⟨b, 0, none⟩) S.length cap ∧ (S.flatMap (s3cells ρ) ++ junk).length = cap * 3 ∧ B = [(b, .cells (S.flatMap (s3cells ρ) ++ junk).toArray 79)]
theorem s3_len (ρ : Int → Raw) (S : List St3) : (S.flatMap (s3cells ρ)).length = S.length * 3 := by
  induction S with
  | nil => rfl
  | cons s S ih => rw [List.flatMap_cons, List.length_append, ih, List.length_cons]; show 3 + _ = _; omega
theorem tri_frame {P : Program} {f : FuncId} {args : Array Value} {pre A : List Blk} {post : Value → List Blk → Prop} (h : Tri P f args pre post) : Tri P f args (pre ++ A) fun v L => ∃ L0, post v L0 ∧ L = L0 ++ A := .mk fun E R w H =>
  (h.out E (A ++ R) w (by rw [← List.append_assoc]; exact H)).mono fun _ _ ⟨v, L, he, hq, H'⟩ => ⟨v, L ++ A, he, ⟨L, hq, rfl⟩, by rw [List.append_assoc]; exact H'⟩
theorem klist_len {K : Nat} {g : Gr} {ρ : Int → Raw} (hI : InvN K g ρ) {l : List Int} (hn : l.Nodup) (hs : ∀ k ∈ l, ∃ m ∈ g.live, m.id = k) : l.length ≤ 4000 := by
  have := nodup_len l (g.live.map (·.id)) hn fun x hx => by obtain ⟨m, h1, h2⟩ := hs x hx; exact List.mem_map.2 ⟨m, h1, h2⟩
  rw [List.length_map] at this
  have := hI.sz.1; have := hI.sz.2.2.2; omega
theorem keysK_tri {K : Nat} {g : Gr} {ρ : Int → Raw} (hI : InvN K g ρ) {l : List Int} {m : Nat} {es : Array MapEntry} {c : Nat} {pre : List Blk} (hM : MapOf (Value.int .i64) (klist ρ l) es c) (hs : ∀ k ∈ l, ∃ m ∈ g.live, m.id = k) (hm : ((m, .map es c) : Blk) ∈ pre) :
    Tri Try.prog 31 #[.map (some m)] pre fun v L => ∃ B, SlI (sortI l) v B ∧ L = B ++ pre := by
  obtain ⟨A, hA⟩ := pick_of_mem hm
  have hk : l.Nodup := by have := hM.keys; rwa [klist_keys] at this
  have h := tri_frame (A := A) (keys_tri hM (by unfold klist; rw [List.length_map]; have := klist_len hI hk hs; omega) (m := m))
  refine tri_perm' (tri_perm hA (h.mono fun v L ⟨L0, hp, hL⟩ => ?_))
  subst hL
  rcases hp with ⟨h1, h2, h3⟩ | ⟨nb, cap, zs, junk, h1, h2, h3, h4, h5, h6⟩
  · subst h3
    refine ⟨pre, hA.symm, [], .inl ⟨?_, h2, rfl⟩, rfl⟩
    have : l = [] := by have := congrArg (List.map (·.1)) h1; rwa [klist_keys] at this
    rw [this]; rfl
  · subst h3
    rw [klist_keys] at h5
    have e := sortI_of h5 h6
    subst e
    refine ⟨_, (hA.symm.cons _), [(nb, .cells ((sortI l).map (Value.int .i64) ++ junk).toArray 3)], .inr ⟨nb, cap, junk, ?_, h2, h4, rfl⟩, rfl⟩
    intro h0
    have : l = [] := by have := (sortI_perm l).symm; rw [h0] at this; exact List.Perm.eq_nil this
    rw [this] at h1; exact h1 rfl
theorem SlI.form {zs : List Int} {v : Value} {B : List Blk} (h : SlI zs v B) : ∃ po cap, v = .slice po zs.length cap := by
  rcases h with ⟨rfl, rfl, _⟩ | ⟨b, cap, junk, _, rfl, _, _⟩
  · exact ⟨_, _, rfl⟩
  · exact ⟨_, _, rfl⟩
theorem zs_nth {zs : List Int} {junk : List Value} {i : Nat} (h : i < zs.length) : (zs.map (Value.int .i64) ++ junk)[0 + i * 1]? = some (.int .i64 zs[i]) := by
  rw [Nat.zero_add, Nat.mul_one, List.getElem?_append_left (by simpa using h)]
  simp [h]
theorem take_fm {α : Type} (zs : List Int) (f : Int → Option α) {i : Nat} (h : i < zs.length) : (zs.take (i + 1)).filterMap f = (zs.take i).filterMap f ++ (f zs[i]).toList := by
  rw [List.take_succ_eq_append_getElem h, List.filterMap_append]
  congr 1
theorem into_tri {K : Nat} {g : Gr} {ρ : Int → Raw} (hI : InvN K g ρ) {a p : Nd} (ha : a ∈ g.nodes) (hp : p ∈ g.nodes) :
    Tri Try.prog 33 #[.pointer (some ⟨(ρ a.id).b, 0, none⟩), .pointer (some ⟨(ρ p.id).b, 0, none⟩)] (NC ρ g.nodes ++ NM ρ g.nodes)
      fun v L => ∃ B, SlS ρ (intoL g.nodes a p) v B ∧ L = B ++ (NC ρ g.nodes ++ NM ρ g.nodes) := by
  have f_mixed := mixed; have f_by3 := by3; have f_by79 := by79; have f_en31 := en31; have f_en38 := en38; have f_fo72_2 := fo72_2; have f_fo72_3 := fo72_3; have f_fo72_4 := fo72_4; have f_fo72_5 := fo72_5; have f_fo72_7 := fo72_7; have f_fo72_9 := fo72_9; have f_pl79_0 := pl79_0; have f_pl79_1 := pl79_1; have f_pl79_2 := pl79_2; have f_st79 := st79; have f_ty25 := ty25; have f_ty3 := ty3; have f_ty4 := ty4; have f_ty64 := ty64; have f_ty69 := ty69; have f_ty75 := ty75; have f_ty79 := ty79; have f_un_25 : Und Try.prog 25 _ := ⟨Try.underlying25⟩; have f_un_64 : Und Try.prog 64 _ := ⟨Try.underlying64⟩; have f_un_75 : Und Try.prog 75 _ := ⟨Try.underlying75⟩; have f_zero3 := zero3; have f_zero69 := zero69; have f_zero79 := zero79; have f_zv3 := zv3; have f_zv69 := zv69; have f_zv79 := zv79
  have f_kl := KL3
  have hac := nb_cell (ρ := ρ) ha
  have hpc := nb_cell (ρ := ρ) hp
  have hfar : TriQ Try.prog 38 #[.pointer (some ⟨(ρ a.id).b, 0, none⟩)] (NC ρ g.nodes) (.int .i64 a.far) := farN_tri ha (hI.rg a ha) hI.sz.2.2.2
  simp only [ncell, Nd.cells] at hac hpc
  refine tri_intro (args := [_, _]) Try.func33 rfl Try.ntmps33 rfl (rs := _) rfl rfl fun E R => ?_
  simp only [fr, List.append_assoc]
  unfold intoL
  ((apply sc_seq); ((fail_if_success (apply sc_region (id := 1))); apply sc_region); (refine ac_ ?_); refine sn_ ?_; (apply sc_seq); (apply sc_seq))
  refine SC.mono (Q := fun u f L => u = .normal ∧ (∃ c, (c = (a.gone || p.gone)) ∧ At f 31 (.bool c)) ∧ At f 0 (.pointer (some ⟨(ρ a.id).b, 0, none⟩)) ∧ At f 1 (.pointer (some ⟨(ρ p.id).b, 0, none⟩)) ∧ At f 4 (.slice none 0 0) ∧ L = NC ρ g.nodes ++ (NM ρ g.nodes ++ R)) ?_ ?_
  · cases h1 : a.dm with
    | true =>
      rw [h1] at hac
      cases h2 : p.dm with
      | true =>
        rw [h2] at hpc
        ((apply sc_region); (refine mv_ ?_); (refine se_ (ex_nilCheck ev_) ?_); (refine se_ (ex_fieldAddr ev_ asm_) ?_); (refine se_ (ex_load1 ev_ asm_ mem_ nth_) ?_); (apply so_split; (apply ex_eql; (exact ev_); ((exact Ev.const))); exact rfl; refine ⟨fun _ => ?_, fun _ => ?_⟩); (refine mv_ ?_); (refine wt_ ?_); (refine mv_ ?_); (refine wt_ ?_); (refine se_ (ex_nilCheck ev_) ?_); (refine wt_ ?_); (refine se_ (ex_fieldAddr ev_ asm_) ?_); (refine wt_ ?_); (refine se_ (ex_load1 ev_ asm_ mem_ nth_) ?_); (refine se_ (ex_pick_t ev_ ev_) ?_); (refine mv_ ?_); (refine sk_ ?_); (refine sk_ ?_); (refine sk_ ?_); (refine sk_ ?_); (refine sk_ ?_); (refine sk_ ?_); (refine su_ ?_); (refine su_ ?_); (refine su_ ?_); (refine su_ ?_); (refine sk_ ?_); (refine se_ (ex_pick_t ev_ .const) ?_); (apply so_nil); (apply And.intro rfl; refine ⟨⟨_, ?_, at_⟩, at_, at_, at_, rfl⟩; (focus (simp [Nd.gone, *]; done))); (refine mv_ ?_); (refine sk_ ?_); (refine sk_ ?_); (refine sk_ ?_); (refine sk_ ?_); (refine se_ (ex_pick_f ev_ .const) ?_); (refine mv_ ?_); (refine wt_ ?_); (refine mv_ ?_); (refine wt_ ?_); (refine se_ (ex_nilCheck ev_) ?_); (refine wt_ ?_); (refine se_ (ex_fieldAddr ev_ asm_) ?_); (refine wt_ ?_); (refine se_ (ex_load1 ev_ asm_ mem_ nth_) ?_); (refine wt_ ?_); (apply so_split; (apply ex_eql; (exact ev_); ((exact Ev.const))); exact rfl; refine ⟨fun _ => ?_, fun _ => ?_⟩); (refine wt_ ?_); (refine mv_ ?_); (refine wt_ ?_); (refine mv_ ?_); (refine wt_ ?_); (refine se_ (ex_nilCheck ev_) ?_); (refine wt_ ?_); (refine se_ (ex_fieldAddr ev_ asm_) ?_); (refine wt_ ?_); (refine se_ (ex_load1 ev_ asm_ mem_ nth_) ?_); (refine wt_ ?_); (refine se_ (ex_pick_t ev_ ev_) ?_); (refine se_ (ex_pick_f ev_ ev_) ?_); (apply so_nil); (apply And.intro rfl; refine ⟨⟨_, ?_, at_⟩, at_, at_, at_, rfl⟩; (focus (simp [Nd.gone, *]; done))); (refine wt_ ?_); (refine mv_ ?_); (refine sk_ ?_); (refine sk_ ?_); (refine sk_ ?_); (refine sk_ ?_); (refine wt_ ?_); (refine se_ (ex_pick_f ev_ .const) ?_); (refine se_ (ex_pick_f ev_ ev_) ?_); (apply so_nil); (apply And.intro rfl; refine ⟨⟨_, ?_, at_⟩, at_, at_, at_, rfl⟩; (focus (simp [Nd.gone, *]; done))))
      | false =>
        rw [h2] at hpc
        ((apply sc_region); (refine mv_ ?_); (refine se_ (ex_nilCheck ev_) ?_); (refine se_ (ex_fieldAddr ev_ asm_) ?_); (refine se_ (ex_load1 ev_ asm_ mem_ nth_) ?_); (apply so_split; (apply ex_eql; (exact ev_); ((exact Ev.const))); exact rfl; refine ⟨fun _ => ?_, fun _ => ?_⟩); (refine mv_ ?_); (refine wt_ ?_); (refine mv_ ?_); (refine wt_ ?_); (refine se_ (ex_nilCheck ev_) ?_); (refine wt_ ?_); (refine se_ (ex_fieldAddr ev_ asm_) ?_); (refine wt_ ?_); (refine se_ (ex_load1 ev_ asm_ mem_ nth_) ?_); (refine se_ (ex_pick_t ev_ ev_) ?_); (refine mv_ ?_); (refine sk_ ?_); (refine sk_ ?_); (refine sk_ ?_); (refine sk_ ?_); (refine sk_ ?_); (refine sk_ ?_); (refine su_ ?_); (refine su_ ?_); (refine su_ ?_); (refine su_ ?_); (refine sk_ ?_); (refine se_ (ex_pick_t ev_ .const) ?_); (apply so_nil); (apply And.intro rfl; refine ⟨⟨_, ?_, at_⟩, at_, at_, at_, rfl⟩; (focus (simp [Nd.gone, *]; done))); (refine mv_ ?_); (refine sk_ ?_); (refine sk_ ?_); (refine sk_ ?_); (refine sk_ ?_); (refine se_ (ex_pick_f ev_ .const) ?_); (refine mv_ ?_); (refine wt_ ?_); (refine mv_ ?_); (refine wt_ ?_); (refine se_ (ex_nilCheck ev_) ?_); (refine wt_ ?_); (refine se_ (ex_fieldAddr ev_ asm_) ?_); (refine wt_ ?_); (refine se_ (ex_load1 ev_ asm_ mem_ nth_) ?_); (refine wt_ ?_); (apply so_split; (apply ex_eql; (exact ev_); ((exact Ev.const))); exact rfl; refine ⟨fun _ => ?_, fun _ => ?_⟩); (refine wt_ ?_); (refine mv_ ?_); (refine wt_ ?_); (refine mv_ ?_); (refine wt_ ?_); (refine se_ (ex_nilCheck ev_) ?_); (refine wt_ ?_); (refine se_ (ex_fieldAddr ev_ asm_) ?_); (refine wt_ ?_); (refine se_ (ex_load1 ev_ asm_ mem_ nth_) ?_); (refine wt_ ?_); (refine se_ (ex_pick_t ev_ ev_) ?_); (refine se_ (ex_pick_f ev_ ev_) ?_); (apply so_nil); (apply And.intro rfl; refine ⟨⟨_, ?_, at_⟩, at_, at_, at_, rfl⟩; (focus (simp [Nd.gone, *]; done))); (refine wt_ ?_); (refine mv_ ?_); (refine sk_ ?_); (refine sk_ ?_); (refine sk_ ?_); (refine sk_ ?_); (refine wt_ ?_); (refine se_ (ex_pick_f ev_ .const) ?_); (refine se_ (ex_pick_f ev_ ev_) ?_); (apply so_nil); (apply And.intro rfl; refine ⟨⟨_, ?_, at_⟩, at_, at_, at_, rfl⟩; (focus (simp [Nd.gone, *]; done))))
    | false =>
      rw [h1] at hac
      cases h2 : p.dm with
      | true =>
        rw [h2] at hpc
        ((apply sc_region); (refine mv_ ?_); (refine se_ (ex_nilCheck ev_) ?_); (refine se_ (ex_fieldAddr ev_ asm_) ?_); (refine se_ (ex_load1 ev_ asm_ mem_ nth_) ?_); (apply so_split; (apply ex_eql; (exact ev_); ((exact Ev.const))); exact rfl; refine ⟨fun _ => ?_, fun _ => ?_⟩); (refine mv_ ?_); (refine wt_ ?_); (refine mv_ ?_); (refine wt_ ?_); (refine se_ (ex_nilCheck ev_) ?_); (refine wt_ ?_); (refine se_ (ex_fieldAddr ev_ asm_) ?_); (refine wt_ ?_); (refine se_ (ex_load1 ev_ asm_ mem_ nth_) ?_); (refine se_ (ex_pick_t ev_ ev_) ?_); (refine mv_ ?_); (refine wt_ ?_); (refine mv_ ?_); (refine wt_ ?_); (refine se_ (ex_nilCheck ev_) ?_); (refine wt_ ?_); (refine se_ (ex_fieldAddr ev_ asm_) ?_); (refine wt_ ?_); (refine se_ (ex_load1 ev_ asm_ mem_ nth_) ?_); (refine wt_ ?_); (apply so_split; (apply ex_eql; (exact ev_); ((exact Ev.const))); exact rfl; refine ⟨fun _ => ?_, fun _ => ?_⟩); (refine wt_ ?_); (refine mv_ ?_); (refine wt_ ?_); (refine mv_ ?_); (refine wt_ ?_); (refine se_ (ex_nilCheck ev_) ?_); (refine wt_ ?_); (refine se_ (ex_fieldAddr ev_ asm_) ?_); (refine wt_ ?_); (refine se_ (ex_load1 ev_ asm_ mem_ nth_) ?_); (refine wt_ ?_); (refine se_ (ex_pick_t ev_ ev_) ?_); (refine se_ (ex_pick_f ev_ ev_) ?_); (apply so_nil); (apply And.intro rfl; refine ⟨⟨_, ?_, at_⟩, at_, at_, at_, rfl⟩; (focus (simp [Nd.gone, *]; done))); (refine wt_ ?_); (refine mv_ ?_); (refine sk_ ?_); (refine sk_ ?_); (refine sk_ ?_); (refine sk_ ?_); (refine wt_ ?_); (refine se_ (ex_pick_f ev_ .const) ?_); (refine se_ (ex_pick_f ev_ ev_) ?_); (apply so_nil); (apply And.intro rfl; refine ⟨⟨_, ?_, at_⟩, at_, at_, at_, rfl⟩; (focus (simp [Nd.gone, *]; done))); (refine mv_ ?_); (refine sk_ ?_); (refine sk_ ?_); (refine sk_ ?_); (refine sk_ ?_); (refine se_ (ex_pick_f ev_ .const) ?_); (refine mv_ ?_); (refine wt_ ?_); (refine mv_ ?_); (refine wt_ ?_); (refine se_ (ex_nilCheck ev_) ?_); (refine wt_ ?_); (refine se_ (ex_fieldAddr ev_ asm_) ?_); (refine wt_ ?_); (refine se_ (ex_load1 ev_ asm_ mem_ nth_) ?_); (refine wt_ ?_); (apply so_split; (apply ex_eql; (exact ev_); ((exact Ev.const))); exact rfl; refine ⟨fun _ => ?_, fun _ => ?_⟩); (refine wt_ ?_); (refine mv_ ?_); (refine wt_ ?_); (refine mv_ ?_); (refine wt_ ?_); (refine se_ (ex_nilCheck ev_) ?_); (refine wt_ ?_); (refine se_ (ex_fieldAddr ev_ asm_) ?_); (refine wt_ ?_); (refine se_ (ex_load1 ev_ asm_ mem_ nth_) ?_); (refine wt_ ?_); (refine se_ (ex_pick_t ev_ ev_) ?_); (refine se_ (ex_pick_f ev_ ev_) ?_); (apply so_nil); (apply And.intro rfl; refine ⟨⟨_, ?_, at_⟩, at_, at_, at_, rfl⟩; (focus (simp [Nd.gone, *]; done))); (refine wt_ ?_); (refine mv_ ?_); (refine sk_ ?_); (refine sk_ ?_); (refine sk_ ?_); (refine sk_ ?_); (refine wt_ ?_); (refine se_ (ex_pick_f ev_ .const) ?_); (refine se_ (ex_pick_f ev_ ev_) ?_); (apply so_nil); (apply And.intro rfl; refine ⟨⟨_, ?_, at_⟩, at_, at_, at_, rfl⟩; (focus (simp [Nd.gone, *]; done))))
      | false =>
        rw [h2] at hpc
        ((apply sc_region); (refine mv_ ?_); (refine se_ (ex_nilCheck ev_) ?_); (refine se_ (ex_fieldAddr ev_ asm_) ?_); (refine se_ (ex_load1 ev_ asm_ mem_ nth_) ?_); (apply so_split; (apply ex_eql; (exact ev_); ((exact Ev.const))); exact rfl; refine ⟨fun _ => ?_, fun _ => ?_⟩); (refine mv_ ?_); (refine wt_ ?_); (refine mv_ ?_); (refine wt_ ?_); (refine se_ (ex_nilCheck ev_) ?_); (refine wt_ ?_); (refine se_ (ex_fieldAddr ev_ asm_) ?_); (refine wt_ ?_); (refine se_ (ex_load1 ev_ asm_ mem_ nth_) ?_); (refine se_ (ex_pick_t ev_ ev_) ?_); (refine mv_ ?_); (refine wt_ ?_); (refine mv_ ?_); (refine wt_ ?_); (refine se_ (ex_nilCheck ev_) ?_); (refine wt_ ?_); (refine se_ (ex_fieldAddr ev_ asm_) ?_); (refine wt_ ?_); (refine se_ (ex_load1 ev_ asm_ mem_ nth_) ?_); (refine wt_ ?_); (apply so_split; (apply ex_eql; (exact ev_); ((exact Ev.const))); exact rfl; refine ⟨fun _ => ?_, fun _ => ?_⟩); (refine wt_ ?_); (refine mv_ ?_); (refine wt_ ?_); (refine mv_ ?_); (refine wt_ ?_); (refine se_ (ex_nilCheck ev_) ?_); (refine wt_ ?_); (refine se_ (ex_fieldAddr ev_ asm_) ?_); (refine wt_ ?_); (refine se_ (ex_load1 ev_ asm_ mem_ nth_) ?_); (refine wt_ ?_); (refine se_ (ex_pick_t ev_ ev_) ?_); (refine se_ (ex_pick_f ev_ ev_) ?_); (apply so_nil); (apply And.intro rfl; refine ⟨⟨_, ?_, at_⟩, at_, at_, at_, rfl⟩; (focus (simp [Nd.gone, *]; done))); (refine wt_ ?_); (refine mv_ ?_); (refine sk_ ?_); (refine sk_ ?_); (refine sk_ ?_); (refine sk_ ?_); (refine wt_ ?_); (refine se_ (ex_pick_f ev_ .const) ?_); (refine se_ (ex_pick_f ev_ ev_) ?_); (apply so_nil); (apply And.intro rfl; refine ⟨⟨_, ?_, at_⟩, at_, at_, at_, rfl⟩; (focus (simp [Nd.gone, *]; done))); (refine mv_ ?_); (refine sk_ ?_); (refine sk_ ?_); (refine sk_ ?_); (refine sk_ ?_); (refine se_ (ex_pick_f ev_ .const) ?_); (refine mv_ ?_); (refine wt_ ?_); (refine mv_ ?_); (refine wt_ ?_); (refine se_ (ex_nilCheck ev_) ?_); (refine wt_ ?_); (refine se_ (ex_fieldAddr ev_ asm_) ?_); (refine wt_ ?_); (refine se_ (ex_load1 ev_ asm_ mem_ nth_) ?_); (refine wt_ ?_); (apply so_split; (apply ex_eql; (exact ev_); ((exact Ev.const))); exact rfl; refine ⟨fun _ => ?_, fun _ => ?_⟩); (refine wt_ ?_); (refine mv_ ?_); (refine wt_ ?_); (refine mv_ ?_); (refine wt_ ?_); (refine se_ (ex_nilCheck ev_) ?_); (refine wt_ ?_); (refine se_ (ex_fieldAddr ev_ asm_) ?_); (refine wt_ ?_); (refine se_ (ex_load1 ev_ asm_ mem_ nth_) ?_); (refine wt_ ?_); (refine se_ (ex_pick_t ev_ ev_) ?_); (refine se_ (ex_pick_f ev_ ev_) ?_); (apply so_nil); (apply And.intro rfl; refine ⟨⟨_, ?_, at_⟩, at_, at_, at_, rfl⟩; (focus (simp [Nd.gone, *]; done))); (refine wt_ ?_); (refine mv_ ?_); (refine sk_ ?_); (refine sk_ ?_); (refine sk_ ?_); (refine sk_ ?_); (refine wt_ ?_); (refine se_ (ex_pick_f ev_ .const) ?_); (refine se_ (ex_pick_f ev_ ev_) ?_); (apply so_nil); (apply And.intro rfl; refine ⟨⟨_, ?_, at_⟩, at_, at_, at_, rfl⟩; (focus (simp [Nd.gone, *]; done))))
  rintro u f L ⟨rfl, ⟨c, hc, a31⟩, a0, a1, a4, rfl⟩
  apply nm_then
  by_cases hg : a.gone = true ∨ p.gone = true
  · have : c = true := by rw [hc]; simpa using hg
    subst this
    rw [if_pos hg]
    ((refine ct_ ?_); refine sr_ ?_; (refine ac_ ?_); refine sn_ ?_; (apply sc_ret); (apply rt_then); (apply ret_ok; (focus ((apply Res.tmp; (exact ev_)); exact Res.nil)); (exact ⟨[], .inl ⟨rfl, rfl, rfl⟩, rfl⟩); (exact sel_); (exact appb_)))
  · have : c = false := by rw [hc]; simpa using hg
    subst this
    rw [if_neg hg]
    ((refine cf_ ?_); (apply sc_skip); (apply nm_then); (apply sc_seq); (apply sc_seq))
    refine SC.mono (Q := fun u f L => u = .normal ∧ (∃ c, (c = decide (p.least < a.far ∧ (p.state ≠ 2 ∨ p.least < p.seq))) ∧ At f 56 (.bool c)) ∧ At f 0 (.pointer (some ⟨(ρ a.id).b, 0, none⟩)) ∧ At f 1 (.pointer (some ⟨(ρ p.id).b, 0, none⟩)) ∧ At f 4 (.slice none 0 0) ∧ L = NC ρ g.nodes ++ (NM ρ g.nodes ++ R)) ?_ ?_
    · ((apply sc_quiet (id := 3); assumption; kernel_rfl); (refine qe_ (ex_move ev_) ?_); (refine qe_ (ex_nilCheck ev_) ?_); (refine qe_ (ex_fieldAddr ev_ asm_) ?_); (refine qe_ (ex_load1 ev_ asm_ mem_ nth_) ?_); (refine qe_ (ex_move ev_) ?_); (apply sq_call; (exact Ev.func); (focus ((apply EvL.cons; (exact ev_)); exact EvL.nil)); (focus (repeat (first | exact App.nil | apply App.cons))); assumption; exact hfar; (exact sel_); exact rfl); (apply sq_split; (apply ex_lss; (exact ev_); (exact ev_)); exact rfl; refine ⟨fun _ => ?_, fun _ => ?_⟩); (refine qe_ (ex_move ev_) ?_); (refine qw_ ?_); (refine qe_ (ex_move ev_) ?_); (refine qw_ ?_); (refine qe_ (ex_nilCheck ev_) ?_); (refine qw_ ?_); (refine qe_ (ex_fieldAddr ev_ asm_) ?_); (refine qw_ ?_); (refine qe_ (ex_load1 ev_ asm_ mem_ nth_) ?_); (refine qw_ ?_); (apply sq_split; (apply ex_neq; (exact ev_); ((exact Ev.const))); exact rfl; refine ⟨fun _ => ?_, fun _ => ?_⟩); (refine qw_ ?_); (refine qe_ (ex_move ev_) ?_); (refine qs_ ?_); (refine qs_ ?_); (refine qs_ ?_); (refine qs_ ?_); (refine qs_ ?_); (refine qs_ ?_); (refine qs_ ?_); (refine qs_ ?_); (refine qs_ ?_); (refine qw_ ?_); (refine qe_ (ex_pick_t ev_ .const) ?_); (refine qe_ (ex_pick_t ev_ ev_) ?_); (apply sq_nil); (apply And.intro rfl; refine ⟨⟨_, ?_, at_⟩, at_, at_, at_, rfl⟩; (focus (simp [*]; done))); (refine qw_ ?_); (refine qe_ (ex_move ev_) ?_); (refine qw_ ?_); (refine qe_ (ex_move ev_) ?_); (refine qw_ ?_); (refine qe_ (ex_nilCheck ev_) ?_); (refine qw_ ?_); (refine qe_ (ex_fieldAddr ev_ asm_) ?_); (refine qw_ ?_); (refine qe_ (ex_load1 ev_ asm_ mem_ nth_) ?_); (refine qw_ ?_); (refine qe_ (ex_move ev_) ?_); (refine qw_ ?_); (refine qe_ (ex_nilCheck ev_) ?_); (refine qw_ ?_); (refine qe_ (ex_fieldAddr ev_ asm_) ?_); (refine qw_ ?_); (refine qe_ (ex_load1 ev_ asm_ mem_ nth_) ?_); (refine qw_ ?_); (apply sq_split; (apply ex_lss; (exact ev_); (exact ev_)); exact rfl; refine ⟨fun _ => ?_, fun _ => ?_⟩); (refine qw_ ?_); (refine qe_ (ex_pick_f ev_ ev_) ?_); (refine qe_ (ex_pick_t ev_ ev_) ?_); (apply sq_nil); (apply And.intro rfl; refine ⟨⟨_, ?_, at_⟩, at_, at_, at_, rfl⟩; (focus (simp [*]; done))); (refine qw_ ?_); (refine qe_ (ex_pick_f ev_ ev_) ?_); (refine qe_ (ex_pick_t ev_ ev_) ?_); (apply sq_nil); (apply And.intro rfl; refine ⟨⟨_, ?_, at_⟩, at_, at_, at_, rfl⟩; (focus (simp [*]; done))); (refine qe_ (ex_move ev_) ?_); (refine qs_ ?_); (refine qs_ ?_); (refine qs_ ?_); (refine qs_ ?_); (refine qs_ ?_); (refine qs_ ?_); (refine qu_ ?_); (refine qu_ ?_); (refine qu_ ?_); (refine qu_ ?_); (refine qu_ ?_); (refine qu_ ?_); (refine qu_ ?_); (refine qu_ ?_); (refine qu_ ?_); (refine qs_ ?_); (refine qe_ (ex_pick_f ev_ .const) ?_); (apply sq_nil); (apply And.intro rfl; refine ⟨⟨_, ?_, at_⟩, at_, at_, at_, rfl⟩; (focus (simp [*]; done))))
    rintro u f L ⟨rfl, ⟨c, hc, a56⟩, a0, a1, a4, rfl⟩
    apply nm_then
    refine SC.mono (Q := fun u f L => u = .normal ∧ At f 0 (.pointer (some ⟨(ρ a.id).b, 0, none⟩)) ∧ At f 1 (.pointer (some ⟨(ρ p.id).b, 0, none⟩)) ∧ ∃ v B, SlS ρ (into0 a p) v B ∧ At f 4 v ∧ Held L (B ++ (NC ρ g.nodes ++ NM ρ g.nodes)) R) ?_ ?_
    · unfold into0
      by_cases hc1 : p.least < a.far ∧ (p.state ≠ 2 ∨ p.least < p.seq)
      · rw [decide_eq_true hc1] at hc
        subst hc
        rw [if_pos hc1]
        ((refine ct_ ?_); (apply sc_region); (refine mv_ ?_); (refine mv_ ?_); (refine mv_ ?_); (apply so_ex; (apply ex_build; ((focus ((apply EvP.cons; (exact ev_)); (apply EvP.cons; (exact ev_)); exact EvP.nil))); assumption; ((focus (repeat (first | exact Bld.nil (by assumption) | (apply Bld.cons; assumption; exact rfl; exact rfl; (focus (repeat (first | exact SetSub.nil | apply SetSub.take | apply SetSub.drop))))))))); exact rfl); (apply so_buildS; (focus ((apply EvP.cons; (exact ev_)); exact EvP.nil)); assumption; assumption; assumption; (focus (repeat (first | exact SeqP.nil | (apply SeqP.cons; exact rfl; exact rfl) | exact App.nil | apply App.cons))); exact rfl; exact rfl; exact rfl; intro _); (apply so_app0; (exact ev_); (exact ev_); (exact mem_); assumption; assumption; assumption; exact rfl; assumption; exact rfl; exact rfl; (first | assumption | omega | decide); (first | assumption | omega | decide); exact rfl; exact rfl; exact rfl; intro _ _ _ _); (refine asg_ ?_); (apply so_nil))
        rename_i b1 b cap junk hj
        refine ⟨rfl, at_, at_, _, [(b, .cells ([(some a.id, p.id, none)].flatMap (s3cells ρ) ++ junk).toArray 79)], .inr ⟨b, cap, junk, by simp, rfl, hj, rfl⟩, at_, ?_⟩
        simp only [List.cons_append, List.nil_append]
        exact held_
      · rw [decide_eq_false hc1] at hc
        subst hc
        rw [if_neg hc1]
        ((refine cf_ ?_); (apply sc_skip))
        refine ⟨rfl, at_, at_, _, [], .inl ⟨rfl, rfl, rfl⟩, at_, ?_⟩
        simp only [List.cons_append, List.nil_append]
        exact held_
    rintro u f L ⟨rfl, a0, a1, v4, B4, hS, a4, ⟨G, hG⟩⟩
    apply nm_then
    refine sc_perm hG ?_
    simp only [List.append_assoc]
    ((apply sc_seq); (apply sc_seq))
    refine SC.mono (Q := fun u f L => u = .normal ∧ At f 0 (.pointer (some ⟨(ρ a.id).b, 0, none⟩)) ∧ At f 1 (.pointer (some ⟨(ρ p.id).b, 0, none⟩)) ∧ At f 4 v4 ∧ At f 68 (.int .i64 ((sortI p.outs).length : Int)) ∧ At f 69 (.int .i64 0) ∧
      ∃ v5 B5, SlI (sortI p.outs) v5 B5 ∧ At f 67 v5 ∧ Held L (B5 ++ (B4 ++ (NC ρ g.nodes ++ NM ρ g.nodes))) R) ?_ ?_
    · by_cases hp2 : p.state = 2
      · have hpe : p ∈ g.ended := (List.mem_append.1 hp).resolve_left fun h => hI.lv p h hp2
        have ho : p.outs = [] := (hI.em p hpe).2
        rw [show mvN p (ρ p.id).mo = .map none from by unfold mvN; rw [if_pos hp2]] at hpc
        rw [ho]
        ((apply sc_region); (refine mv_ ?_); (refine se_ (ex_nilCheck ev_) ?_); (refine se_ (ex_fieldAddr ev_ asm_) ?_); (apply so_ex; (apply ex_load1; (exact ev_); assumption; (repeat (first | exact List.mem_append_left _ hpc | apply List.mem_append_right)); (exact nth_)); exact rfl); (apply so_callq; (exact Ev.func); (focus ((apply EvL.cons; (exact ev_)); exact EvL.nil)); (focus (repeat (first | exact App.nil | apply App.cons))); assumption; exact keysNil_tri; (exact sel_); exact rfl); (refine se_ (ex_len_slice ev_ asm_) ?_); (refine se_ (ex_move .const) ?_); (apply so_nil))
        refine ⟨rfl, at_, at_, at_, at_, at_, _, [], .inl ⟨rfl, rfl, rfl⟩, at_, ?_⟩
        simp only [List.nil_append]
        exact held_
      · have hpl : p ∈ g.live := (List.mem_append.1 hp).resolve_right fun h => hp2 (hI.en p h)
        rw [show mvN p (ρ p.id).mo = .map (some (ρ p.id).mo) from by unfold mvN; rw [if_neg hp2]] at hpc
        have hks := keysK_tri hI (hI.mo p hpl) (fun k hk => (hI.co p hpl k hk).2) (nb_outs (ρ := ρ) hp hp2)
        ((apply sc_region); (refine mv_ ?_); (refine se_ (ex_nilCheck ev_) ?_); (refine se_ (ex_fieldAddr ev_ asm_) ?_); (apply so_ex; (apply ex_load1; (exact ev_); assumption; (repeat (first | exact List.mem_append_left _ hpc | apply List.mem_append_right)); (exact nth_)); exact rfl))
        (apply so_call; (exact Ev.func); (focus ((apply EvL.cons; (exact ev_)); exact EvL.nil)); (focus (repeat (first | exact App.nil | apply App.cons))); assumption; (exact hks); (exact sel_); exact rfl)
        rintro v L ⟨B5, hB5, rfl⟩
        simp only [List.append_assoc]
        obtain ⟨po, cap, hv⟩ := hB5.form
        subst hv
        ((refine se_ (ex_len_slice ev_ asm_) ?_); (refine se_ (ex_move .const) ?_); (apply so_nil))
        refine ⟨rfl, at_, at_, at_, at_, at_, _, B5, hB5, at_, ?_⟩
        exact held_
    clear hG
    rintro u f L ⟨rfl, a0, a1, a4, a68, a69, v5, B5, hB5, a67, ⟨G, hG⟩⟩
    apply nm_then
    refine sc_perm hG ?_
    simp only [List.append_assoc]
    obtain ⟨po, cap5, rfl⟩ := hB5.form
    ((apply sc_block))
    have hlen : (sortI p.outs).length ≤ 4000 := by
      rw [(sortI_perm p.outs).length_eq]
      by_cases hp2 : p.state = 2
      · rw [(hI.em p ((List.mem_append.1 hp).resolve_left fun h => hI.lv p h hp2)).2]; exact Nat.zero_le _
      · have hpl : p ∈ g.live := (List.mem_append.1 hp).resolve_right fun h => hp2 (hI.en p h)
        have := (hI.mo p hpl).keys
        rw [klist_keys] at this
        exact klist_len hI this fun k hk => (hI.co p hpl k hk).2
    refine sc_loop (fun k f L => ∃ i : Nat, k = (sortI p.outs).length - i ∧ i ≤ (sortI p.outs).length ∧ At f 0 (.pointer (some ⟨(ρ a.id).b, 0, none⟩)) ∧ At f 1 (.pointer (some ⟨(ρ p.id).b, 0, none⟩)) ∧ At f 67 (.slice po (sortI p.outs).length cap5) ∧ At f 68 (.int .i64 ((sortI p.outs).length : Int)) ∧ At f 69 (.int .i64 (i : Int)) ∧
      ∃ v B, SlS ρ (into0 a p ++ ((sortI p.outs).take i).filterMap (intoK g.nodes a p)) v B ∧ At f 4 v ∧ Held L (B5 ++ (B ++ (NC ρ g.nodes ++ NM ρ g.nodes))) R)
      _ ⟨0, rfl, Nat.zero_le _, at_, at_, at_, at_, at_, v4, B4, by rw [List.take_zero, List.filterMap_nil, List.append_nil]; exact hS, at_, held_⟩ ?_
    clear hG
    clear hS a4
    rintro k f L ⟨i, hk, hi, a0, a1, a67, a68, a69, v, B, hS, a4, ⟨G, hG⟩⟩
    refine sc_perm hG ?_
    simp only [List.append_assoc]
    by_cases hlt : i < (sortI p.outs).length
    · have hlt' : (i : Int) < ((sortI p.outs).length : Int) := by omega
      have hne : p.outs ≠ [] := fun h => by rw [h] at hlt; exact absurd hlt (Nat.not_lt_zero _)
      have hp2 : p.state ≠ 2 := fun h => hne (hI.em p ((List.mem_append.1 hp).resolve_left fun h2 => hI.lv p h2 h)).2
      have hpl : p ∈ g.live := (List.mem_append.1 hp).resolve_right fun h => hp2 (hI.en p h)
      rw [show mvN p (ρ p.id).mo = .map (some (ρ p.id).mo) from by unfold mvN; rw [if_neg hp2]] at hpc
      have hpm := nb_outs (ρ := ρ) hp hp2
      have hM := hI.mo p hpl
      have hko : (sortI p.outs)[i] ∈ p.outs := (sortI_perm p.outs).mem_iff.1 (List.getElem_mem hlt)
      obtain ⟨nk, hnk, hid⟩ := (hI.co p hpl _ hko).2
      have hnc := nb_cell (ρ := ρ) (l := g.nodes) (List.mem_append_left _ hnk)
      simp only [ncell, Nd.cells] at hnc
      have hlook : (lookV (klist ρ p.outs) (sortI p.outs)[i]).getD (.pointer none) = .pointer (some ⟨(ρ nk.id).b, 0, none⟩) := by
        rw [lookV_klist, if_pos hko, hid]; rfl
      rcases hB5 with ⟨h0, _⟩ | ⟨b5, cap6, junk5, h0, hv5, hj5, rfl⟩
      · rw [h0] at hlt; exact absurd hlt (Nat.not_lt_zero _)
      injection hv5 with hv5 _ _
      subst hv5
      simp only [List.cons_append, List.nil_append]
      have hz := zs_nth (junk := junk5) hlt
      have htk := take_fm (sortI p.outs) (intoK g.nodes a p) hlt
      generalize hkk : (sortI p.outs)[i] = kk at *
      have e1 : ((i + 1 : Nat) : Int) = (i : Int) + 1 := by omega
      ((apply sc_seq); ((fail_if_success (apply sc_region (id := 9))); apply sc_region); (refine se_ (ex_lss_t ev_ ev_ om_) ?_); refine sn_ ?_; (apply sc_seq); (refine ct_ ?_); (apply sc_skip); (apply nm_then); (apply sc_seq); (apply sc_block); (apply sc_seq); ((fail_if_success (apply sc_region (id := 9))); apply sc_region); (refine se_ (ex_indexAddr ev_ ev_ asm_ asm_ lit_ lt_) ?_); (apply so_ex; (apply ex_load1r; (exact ev_); assumption; (exact mem_); exact hz); exact rfl); (refine asg_ ?_); refine sn_ ?_; (apply sc_seq); ((fail_if_success (apply sc_region (id := 9))); apply sc_region); (refine mv_ ?_); (refine se_ (ex_nilCheck ev_) ?_); (refine se_ (ex_fieldAddr ev_ asm_) ?_); (apply so_ex; (apply ex_load1; (exact ev_); assumption; (repeat (first | exact List.mem_append_left _ hpc | apply List.Mem.tail | apply List.mem_append_right)); (exact nth_)); exact rfl); (refine mv_ ?_); (apply so_ex; (apply ex_look; (exact ev_); (exact mem_); assumption; (exact ev_); (first | exact keyEq .. | exact rfl); assumption; assumption; assumption; (first | exact lookEq .. | exact lookEq3 .. | exact lookEq4 .. | assumption | exact rfl)); exact rfl); (refine asg_ ?_); refine sn_ ?_; (apply sc_seq))
      refine SC.mono (Q := fun u f L => u = .normal ∧ (∃ c, (c = decide (nk.state = 1 ∧ p.state ≠ 2 ∧ a.ro = false ∧ a.state ≠ 2)) ∧ At f 104 (.bool c)) ∧ At f 0 (.pointer (some ⟨(ρ a.id).b, 0, none⟩)) ∧ At f 1 (.pointer (some ⟨(ρ p.id).b, 0, none⟩)) ∧ At f 67 (.slice (some ⟨b5, 0, none⟩) (sortI p.outs).length cap5) ∧ At f 68 (.int .i64 ((sortI p.outs).length : Int)) ∧ At f 69 (.int .i64 (i : Int)) ∧ At f 4 v ∧ At f 7 (.pointer (some ⟨(ρ nk.id).b, 0, none⟩)) ∧
        L = (b5, .cells ((sortI p.outs).map (Value.int .i64) ++ junk5).toArray 3) :: (B ++ (NC ρ g.nodes ++ (NM ρ g.nodes ++ (G ++ R))))) ?_ ?_
      · cases hro : a.ro with
        | true =>
          rw [hro] at hac
          ((apply sc_region); (refine mv_ ?_); (refine se_ (ex_nilCheck ev_) ?_); (refine se_ (ex_fieldAddr ev_ asm_) ?_); (refine se_ (ex_load1 ev_ asm_ mem_ nth_) ?_); (apply so_split; (apply ex_eql; (exact ev_); ((exact Ev.const))); exact rfl; refine ⟨fun _ => ?_, fun _ => ?_⟩); (refine mv_ ?_); (refine wt_ ?_); (refine mv_ ?_); (refine wt_ ?_); (refine se_ (ex_nilCheck ev_) ?_); (refine wt_ ?_); (refine se_ (ex_fieldAddr ev_ asm_) ?_); (refine wt_ ?_); (refine se_ (ex_load1 ev_ asm_ mem_ nth_) ?_); (refine wt_ ?_); (refine se_ (ex_neq_t ev_ .const om_) ?_); (refine se_ (ex_pick_t ev_ ev_) ?_); (refine mv_ ?_); (refine wt_ ?_); (refine mv_ ?_); (refine wt_ ?_); (refine se_ (ex_nilCheck ev_) ?_); (refine wt_ ?_); (refine se_ (ex_fieldAddr ev_ asm_) ?_); (refine wt_ ?_); (refine se_ (ex_load1 ev_ asm_ mem_ nth_) ?_); (refine wt_ ?_); (refine se_ (ex_not ev_) ?_); (refine se_ (ex_pick_t ev_ ev_) ?_); (refine mv_ ?_); (refine sk_ ?_); (refine sk_ ?_); (refine sk_ ?_); (refine sk_ ?_); (refine sk_ ?_); (refine se_ (ex_pick_f ev_ .const) ?_); (apply so_nil); (apply And.intro rfl; refine ⟨⟨_, ?_, at_⟩, at_, at_, at_, at_, at_, at_, at_, rfl⟩; (focus (simp [*]; done))); (refine mv_ ?_); (refine sk_ ?_); (refine sk_ ?_); (refine sk_ ?_); (refine sk_ ?_); (refine sk_ ?_); (refine se_ (ex_pick_f ev_ .const) ?_); (refine mv_ ?_); (refine sk_ ?_); (refine sk_ ?_); (refine sk_ ?_); (refine sk_ ?_); (refine sk_ ?_); (refine se_ (ex_pick_f ev_ .const) ?_); (refine mv_ ?_); (refine sk_ ?_); (refine sk_ ?_); (refine sk_ ?_); (refine sk_ ?_); (refine sk_ ?_); (refine se_ (ex_pick_f ev_ .const) ?_); (apply so_nil); (apply And.intro rfl; refine ⟨⟨_, ?_, at_⟩, at_, at_, at_, at_, at_, at_, at_, rfl⟩; (focus (simp [*]; done))))
        | false =>
          rw [hro] at hac
          ((apply sc_region); (refine mv_ ?_); (refine se_ (ex_nilCheck ev_) ?_); (refine se_ (ex_fieldAddr ev_ asm_) ?_); (refine se_ (ex_load1 ev_ asm_ mem_ nth_) ?_); (apply so_split; (apply ex_eql; (exact ev_); ((exact Ev.const))); exact rfl; refine ⟨fun _ => ?_, fun _ => ?_⟩); (refine mv_ ?_); (refine wt_ ?_); (refine mv_ ?_); (refine wt_ ?_); (refine se_ (ex_nilCheck ev_) ?_); (refine wt_ ?_); (refine se_ (ex_fieldAddr ev_ asm_) ?_); (refine wt_ ?_); (refine se_ (ex_load1 ev_ asm_ mem_ nth_) ?_); (refine wt_ ?_); (refine se_ (ex_neq_t ev_ .const om_) ?_); (refine se_ (ex_pick_t ev_ ev_) ?_); (refine mv_ ?_); (refine wt_ ?_); (refine mv_ ?_); (refine wt_ ?_); (refine se_ (ex_nilCheck ev_) ?_); (refine wt_ ?_); (refine se_ (ex_fieldAddr ev_ asm_) ?_); (refine wt_ ?_); (refine se_ (ex_load1 ev_ asm_ mem_ nth_) ?_); (refine wt_ ?_); (refine se_ (ex_not ev_) ?_); (refine se_ (ex_pick_t ev_ ev_) ?_); (refine mv_ ?_); (refine wt_ ?_); (refine mv_ ?_); (refine wt_ ?_); (refine se_ (ex_nilCheck ev_) ?_); (refine wt_ ?_); (refine se_ (ex_fieldAddr ev_ asm_) ?_); (refine wt_ ?_); (refine se_ (ex_load1 ev_ asm_ mem_ nth_) ?_); (refine wt_ ?_); (apply so_split; (apply ex_neq; (exact ev_); ((exact Ev.const))); exact rfl; refine ⟨fun _ => ?_, fun _ => ?_⟩); (refine se_ (ex_pick_t ev_ ev_) ?_); (apply so_nil); (apply And.intro rfl; refine ⟨⟨_, ?_, at_⟩, at_, at_, at_, at_, at_, at_, at_, rfl⟩; (focus (simp [*]; done))); (refine se_ (ex_pick_t ev_ ev_) ?_); (apply so_nil); (apply And.intro rfl; refine ⟨⟨_, ?_, at_⟩, at_, at_, at_, at_, at_, at_, at_, rfl⟩; (focus (simp [*]; done))); (refine mv_ ?_); (refine sk_ ?_); (refine sk_ ?_); (refine sk_ ?_); (refine sk_ ?_); (refine sk_ ?_); (refine se_ (ex_pick_f ev_ .const) ?_); (refine mv_ ?_); (refine sk_ ?_); (refine sk_ ?_); (refine sk_ ?_); (refine sk_ ?_); (refine sk_ ?_); (refine se_ (ex_pick_f ev_ .const) ?_); (refine mv_ ?_); (refine sk_ ?_); (refine sk_ ?_); (refine sk_ ?_); (refine sk_ ?_); (refine sk_ ?_); (refine se_ (ex_pick_f ev_ .const) ?_); (apply so_nil); (apply And.intro rfl; refine ⟨⟨_, ?_, at_⟩, at_, at_, at_, at_, at_, at_, at_, rfl⟩; (focus (simp [*]; done))))
      clear a0 a1 a67 a68 a69 a4
      rintro u f L ⟨rfl, ⟨c, hc, a104⟩, a0, a1, a67, a68, a69, a4, a7, rfl⟩
      apply nm_then
      have hst : stt g.nodes kk = nk.state := by rw [← hid]; exact stt_mem hI.nd (List.mem_append_left _ hnk)
      by_cases hcn : nk.state = 1 ∧ p.state ≠ 2 ∧ a.ro = false ∧ a.state ≠ 2
      · rw [decide_eq_true hcn] at hc
        subst hc
        have hik : intoK g.nodes a p kk = some (some a.id, p.id, some kk) := by unfold intoK; rw [hst, if_pos hcn]
        rw [hik, Option.toList_some] at htk
        rcases hS with ⟨h1, h2, h3⟩ | ⟨b4, cap4, junk4, h1, h2, h3, h4⟩
        · subst h2 h3
          simp only [List.nil_append]
          ((refine ct_ ?_); (apply sc_region); (refine mv_ ?_); (refine mv_ ?_); (refine mv_ ?_); (refine mv_ ?_); (apply so_ex; (apply ex_build; ((focus ((apply EvP.cons; (exact ev_)); (apply EvP.cons; (exact ev_)); (apply EvP.cons; (exact ev_)); exact EvP.nil))); assumption; ((focus (repeat (first | exact Bld.nil (by assumption) | (apply Bld.cons; assumption; exact rfl; exact rfl; (focus (repeat (first | exact SetSub.nil | apply SetSub.take | apply SetSub.drop))))))))); exact rfl); (apply so_buildS; (focus ((apply EvP.cons; (exact ev_)); exact EvP.nil)); assumption; assumption; assumption; (focus (repeat (first | exact SeqP.nil | (apply SeqP.cons; exact rfl; exact rfl) | exact App.nil | apply App.cons))); exact rfl; exact rfl; exact rfl; intro _); (apply so_app0; (exact ev_); (exact ev_); (exact mem_); assumption; assumption; assumption; exact rfl; assumption; exact rfl; exact rfl; (first | assumption | omega | decide); (first | assumption | omega | decide); exact rfl; exact rfl; exact rfl; intro _ _ _ _); (refine asg_ ?_); (apply so_nil); (apply nm_block); (apply nm_then); (apply sc_region); (refine se_ (ex_add ev_ .const wr_) ?_); (refine mv_ ?_); (apply so_nil); (apply nm_then))
          rename_i b1 b cap junk hj
          refine ⟨(sortI p.outs).length - (i + 1), by omega, i + 1, rfl, by omega, at_, at_, at_, at_, by rw [e1]; exact at_, .slice (some ⟨b, 0, none⟩) 1 cap, [(b, .cells ([(some a.id, p.id, some kk)].flatMap (s3cells ρ) ++ junk).toArray 79)], ?_, ?_, ?_⟩
          · rw [htk, ← List.append_assoc, h1, List.nil_append]
            exact .inr ⟨b, cap, junk, by simp, rfl, hid ▸ hj, rfl⟩
          · exact at_
          · simp only [List.cons_append, List.nil_append, List.flatMap_cons, List.flatMap_nil, List.append_nil]
            rw [← hid]
            exact held_
        · subst h2 h4
          simp only [List.cons_append, List.nil_append]
          have hxl := s3_len ρ (into0 a p ++ ((sortI p.outs).take i).filterMap (intoK g.nodes a p))
          have hbl : (into0 a p ++ ((sortI p.outs).take i).filterMap (intoK g.nodes a p)).length ≤ 4001 := by
            have h5 := List.length_filterMap_le (intoK g.nodes a p) ((sortI p.outs).take i)
            have h6 : (into0 a p).length ≤ 1 := by unfold into0; split <;> simp
            rw [List.length_append]
            rw [List.length_take] at h5
            omega
          generalize hgS : into0 a p ++ ((sortI p.outs).take i).filterMap (intoK g.nodes a p) = S at *
          have htk2 : into0 a p ++ ((sortI p.outs).take (i + 1)).filterMap (intoK g.nodes a p) = S ++ [(some a.id, p.id, some kk)] := by rw [htk, ← List.append_assoc, hgS]
          ((refine ct_ ?_); (apply sc_region); (refine mv_ ?_); (refine mv_ ?_); (refine mv_ ?_); (refine mv_ ?_); (apply so_ex; (apply ex_build; ((focus ((apply EvP.cons; (exact ev_)); (apply EvP.cons; (exact ev_)); (apply EvP.cons; (exact ev_)); exact EvP.nil))); assumption; ((focus (repeat (first | exact Bld.nil (by assumption) | (apply Bld.cons; assumption; exact rfl; exact rfl; (focus (repeat (first | exact SetSub.nil | apply SetSub.take | apply SetSub.drop))))))))); exact rfl); (apply so_buildS; (focus ((apply EvP.cons; (exact ev_)); exact EvP.nil)); assumption; assumption; assumption; (focus (repeat (first | exact SeqP.nil | (apply SeqP.cons; exact rfl; exact rfl) | exact App.nil | apply App.cons))); exact rfl; exact rfl; exact rfl; intro _); (apply so_app1; (exact ev_); (exact ev_); (exact pick_); (exact mem_); assumption; assumption; assumption; assumption; assumption; exact rfl; assumption; exact rfl; exact rfl; (first | assumption | omega | decide); (first | assumption | omega | decide); exact rfl; exact rfl; exact rfl; intro _ _ _ _ _); (refine asg_ ?_); (apply so_nil); (apply nm_block); (apply nm_then); (apply sc_region); (refine se_ (ex_add ev_ .const wr_) ?_); (refine mv_ ?_); (apply so_nil); (apply nm_then))
          rename_i b1 b cap junk hj hj2
          have e2 : (S ++ [(some a.id, p.id, some kk)]).flatMap (s3cells ρ) = S.flatMap (s3cells ρ) ++ [.pointer (some ⟨(ρ a.id).b, 0, none⟩), .pointer (some ⟨(ρ p.id).b, 0, none⟩), .pointer (some ⟨(ρ nk.id).b, 0, none⟩)] := by
            rw [List.flatMap_append, hid]; rfl
          have e3 : (S ++ [(some a.id, p.id, some kk)]).length = S.length + 1 := by simp
          refine ⟨(sortI p.outs).length - (i + 1), by omega, i + 1, rfl, by omega, at_, at_, at_, at_, by rw [e1]; exact at_, .slice (some ⟨b, 0, none⟩) (S.length + 1) cap, [(b, .cells ((S ++ [(some a.id, p.id, some kk)]).flatMap (s3cells ρ) ++ junk).toArray 79)], ?_, ?_, ?_⟩
          · rw [htk2]
            exact .inr ⟨b, cap, junk, by simp, by rw [e3], by rw [e2]; exact hj, rfl⟩
          · exact at_
          · rw [e2]
            simp only [List.cons_append, List.nil_append]
            exact held_
      · rw [decide_eq_false hcn] at hc
        subst hc
        have hik : intoK g.nodes a p kk = none := by unfold intoK; rw [hst, if_neg hcn]
        rw [hik, Option.toList_none, List.append_nil] at htk
        ((refine cf_ ?_); (apply sc_skip); (apply nm_block); (apply nm_then); (apply sc_region); (refine se_ (ex_add ev_ .const wr_) ?_); (refine mv_ ?_); (apply so_nil); (apply nm_then))
        refine ⟨(sortI p.outs).length - (i + 1), by omega, i + 1, rfl, by omega, at_, at_, at_, at_, by rw [e1]; exact at_, v, B, by rw [htk]; exact hS, at_, held_⟩
    · have hlt' : ¬ (i : Int) < ((sortI p.outs).length : Int) := by omega
      obtain rfl : i = (sortI p.outs).length := by omega
      rw [List.take_length] at hS
      (refine sr_ ?_; (refine se_ (ex_lss_f ev_ ev_ om_) ?_); refine sn_ ?_; (apply sc_seq); (refine cf_ ?_); (apply sc_exit); (apply et_then); (apply et_then); (apply et_hit); (apply nm_then); refine sr_ ?_; (refine mv_ ?_); (refine asg_ ?_); refine sn_ ?_; (apply sc_ret); (apply ret_ok; (focus ((apply Res.tmp; (exact ev_)); exact Res.nil)); (exact ⟨B, hS, rfl⟩); (exact sel_); (exact appb_)))
end Go.Proofs.Ytomgkmoecbnddaa
