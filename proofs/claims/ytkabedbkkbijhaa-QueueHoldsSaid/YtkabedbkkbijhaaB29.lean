/-
  THE QUEUE'S LAWS: QueueHolds, walked. (Own work; steps printed by wip/gen/walk.py.)
-/
import Derived.Test.YtkabedbkkbijhaaB28
namespace Go.AI.Q
open Go Go.AI Go.Proofs
attribute [local irreducible] xOps xw
/-- The heap of QueueHolds: a desk; the refs that came; those that were let go. -/
structure HInv (h0 : AH) (D : Nat) (h : AH) (F : List Nat) (rv gv : Value) (d : DeskM) (rs gs : List Ref) : Prop where
  le : Le h0 h
  desk : Dk h D d F
  fp : ∀ b ∈ F, h0.n ≤ b ∧ b ∉ rowBlk rv ∧ b ∉ rowBlk gv
  ra : Acc h 2 rv (rs.map refV)
  ga : Acc h 2 gv (gs.map refV)
  rn : ∀ b ∈ rowBlk rv, h0.n ≤ b
  gn : ∀ b ∈ rowBlk gv, h0.n ≤ b ∧ b ∉ rowBlk rv
section
variable {h0 h : AH} {D : Nat} {F : List Nat} {rv gv : Value} {d : DeskM} {rs gs : List Ref}
theorem HInv.next {h' : AH} (I : HInv h0 D h F rv gv d rs gs) (x : Le h h') : HInv h0 D h' F rv gv d rs gs :=
  ⟨I.le.trans x, I.desk.le x, I.fp, I.ra.le x, I.ga.le x, I.rn, I.gn⟩
theorem HInv.came {x : Value} {new : List Ref} (I : HInv h0 D h F rv gv d rs gs) {g : TI} (hg : elemOfSlice tab 30 = some g) (hs : srcCells h g x = some (flat (new.map refV), (new.map refV).length)) (hr : rs.length + new.length ≤ 1000000) :
    ∃ p, aAppend tab h 30 30 rv x = some p ∧ HInv h0 D p.2 F p.1 gv d (rs ++ new) gs ∧ But (rowBlk rv) h p.2 ∧ ∀ b ∈ rowBlk p.1, b ∈ rowBlk rv ∨ h.n ≤ b := by
  rw [t30] at hg; cases hg
  obtain ⟨p, hp, A2, hB, hbl⟩ := acc_append (T := tab) (t := 30) (xt := 30) (x := x) I.ra t30 rfl (fun _ e => by cases e) rfl hs (sz_ref new) (roomOk_of (by simp; omega) (by simp; omega))
  rw [← List.map_append] at A2
  refine ⟨p, hp, ⟨hB.le I.le I.rn, I.desk.but hB fun b hb hF => (I.fp b hF).2.1 hb, fun b hb => ⟨(I.fp b hb).1, fun hm => ?_, (I.fp b hb).2.2⟩, A2, I.ga.but hB fun b hb => (I.gn b hb).2, fun b hb => ?_, fun b hb => ⟨(I.gn b hb).1, fun hm => ?_⟩⟩, hB, hbl⟩
  · rcases hbl b hm with y | y
    · exact (I.fp b hb).2.1 y
    · have := I.desk.lt b hb; omega
  · rcases hbl b hb with y | y
    · exact I.rn b y
    · exact Nat.le_trans I.le.1 y
  · rcases hbl b hm with y | y
    · exact (I.gn b hb).2 y
    · have := I.ga.blk_lt b hb; omega
theorem HInv.left {x : Value} {new : List Ref} (I : HInv h0 D h F rv gv d rs gs) {g : TI} (hg : elemOfSlice tab 30 = some g) (hs : srcCells h g x = some (flat (new.map refV), (new.map refV).length)) (hr : gs.length + new.length ≤ 1000000) :
    ∃ p, aAppend tab h 30 30 gv x = some p ∧ HInv h0 D p.2 F rv p.1 d rs (gs ++ new) ∧ But (rowBlk gv) h p.2 ∧ ∀ b ∈ rowBlk p.1, b ∈ rowBlk gv ∨ h.n ≤ b := by
  rw [t30] at hg; cases hg
  obtain ⟨p, hp, A2, hB, hbl⟩ := acc_append (T := tab) (t := 30) (xt := 30) (x := x) I.ga t30 rfl (fun _ e => by cases e) rfl hs (sz_ref new) (roomOk_of (by simp; omega) (by simp; omega))
  rw [← List.map_append] at A2
  have hrg : ∀ b ∈ rowBlk rv, b ∉ rowBlk gv := fun b hb hm => (I.gn b hm).2 hb
  refine ⟨p, hp, ⟨hB.le I.le fun b hb => (I.gn b hb).1, I.desk.but hB fun b hb hF => (I.fp b hF).2.2 hb, fun b hb => ⟨(I.fp b hb).1, (I.fp b hb).2.1, fun hm => ?_⟩, I.ra.but hB hrg, A2, I.rn, fun b hb => ?_⟩, hB, hbl⟩
  · rcases hbl b hm with y | y
    · exact (I.fp b hb).2.2 y
    · have := I.desk.lt b hb; omega
  · rcases hbl b hb with y | y
    · exact I.gn b y
    · exact ⟨Nat.le_trans I.le.1 y, fun hm => by have := I.ra.blk_lt b hm; omega⟩
theorem HInv.did {h' : AH} {F' : List Nat} {d' : DeskM} (I : HInv h0 D h F rv gv d rs gs) (R : Dk h' D d' F') (W : Went h h' F F') : HInv h0 D h' F' rv gv d' rs gs := by
  have hr : ∀ b ∈ rowBlk rv, b ∉ F := fun b hb hF => (I.fp b hF).2.1 hb
  have hg : ∀ b ∈ rowBlk gv, b ∉ F := fun b hb hF => (I.fp b hF).2.2 hb
  refine ⟨⟨Nat.le_trans I.le.1 W.n, fun b o e => W.keep b o (I.le.get e) fun hb => by have := (I.fp b hb).1; have := AH.get_lt e; omega⟩, R, fun b hb => ?_, I.ra.stay fun b hb o e => W.keep b o e (hr b hb), I.ga.stay fun b hb o e => W.keep b o e (hg b hb), I.rn, I.gn⟩
  rcases W.fp b hb with x | x
  · exact I.fp b x
  · refine ⟨Nat.le_trans I.le.1 x, fun hm => ?_, fun hm => ?_⟩
    · have := I.ra.blk_lt b hm; omega
    · have := I.ga.blk_lt b hm; omega
end
/-- The last look: none was let go more often than it came. -/
theorem holds_tail {h4 h : AH} {fr : Fr} {Q : AO → AH → Prop} {rs gs : List Ref} {n : Nat} (hl : Le h h4) (hrl : rs.length ≤ 1000000) (hgl : gs.length ≤ 1000000) (hcount : ∀ r, gs.count r ≤ rs.count r) (hQ : ∀ h', Le h h' → Q (.ret (.bool true)) h')
    (f5 : fr 5 = .bool true) (f7 : fr 7 = .int .i64 n) (f8 : fr 8 = refsV rs) (f9 : fr 9 = refsV gs) :
    xw tab C Y (((XC.region x3_24).seq (XC.block 6 (((XC.region x3_25).seq (XC.cond (Operand.tmp 102) XC.skip (XC.exit 6))).seq ((XC.block 7 ((XC.region x3_26).seq (XC.cond (Operand.tmp 117) ((XC.region x3_27).seq XC.ret) XC.skip))).seq (XC.region x3_28))).loop)).seq ((XC.region x3_29).seq XC.ret)) fr h4 (retQ tab [ResultVar.tmp 4] Q) := by
  rw [← fr_fix f5, ← fr_fix f7, ← fr_fix f8, ← fr_fix f9]
  refine w_seq ?_
  refine w_seq (w_region ?_)
  refine xo_val rfl rfl ⟨⟩ ?_
  refine xo_nil (t_norm ?_)
  refine w_block (w_loop (fun N fr h' => ∃ i : Nat, N + i = gs.length ∧ Le h h' ∧ fr 5 = .bool true ∧ fr 7 = .int .i64 n ∧ fr 8 = refsV rs ∧ fr 9 = refsV gs ∧ fr 17 = .int .i64 i) gs.length ?_ ?_)
  · exact ⟨0, rfl, hl, rfl, rfl, rfl, rfl, rfl⟩
  rintro N fr h5 ⟨i, hN, hle, f5, f7, f8, f9, f17⟩
  rw [← fr_fix f5, ← fr_fix f7, ← fr_fix f8, ← fr_fix f9, ← fr_fix f17]
  refine w_seq ?_
  refine w_seq (w_region ?_)
  refine xo_val rfl rfl ⟨⟩ ?_
  refine xo_val rfl rfl ⟨⟩ ?_
  first | refine xo_val rfl (a_len_map rfl rfl rfl rfl rfl rfl) ⟨⟩ ?_ | refine xo_val rfl (a_len_ps rfl rfl rfl rfl rfl rfl) ⟨⟩ ?_ | refine xo_val rfl rfl ⟨⟩ ?_
  refine xo_val rfl (a_bin rfl rfl (bin_lss _ _ _ _ _)) ⟨⟩ ?_
  refine xo_nil (t_norm ?_)
  refine w_cond rfl (fun hlt => w_skip (t_norm ?_)) (fun _ => w_exit (t_exit (b_here (id := 6) (t_norm ?_))))
  · have hlt' : (i : Int) < gs.length := of_decide_eq_true hlt
    obtain ⟨x, hx⟩ : ∃ x, gs[i]? = some x := ⟨_, List.getElem?_eq_getElem (by omega)⟩
    have hc : decide (((gs.count x : Nat) : Int) > (rs.count x : Nat)) = false := decide_eq_false (by have := hcount x; omega)
    refine w_seq (w_block ?_)
    refine w_seq (w_region ?_)
    refine xo_val rfl rfl ⟨⟩ ?_
    refine xo_val rfl rfl ⟨⟩ ?_
    refine xo_val rfl rfl ⟨⟩ ?_
    first | refine xo_val rfl (a_ix_mapN rfl rfl rfl rfl rfl rfl (by assumption)) ⟨⟩ ?_ | refine xo_val rfl (a_ix_ps rfl rfl rfl rfl rfl rfl (by omega) (by assumption)) ⟨⟩ ?_ | refine xo_val rfl (a_ixs rfl rfl rfl rfl rfl (by omega)) ⟨⟩ ?_ | refine xo_val rfl (a_ixa rfl rfl rfl rfl rfl (by omega)) ⟨⟩ ?_
    first | refine xo_val rfl (a_loads_pp rfl rfl rfl rfl) ⟨⟩ ?_ | refine xo_val rfl (a_loads rfl rfl rfl (cells_of (by repeat' first | assumption | exact AH.get_push_new _ _ | exact AH.get_push_at (by first | (simp only [AH.n_push, AH.n_set]; done) | (simp only [AH.n_push, AH.n_set]; rfl)) | refine AH.get_push_old ?_ _ | apply get_same | refine get_other ?_ (by first | assumption | omega | (simp only [AH.n_push, AH.n_set]; omega) | (dsimp only; omega) | (dsimp only; simp only [AH.n_push, AH.n_set]; omega)) | refine Le.get (by assumption) ?_) rfl rfl rfl)) ⟨⟩ ?_
    refine xo_val rfl rfl ⟨⟩ ?_
    refine xo_val rfl rfl ⟨⟩ ?_
    refine xo_val rfl rfl ⟨⟩ ?_
    first | refine xo_val rfl (a_ix_mapN rfl rfl rfl rfl rfl rfl (by assumption)) ⟨⟩ ?_ | refine xo_val rfl (a_ix_ps rfl rfl rfl rfl rfl rfl (by omega) (by assumption)) ⟨⟩ ?_ | refine xo_val rfl (a_ixs rfl rfl rfl rfl rfl (by omega)) ⟨⟩ ?_ | refine xo_val rfl (a_ixa rfl rfl rfl rfl rfl (by omega)) ⟨⟩ ?_
    first | refine xo_val rfl (a_loads_pp rfl rfl rfl rfl) ⟨⟩ ?_ | refine xo_val rfl (a_loads rfl rfl rfl (cells_of (by repeat' first | assumption | exact AH.get_push_new _ _ | exact AH.get_push_at (by first | (simp only [AH.n_push, AH.n_set]; done) | (simp only [AH.n_push, AH.n_set]; rfl)) | refine AH.get_push_old ?_ _ | apply get_same | refine get_other ?_ (by first | assumption | omega | (simp only [AH.n_push, AH.n_set]; omega) | (dsimp only; omega) | (dsimp only; simp only [AH.n_push, AH.n_set]; omega)) | refine Le.get (by assumption) ?_) rfl rfl rfl)) ⟨⟩ ?_
    refine xo_call rfl rfl (xo_pure (count_ok gs x (by omega)) fun h6 hle6 => ⟨⟨fun _ => a_loads_pp rfl rfl rfl rfl, trivial⟩, ?_⟩)
    refine xo_call rfl rfl (xo_pure (count_ok rs x (by omega)) fun h7 hle7 => ⟨⟨⟩, ?_⟩)
    refine xo_val rfl (a_bin rfl rfl (bin_gtr _ _ _ _ _)) ⟨⟩ ?_
    refine xo_nil (t_norm ?_)
    refine w_cond rfl (fun e => by rw [hc] at e; cases e) (fun _ => w_skip (b_norm (t_norm ?_)))
    refine w_region ?_
    refine xo_val rfl rfl ⟨⟩ ?_
    refine xo_val rfl (a_bin rfl rfl (bin_add64 _ _ _ _ (by omega))) ⟨⟩ ?_
    refine xo_val rfl rfl ⟨⟩ ?_
    refine xo_nil ?_
    exact ⟨N - 1, by omega, i + 1, by omega, (hle.trans hle6).trans hle7, rfl, rfl, rfl, rfl, rfl⟩
  · have hd : decide ((n : Int) ≥ 0) = true := decide_eq_true (by omega)
    refine w_seq (w_region ?_)
    refine xo_val rfl rfl ⟨⟩ ?_
    refine xo_val rfl rfl ⟨⟩ ?_
    first | refine xo_skip (want_no rfl (by first | rfl | assumption)) ?_ | refine xo_skip rfl ?_ | refine xo_val (want_if rfl (by first | rfl | assumption)) rfl ⟨⟩ ?_
    first | refine xo_skip (want_no rfl (by first | rfl | assumption)) ?_ | refine xo_skip rfl ?_ | refine xo_val (want_if rfl (by first | rfl | assumption)) (a_bin rfl rfl (bin_geq _ _ _ _ _)) ⟨⟩ ?_
    first | refine xo_val rfl (a_pick_t rfl (by first | rfl | assumption) rfl) ⟨⟩ ?_ | refine xo_val rfl (a_pick_f rfl (by first | rfl | assumption) rfl) ⟨⟩ ?_
    refine xo_val rfl rfl ⟨⟩ ?_
    refine xo_nil (t_norm ?_)
    refine w_ret (ret_of rfl ?_)
    have := hQ _ hle
    rw [← hd] at this
    exact this
end Go.AI.Q
