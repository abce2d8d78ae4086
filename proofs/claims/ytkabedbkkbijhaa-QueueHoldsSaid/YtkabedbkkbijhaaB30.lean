/-
  THE QUEUE'S LAWS: QueueHolds, walked whole. (Own work; steps printed by wip/gen/walk.py.)
-/
import Derived.Test.YtkabedbkkbijhaaB29
namespace Go.AI.Q
open Go Go.AI Go.Proofs
attribute [local irreducible] xOps xw
theorem outRefs_take {outs : List Out} {k : Nat} {o : Out} (h : outs[k]? = some o) : outRefs (outs.take (k + 1)) = outRefs (outs.take k) ++ hitRefs o.hits := by
  unfold outRefs
  rw [List.take_add_one, h, List.flatMap_append]
  simp
theorem hitRefs_take {xs : List Hit} {k : Nat} {x : Hit} (h : xs[k]? = some x) : hitRefs (xs.take (k + 1)) = hitRefs (xs.take k) ++ x.f.refs := by
  unfold hitRefs
  rw [List.take_add_one, h, List.flatMap_append]
  simp
theorem outRefs_le (outs : List Out) (k : Nat) : (outRefs (outs.take k)).length ≤ (outRefs outs).length := by
  have : outRefs outs = outRefs (outs.take k) ++ outRefs (outs.drop k) := by
    unfold outRefs
    rw [← List.flatMap_append, List.take_append_drop]
  rw [this, List.length_append]; omega
theorem hitRefs_le (xs : List Hit) (k : Nat) : (hitRefs (xs.take k)).length ≤ (hitRefs xs).length := by
  have : hitRefs xs = hitRefs (xs.take k) ++ hitRefs (xs.drop k) := by
    unfold hitRefs
    rw [← List.flatMap_append, List.take_append_drop]
  rw [this, List.length_append]; omega
theorem total_mem : ∀ {rws : List (List Hit)} {r : List Hit}, r ∈ rws → r.length ≤ total rws
  | x :: rws, r, h => by
    simp only [total, List.map_cons, List.sum_cons]
    rcases List.mem_cons.1 h with rfl | h
    · omega
    · have := total_mem h
      unfold total at this
      omega
/-- The refs of an event's hits are noted. -/
theorem holds_note {h0 h1 : AH} {D p11 : Nat} {F : List Nat} {rv gv v1 v10 v14 : Value} {d : DeskM} {rs gs : List Ref} {c : Cmd} {outs : List Out} {fr : Fr} {Qx : XQ} (I : HInv h0 D h1 F rv gv d rs gs) (c11 : h1.get p11 = some (.row (cmdOf c).cells.toList true 0)) (hp : p11 < h1.n) (hpr : p11 ∉ rowBlk rv)
    (ho : outs.length ≤ 1000) (hh : ∀ o ∈ outs, o.hits.length ≤ 1000) (hr : rs.length + (outRefs outs).length ≤ 900000)
    (f1 : fr 1 = v1) (f5 : fr 5 = .bool true) (f6 : fr 6 = .pointer (some ⟨D, 0, none⟩)) (f8 : fr 8 = rv) (f9 : fr 9 = gv) (f10 : fr 10 = v10) (f11 : fr 11 = .pointer (some ⟨p11, 0, none⟩)) (f12 : fr 12 = outsV outs) (f14 : fr 14 = v14)
    (hQ : ∀ fr' h' rv', HInv h0 D h' F rv' gv d (rs ++ outRefs outs) gs → h'.get p11 = some (.row (cmdOf c).cells.toList true 0) → p11 ∉ rowBlk rv' → fr' 1 = v1 → fr' 5 = .bool true → fr' 6 = .pointer (some ⟨D, 0, none⟩) → fr' 8 = rv' → fr' 9 = gv → fr' 10 = v10 → fr' 11 = .pointer (some ⟨p11, 0, none⟩) → fr' 12 = outsV outs → fr' 14 = v14 → Qx .norm fr' h') :
    xw tab C Y ((XC.region x3_10).seq (XC.block 2 (((XC.region x3_11).seq (XC.cond (Operand.tmp 54) XC.skip (XC.exit 2))).seq ((XC.block 3 ((XC.region x3_12).seq (XC.block 4 (((XC.region x3_13).seq (XC.cond (Operand.tmp 64) XC.skip (XC.exit 4))).seq ((XC.block 5 (XC.region x3_14)).seq (XC.region x3_15))).loop))).seq (XC.region x3_16))).loop)) fr h1 Qx := by
  rw [← fr_fix f1, ← fr_fix f5, ← fr_fix f6, ← fr_fix f8, ← fr_fix f9, ← fr_fix f10, ← fr_fix f11, ← fr_fix f12, ← fr_fix f14]
  refine w_seq (w_region ?_)
  refine xo_val rfl rfl ⟨⟩ ?_
  refine xo_nil (t_norm ?_)
  refine w_block (w_loop (fun N fr h' => ∃ (k : Nat) (rv' : Value), N + k = outs.length ∧ h1.n ≤ h'.n ∧ HInv h0 D h' F rv' gv d (rs ++ outRefs (outs.take k)) gs ∧ h'.get p11 = some (.row (cmdOf c).cells.toList true 0) ∧ p11 ∉ rowBlk rv' ∧
    fr 1 = v1 ∧ fr 5 = .bool true ∧ fr 6 = .pointer (some ⟨D, 0, none⟩) ∧ fr 8 = rv' ∧ fr 9 = gv ∧ fr 10 = v10 ∧ fr 11 = .pointer (some ⟨p11, 0, none⟩) ∧ fr 12 = outsV outs ∧ fr 14 = v14 ∧ fr 15 = .int .i64 k) outs.length ?_ ?_)
  · exact ⟨0, rv, rfl, Nat.le_refl _, by simpa [outRefs] using I, c11, hpr, rfl, rfl, rfl, rfl, rfl, rfl, rfl, rfl, rfl, rfl⟩
  rintro N fr h2 ⟨k, rv2, hN, hn2, I2, c112, hpr2, f1, f5, f6, f8, f9, f10, f11, f12, f14, f15⟩
  rw [← fr_fix f1, ← fr_fix f5, ← fr_fix f6, ← fr_fix f8, ← fr_fix f9, ← fr_fix f10, ← fr_fix f11, ← fr_fix f12, ← fr_fix f14, ← fr_fix f15]
  refine w_seq ?_
  refine w_seq (w_region ?_)
  refine xo_val rfl rfl ⟨⟩ ?_
  refine xo_val rfl rfl ⟨⟩ ?_
  first | refine xo_val rfl (a_len_map rfl rfl rfl rfl rfl rfl) ⟨⟩ ?_ | refine xo_val rfl (a_len_ps rfl rfl rfl rfl rfl rfl) ⟨⟩ ?_ | refine xo_val rfl rfl ⟨⟩ ?_
  refine xo_val rfl (a_bin rfl rfl (bin_lss _ _ _ _ _)) ⟨⟩ ?_
  refine xo_nil (t_norm ?_)
  refine w_cond rfl (fun hlt => w_skip (t_norm ?_)) (fun hge => w_exit (t_exit (b_here (id := 2) ?_)))
  · have hlt' : (k : Int) < outs.length := of_decide_eq_true hlt
    obtain ⟨o, hok⟩ : ∃ o, outs[k]? = some o := ⟨_, List.getElem?_eq_getElem (by omega)⟩
    have hol := hh o (List.mem_of_getElem? hok)
    have hk1 := outRefs_take hok
    have hk2 := outRefs_le outs (k + 1)
    rw [hk1, List.length_append] at hk2
    refine w_seq (w_block ?_)
    refine w_seq (w_region ?_)
    refine xo_val rfl rfl ⟨⟩ ?_
    refine xo_nil (t_norm ?_)
    refine w_block (w_loop (fun N2 fr h' => ∃ (j : Nat) (rv' : Value), N2 + j = o.hits.length ∧ h1.n ≤ h'.n ∧ HInv h0 D h' F rv' gv d (rs ++ outRefs (outs.take k) ++ hitRefs (o.hits.take j)) gs ∧ h'.get p11 = some (.row (cmdOf c).cells.toList true 0) ∧ p11 ∉ rowBlk rv' ∧
      fr 1 = v1 ∧ fr 5 = .bool true ∧ fr 6 = .pointer (some ⟨D, 0, none⟩) ∧ fr 8 = rv' ∧ fr 9 = gv ∧ fr 10 = v10 ∧ fr 11 = .pointer (some ⟨p11, 0, none⟩) ∧ fr 12 = outsV outs ∧ fr 14 = v14 ∧ fr 15 = .int .i64 k ∧ fr 16 = .int .i64 j) o.hits.length ?_ ?_)
    · exact ⟨0, rv2, rfl, hn2, by simpa [hitRefs] using I2, c112, hpr2, rfl, rfl, rfl, rfl, rfl, rfl, rfl, rfl, rfl, rfl, rfl⟩
    rintro N2 fr h3 ⟨j, rv3, hN2, hn3, I3, c113, hpr3, f1, f5, f6, f8, f9, f10, f11, f12, f14, f15, f16⟩
    rw [← fr_fix f1, ← fr_fix f5, ← fr_fix f6, ← fr_fix f8, ← fr_fix f9, ← fr_fix f10, ← fr_fix f11, ← fr_fix f12, ← fr_fix f14, ← fr_fix f15, ← fr_fix f16]
    refine w_seq ?_
    refine w_seq (w_region ?_)
    refine xo_val rfl rfl ⟨⟩ ?_
    refine xo_val rfl rfl ⟨⟩ ?_
    refine xo_val rfl rfl ⟨⟩ ?_
    first | refine xo_val rfl (a_ix_mapN rfl rfl rfl rfl rfl rfl (by assumption)) ⟨⟩ ?_ | refine xo_val rfl (a_ix_ps rfl rfl rfl rfl rfl rfl (by omega) (by assumption)) ⟨⟩ ?_ | refine xo_val rfl (a_ixs rfl rfl rfl rfl rfl (by omega)) ⟨⟩ ?_ | refine xo_val rfl (a_ixa rfl rfl rfl rfl rfl (by omega)) ⟨⟩ ?_
    refine xo_val rfl rfl ⟨⟩ ?_
    first | refine xo_val rfl (a_load_pp rfl rfl rfl rfl) ⟨⟩ ?_ | refine xo_val rfl (a_load rfl rfl rfl (cell_of (by repeat' first | assumption | exact AH.get_push_new _ _ | exact AH.get_push_at (by first | (simp only [AH.n_push, AH.n_set]; done) | (simp only [AH.n_push, AH.n_set]; rfl)) | refine AH.get_push_old ?_ _ | apply get_same | refine get_other ?_ (by first | assumption | omega | (simp only [AH.n_push, AH.n_set]; omega) | (dsimp only; omega) | (dsimp only; simp only [AH.n_push, AH.n_set]; omega)) | refine Le.get (by assumption) ?_) rfl rfl)) ⟨⟩ ?_
    first | refine xo_val rfl (a_len_map rfl rfl rfl rfl rfl rfl) ⟨⟩ ?_ | refine xo_val rfl (a_len_ps rfl rfl rfl rfl rfl rfl) ⟨⟩ ?_ | refine xo_val rfl rfl ⟨⟩ ?_
    refine xo_val rfl (a_bin rfl rfl (bin_lss _ _ _ _ _)) ⟨⟩ ?_
    refine xo_nil (t_norm ?_)
    refine w_cond rfl (fun hlt => w_skip (t_norm ?_)) (fun hge => w_exit (t_exit (b_here (id := 4) (b_norm (id := 3) (t_norm ?_)))))
    · have hlt2 : (j : Int) < o.hits.length := of_decide_eq_true hlt
      obtain ⟨x, hx⟩ : ∃ x, o.hits[j]? = some x := ⟨_, List.getElem?_eq_getElem (by omega)⟩
      have hj1 := hitRefs_take hx
      have hj2 := hitRefs_le o.hits (j + 1)
      rw [hj1, List.length_append] at hj2
      refine w_seq (w_block ?_)
      refine w_region ?_
      refine xo_val rfl rfl ⟨⟩ ?_
      refine xo_val rfl rfl ⟨⟩ ?_
      refine xo_val rfl rfl ⟨⟩ ?_
      first | refine xo_val rfl (a_ix_mapN rfl rfl rfl rfl rfl rfl (by assumption)) ⟨⟩ ?_ | refine xo_val rfl (a_ix_ps rfl rfl rfl rfl rfl rfl (by omega) (by assumption)) ⟨⟩ ?_ | refine xo_val rfl (a_ixs rfl rfl rfl rfl rfl (by omega)) ⟨⟩ ?_ | refine xo_val rfl (a_ixa rfl rfl rfl rfl rfl (by omega)) ⟨⟩ ?_
      refine xo_val rfl rfl ⟨⟩ ?_
      first | refine xo_val rfl (a_load_pp rfl rfl rfl rfl) ⟨⟩ ?_ | refine xo_val rfl (a_load rfl rfl rfl (cell_of (by repeat' first | assumption | exact AH.get_push_new _ _ | exact AH.get_push_at (by first | (simp only [AH.n_push, AH.n_set]; done) | (simp only [AH.n_push, AH.n_set]; rfl)) | refine AH.get_push_old ?_ _ | apply get_same | refine get_other ?_ (by first | assumption | omega | (simp only [AH.n_push, AH.n_set]; omega) | (dsimp only; omega) | (dsimp only; simp only [AH.n_push, AH.n_set]; omega)) | refine Le.get (by assumption) ?_) rfl rfl)) ⟨⟩ ?_
      refine xo_val rfl rfl ⟨⟩ ?_
      first | refine xo_val rfl (a_ix_mapN rfl rfl rfl rfl rfl rfl (by assumption)) ⟨⟩ ?_ | refine xo_val rfl (a_ix_ps rfl rfl rfl rfl rfl rfl (by omega) (by assumption)) ⟨⟩ ?_ | refine xo_val rfl (a_ixs rfl rfl rfl rfl rfl (by omega)) ⟨⟩ ?_ | refine xo_val rfl (a_ixa rfl rfl rfl rfl rfl (by omega)) ⟨⟩ ?_
      refine xo_val rfl rfl ⟨⟩ ?_
      refine xo_val rfl rfl ⟨⟩ ?_
      first | refine xo_val rfl (a_load_pp rfl rfl rfl rfl) ⟨⟩ ?_ | refine xo_val rfl (a_load rfl rfl rfl (cell_of (by repeat' first | assumption | exact AH.get_push_new _ _ | exact AH.get_push_at (by first | (simp only [AH.n_push, AH.n_set]; done) | (simp only [AH.n_push, AH.n_set]; rfl)) | refine AH.get_push_old ?_ _ | apply get_same | refine get_other ?_ (by first | assumption | omega | (simp only [AH.n_push, AH.n_set]; omega) | (dsimp only; omega) | (dsimp only; simp only [AH.n_push, AH.n_set]; omega)) | refine Le.get (by assumption) ?_) rfl rfl)) ⟨⟩ ?_
      obtain ⟨p, hp3, I4, hB4, hb4⟩ := I3.came (x := refsV x.f.refs) (new := x.f.refs) t30 (ps_src rfl) (by simp only [List.length_append]; omega)
      obtain ⟨pv, h4⟩ := p
      dsimp only at I4 hB4 hb4
      refine xo_val rfl (a_append rfl rfl rfl rfl rfl hp3) ⟨⟩ ?_
      refine xo_val rfl rfl ⟨⟩ ?_
      refine xo_nil (b_norm (t_norm ?_))
      refine w_region ?_
      refine xo_val rfl rfl ⟨⟩ ?_
      refine xo_val rfl (a_bin rfl rfl (bin_add64 _ _ _ _ (by omega))) ⟨⟩ ?_
      refine xo_val rfl rfl ⟨⟩ ?_
      refine xo_nil ?_
      rw [List.append_assoc (rs ++ outRefs (outs.take k)), ← hj1] at I4
      refine ⟨N2 - 1, by omega, j + 1, pv, by omega, Nat.le_trans hn3 hB4.1, I4, hB4.get c113 hpr3, fun hm => ?_, rfl, rfl, rfl, rfl, rfl, rfl, rfl, rfl, rfl, rfl, rfl⟩
      rcases hb4 _ hm with y | y
      · exact hpr3 y
      · omega
    · have hge' : ¬ (j : Int) < o.hits.length := of_decide_eq_false hge
      have hj : j = o.hits.length := by omega
      subst hj
      refine w_region ?_
      refine xo_val rfl rfl ⟨⟩ ?_
      refine xo_val rfl (a_bin rfl rfl (bin_add64 _ _ _ _ (by omega))) ⟨⟩ ?_
      refine xo_val rfl rfl ⟨⟩ ?_
      refine xo_nil ?_
      rw [List.take_length, List.append_assoc, ← hk1] at I3
      exact ⟨N - 1, by omega, k + 1, rv3, by omega, hn3, I3, c113, hpr3, rfl, rfl, rfl, rfl, rfl, rfl, rfl, rfl, rfl, rfl⟩
  · have hge' : ¬ (k : Int) < outs.length := of_decide_eq_false hge
    have hk : k = outs.length := by omega
    subst hk
    rw [List.take_length] at I2
    exact hQ _ _ _ I2 c112 hpr2 rfl rfl rfl rfl rfl rfl rfl rfl rfl
set_option maxHeartbeats 4000000 in
theorem holds_ok (a b : Int) (script : List ActM) : Pure 3 [.agg #[.int .i64 a, .int .i64 b], actsV script] (.bool true) := by
  intro h Q hQ
  refine run_3 rfl ?_
  have ha := restZ_lt a 4 (by decide)
  have hb := restZ_lt b 6 (by decide)
  refine w_seq (w_region ?_)
  refine xo_val rfl (a_box rfl rfl) ⟨⟩ ?_
  refine xo_val rfl rfl ⟨⟩ ?_
  refine xo_nil (t_norm ?_)
  refine w_seq (w_region ?_)
  refine xo_call rfl rfl (xo_pure awake_ok fun h1 hle1 => ⟨⟨⟩, ?_⟩)
  refine xo_val rfl rfl ⟨⟩ ?_
  refine xo_nil (t_norm ?_)
  refine w_seq (w_region ?_)
  first | refine xo_val rfl (a_loads_pp rfl rfl rfl rfl) ⟨⟩ ?_ | refine xo_val rfl (a_loads rfl rfl rfl (cells_of (by repeat' first | assumption | exact AH.get_push_new _ _ | exact AH.get_push_at (by first | (simp only [AH.n_push, AH.n_set]; done) | (simp only [AH.n_push, AH.n_set]; rfl)) | refine AH.get_push_old ?_ _ | apply get_same | refine get_other ?_ (by first | assumption | omega | (simp only [AH.n_push, AH.n_set]; omega) | (dsimp only; omega) | (dsimp only; simp only [AH.n_push, AH.n_set]; omega)) | refine Le.get (by assumption) ?_) rfl rfl rfl)) ⟨⟩ ?_
  refine xo_call rfl rfl (config_ok fun h2 hle2 => ⟨⟨⟩, ?_⟩)
  obtain ⟨q, hq⟩ : ∃ q, q = 1 + restZ a 4 := ⟨_, rfl⟩
  obtain ⟨o, ho⟩ : ∃ o, o = 1 + restZ b 6 := ⟨_, rfl⟩
  rw [← hq, ← ho]
  have hq' : 1 ≤ q ∧ q ≤ 4 := by omega
  have ho' : 1 ≤ o ∧ o ≤ 6 := by omega
  refine xo_call rfl rfl (dk_new (q := q) (o := o) (by omega) (by omega) fun h3 D F hle3 R hF => ⟨⟨⟩, ?_⟩)
  refine xo_val rfl rfl ⟨⟩ ?_
  refine xo_nil (t_norm ?_)
  refine w_seq (w_region ?_)
  refine xo_val rfl rfl ⟨⟩ ?_
  refine xo_nil (t_norm ?_)
  refine w_seq (w_region ?_)
  refine xo_val rfl rfl ⟨⟩ ?_
  refine xo_nil (t_norm ?_)
  refine w_seq (w_region ?_)
  refine xo_val rfl rfl ⟨⟩ ?_
  refine xo_nil (t_norm ?_)
  have hle03 : Le h h3 := (((Le.refl h).push (.row (Value.agg #[.int .i64 a, .int .i64 b]).cells.toList true 0)).trans hle1).trans (hle2.trans hle3)
  have hn2 : h.n ≤ h2.n := (((Le.refl h).push (.row (Value.agg #[.int .i64 a, .int .i64 b]).cells.toList true 0)).trans (hle1.trans hle2)).1
  refine w_seq ?_
  refine w_seq (w_region ?_)
  refine xo_val rfl rfl ⟨⟩ ?_
  refine xo_nil (t_norm ?_)
  refine w_block (w_loop (fun N fr h' => ∃ (i : Nat) (F : List Nat) (rv gv : Value), N + i = 40 ∧ i ≤ script.length ∧ HInv h D h' F rv gv (deskAt q o script i) (refsAt script i) (goneAt q o script i) ∧
    fr 1 = actsV script ∧ fr 5 = .bool true ∧ fr 6 = .pointer (some ⟨D, 0, none⟩) ∧ fr 7 = .int .i64 (heldM (deskAt q o script i)) ∧ fr 8 = rv ∧ fr 9 = gv ∧ fr 10 = .int .i64 i) 40 ?_ ?_)
  · exact ⟨0, F, _, _, rfl, Nat.zero_le _, ⟨hle03, R, fun b hb => ⟨Nat.le_trans hn2 (hF b hb), (by simp [rowBlk]), (by simp [rowBlk])⟩, Acc.nil, Acc.nil, fun b hb => by simp [rowBlk] at hb, fun b hb => by simp [rowBlk] at hb⟩, rfl, rfl, rfl, rfl, rfl, rfl, rfl⟩
  rintro N fr h4 ⟨i, F4, rv, gv, hN, hi, I, f1, f5, f6, f7, f8, f9, f10⟩
  have hperm := holds_perm q o script i hi
  have hrl := refsAt_len script i hi
  have hgl := hperm.length_eq
  rw [List.length_append] at hgl
  rw [← fr_fix f1, ← fr_fix f5, ← fr_fix f6, ← fr_fix f7, ← fr_fix f8, ← fr_fix f9, ← fr_fix f10]
  have fin : ∀ (fr : Fr), fr 5 = .bool true → fr 7 = .int .i64 (heldM (deskAt q o script i)) → fr 8 = rv → fr 9 = gv → ∀ (Qx : XQ), Qx = retQ tab [ResultVar.tmp 4] Q →
      xw tab C Y (((XC.region x3_24).seq (XC.block 6 (((XC.region x3_25).seq (XC.cond (Operand.tmp 102) XC.skip (XC.exit 6))).seq ((XC.block 7 ((XC.region x3_26).seq (XC.cond (Operand.tmp 117) ((XC.region x3_27).seq XC.ret) XC.skip))).seq (XC.region x3_28))).loop)).seq ((XC.region x3_29).seq XC.ret)) fr h4 Qx := by
    intro fr f5 f7 f8 f9 Qx e
    subst e
    obtain ⟨h5, hG5, hB5⟩ := I.ra.give (fr := fr) (fr1 := fr.put (some 8) (refsV (refsAt script i))) fun b cs k' hz t => FZ.frame (t := 8) (by rw [f8]; exact hz) t
    refine w_give hG5 ?_
    have ga5 := I.ga.but hB5 fun b hb => (I.gn b hb).2
    have f95 : (fr.put (some 8) (refsV (refsAt script i))) 9 = gv := f9
    obtain ⟨h6, hG6, hB6⟩ := ga5.give (fr := fr.put (some 8) (refsV (refsAt script i))) (fr1 := (fr.put (some 8) (refsV (refsAt script i))).put (some 9) (refsV (goneAt q o script i))) fun b cs k' hz t => FZ.frame (t := 9) (by rw [f95]; exact hz) t
    refine w_give hG6 ?_
    refine holds_tail (rs := refsAt script i) (gs := goneAt q o script i) (n := heldM (deskAt q o script i)) (hB6.le (hB5.le I.le I.rn) fun b hb => (I.gn b hb).1) (by omega) (by omega) (fun r => ?_) hQ f5 f7 rfl rfl
    have := hperm.count_eq r
    rw [List.count_append] at this
    omega
  refine w_seq ?_
  by_cases hlt : (i : Int) < script.length
  · have d1 : decide ((i : Int) < script.length) = true := decide_eq_true hlt
    by_cases h40 : (i : Int) < 40
    · have d2 : decide ((i : Int) < 40) = true := decide_eq_true h40
      refine w_seq (w_region ?_)
      refine xo_val rfl rfl ⟨⟩ ?_
      refine xo_val rfl rfl ⟨⟩ ?_
      first | refine xo_val rfl (a_len_map rfl rfl rfl rfl rfl rfl) ⟨⟩ ?_ | refine xo_val rfl (a_len_ps rfl rfl rfl rfl rfl rfl) ⟨⟩ ?_ | refine xo_val rfl rfl ⟨⟩ ?_
      refine xo_val rfl (a_bin rfl rfl (bin_lss _ _ _ _ _)) ⟨⟩ ?_
      refine xo_val rfl rfl ⟨⟩ ?_
      first | refine xo_skip (want_no rfl (by first | rfl | assumption)) ?_ | refine xo_skip rfl ?_ | refine xo_val (want_if rfl (by first | rfl | assumption)) rfl ⟨⟩ ?_
      first | refine xo_skip (want_no rfl (by first | rfl | assumption)) ?_ | refine xo_skip rfl ?_ | refine xo_val (want_if rfl (by first | rfl | assumption)) (a_bin rfl rfl (bin_lss _ _ _ _ _)) ⟨⟩ ?_
      first | refine xo_val rfl (a_pick_t rfl (by first | rfl | assumption) rfl) ⟨⟩ ?_ | refine xo_val rfl (a_pick_f rfl (by first | rfl | assumption) rfl) ⟨⟩ ?_
      refine xo_nil (t_norm ?_)
      refine w_cond rfl (fun _ => w_skip (t_norm ?_)) (fun e => by rw [d2] at e; cases e)
      clear fin
      obtain ⟨s, hs⟩ : ∃ s, script[i]? = some s := ⟨_, List.getElem?_eq_getElem (by omega)⟩
      refine w_seq (w_block ?_)
      obtain ⟨stamp, hstamp⟩ : ∃ stamp : Int, stamp = ((i + 1 : Nat) : Int) := ⟨_, rfl⟩
      have hst1 : stamp = (i : Int) + 1 := hstamp
      have hd1 := deskAt_succ (q := q) (o := o) hs
      have hr1 : refsAt script (i + 1) = refsAt script i ++ cmdRefs (cmdM s (i + 1 : Nat)).1 (cmdM s (i + 1 : Nat)).2 := by simp only [refsAt, cmdAt, hs]
      have hg1 : goneAt q o script (i + 1) = goneAt q o script i ++ (doM (deskAt q o script i) (i + 1 : Nat) (cmdM s (i + 1 : Nat)).1 (cmdM s (i + 1 : Nat)).2).refs := by simp only [goneAt, cmdAt, hs]
      rw [← hstamp] at hd1 hr1 hg1
      have hcg := cmd_good s stamp
      have hce := cmd_ok s stamp (by omega)
      rcases hcm : cmdM s stamp with ⟨c, outs⟩
      rw [hcm] at hcg hce hd1 hr1 hg1
      dsimp only at hcg hce hd1 hr1 hg1
      have G := deskAt_good (script := script) hq' ho' i
      have G1 := deskAt_good (script := script) hq' ho' (i + 1)
      have hperm1 := holds_perm q o script (i + 1) (by omega)
      have hgl1 := hperm1.length_eq
      have hrl1 := refsAt_len script (i + 1) (by omega)
      have hh1 := held_len (deskAt q o script (i + 1))
      have hheld := G1.held
      rw [List.length_append] at hgl1
      refine w_seq (w_region ?_)
      refine xo_val rfl rfl ⟨⟩ ?_
      refine xo_val rfl rfl ⟨⟩ ?_
      first | refine xo_val rfl (a_ix_mapN rfl rfl rfl rfl rfl rfl (by assumption)) ⟨⟩ ?_ | refine xo_val rfl (a_ix_ps rfl rfl rfl rfl rfl rfl (by omega) (by assumption)) ⟨⟩ ?_ | refine xo_val rfl (a_ixs rfl rfl rfl rfl rfl (by omega)) ⟨⟩ ?_ | refine xo_val rfl (a_ixa rfl rfl rfl rfl rfl (by omega)) ⟨⟩ ?_
      first | refine xo_val rfl (a_loads_pp rfl rfl rfl rfl) ⟨⟩ ?_ | refine xo_val rfl (a_loads rfl rfl rfl (cells_of (by repeat' first | assumption | exact AH.get_push_new _ _ | exact AH.get_push_at (by first | (simp only [AH.n_push, AH.n_set]; done) | (simp only [AH.n_push, AH.n_set]; rfl)) | refine AH.get_push_old ?_ _ | apply get_same | refine get_other ?_ (by first | assumption | omega | (simp only [AH.n_push, AH.n_set]; omega) | (dsimp only; omega) | (dsimp only; simp only [AH.n_push, AH.n_set]; omega)) | refine Le.get (by assumption) ?_) rfl rfl rfl)) ⟨⟩ ?_
      refine xo_val rfl rfl ⟨⟩ ?_
      refine xo_val rfl (v := .int .i64 stamp) (by rw [hst1]; exact a_bin rfl rfl (bin_add64 _ _ _ _ (by omega))) ⟨⟩ ?_
      refine xo_call rfl rfl (xo_pure hce fun h5 hle5 => ⟨⟨⟩, ?_⟩)
      refine xo_val rfl rfl ⟨⟩ ?_
      refine xo_val rfl rfl ⟨⟩ ?_
      refine xo_val rfl rfl ⟨⟩ ?_
      refine xo_val rfl (a_alloc rfl) ⟨⟩ ?_
      refine xo_val rfl (a_store rfl rfl rfl rfl rfl (store_of (by repeat' first | assumption | exact AH.get_push_new _ _ | exact AH.get_push_at (by first | (simp only [AH.n_push, AH.n_set]; done) | (simp only [AH.n_push, AH.n_set]; rfl)) | refine AH.get_push_old ?_ _ | apply get_same | refine get_other ?_ (by first | assumption | omega | (simp only [AH.n_push, AH.n_set]; omega) | (dsimp only; omega) | (dsimp only; simp only [AH.n_push, AH.n_set]; omega)) | refine Le.get (by assumption) ?_) rfl rfl)) ⟨⟩ ?_
      refine xo_val rfl rfl ⟨⟩ ?_
      refine xo_nil (t_norm ?_)
      have hle6 := (hle5.push (.row (cmdOf ⟨0, 0, 0, ⟨0, 0⟩⟩).cells.toList true 0)).set (B := h5.n) hle5.1 (.row (cmdOf c).cells.toList true 0)
      have c11 := get_same (p := .row (cmdOf c).cells.toList true 0) (AH.get_push_new h5 (.row (cmdOf ⟨0, 0, 0, ⟨0, 0⟩⟩).cells.toList true 0))
      refine w_seq (w_region ?_)
      refine xo_val rfl rfl ⟨⟩ ?_
      refine xo_val rfl rfl ⟨⟩ ?_
      refine xo_val rfl (v := .int .i64 stamp) (by rw [hst1]; exact a_bin rfl rfl (bin_add64 _ _ _ _ (by omega))) ⟨⟩ ?_
      first | refine xo_val rfl (a_loads_pp rfl rfl rfl rfl) ⟨⟩ ?_ | refine xo_val rfl (a_loads rfl rfl rfl (cells_of (by repeat' first | assumption | exact AH.get_push_new _ _ | exact AH.get_push_at (by first | (simp only [AH.n_push, AH.n_set]; done) | (simp only [AH.n_push, AH.n_set]; rfl)) | refine AH.get_push_old ?_ _ | apply get_same | refine get_other ?_ (by first | assumption | omega | (simp only [AH.n_push, AH.n_set]; omega) | (dsimp only; omega) | (dsimp only; simp only [AH.n_push, AH.n_set]; omega)) | refine Le.get (by assumption) ?_) rfl rfl rfl)) ⟨⟩ ?_
      refine xo_val rfl rfl ⟨⟩ ?_
      refine xo_call rfl rfl (dk_do (c := c) (outs := outs) (d := deskAt q o script i) (I.next hle6).desk G.sane (hcg.good.ok hcg.ne) (fun _ => rfl) (G.fresh (by omega)) fun h7 F7 R7 W7 => ⟨⟨⟩, ?_⟩)
      have I7 := (I.next hle6).did R7 W7
      have nF := I.desk.lt
      have n45 : h4.n ≤ h5.n := hle5.1
      have c117 := W7.keep _ _ c11 (fun hm => by have := nF _ hm; omega)
      have n57 : h5.n < h7.n := AH.get_lt c117
      have p11r : h5.n ∉ rowBlk rv := fun hm => by have := I.ra.blk_lt _ hm; omega
      have p11g : h5.n ∉ rowBlk gv := fun hm => by have := I.ga.blk_lt _ hm; omega
      rw [← hd1] at I7
      generalize hrefs : (doM (deskAt q o script i) stamp c outs).refs = grefs at hg1 ⊢
      refine xo_val rfl rfl ⟨⟩ ?_
      refine xo_val rfl rfl ⟨⟩ ?_
      refine xo_val rfl rfl ⟨⟩ ?_
      refine xo_val rfl (a_alloc rfl) ⟨⟩ ?_
      refine xo_val rfl (a_store rfl rfl rfl rfl rfl (store_of (by repeat' first | assumption | exact AH.get_push_new _ _ | exact AH.get_push_at (by first | (simp only [AH.n_push, AH.n_set]; done) | (simp only [AH.n_push, AH.n_set]; rfl)) | refine AH.get_push_old ?_ _ | apply get_same | refine get_other ?_ (by first | assumption | omega | (simp only [AH.n_push, AH.n_set]; omega) | (dsimp only; omega) | (dsimp only; simp only [AH.n_push, AH.n_set]; omega)) | refine Le.get (by assumption) ?_) rfl rfl)) ⟨⟩ ?_
      refine xo_val rfl rfl ⟨⟩ ?_
      refine xo_nil (t_norm ?_)
      have hle9 := ((Le.refl h7).push (.row (Value.agg #[.int .i64 0, .int .i64 0, .slice none 0 0]).cells.toList true 0)).set (B := h7.n) (Nat.le_refl _) (.row (ansV (doM (deskAt q o script i) stamp c outs).err (doM (deskAt q o script i) stamp c outs).n (doM (deskAt q o script i) stamp c outs).ms).cells.toList true 0)
      have hout := cmdRefs_len hcg
      have hout2 : (outRefs outs).length ≤ 13 := by
        unfold cmdRefs at hout
        rw [List.length_append] at hout
        omega
      have htot := hcg.good.tot
      refine w_seq (holds_note (c := c) (I7.next hle9) (hle9.get c117) (AH.get_lt (hle9.get c117)) p11r (by have := hcg.good.len; omega) (fun o ho => ?_) (by omega) rfl rfl rfl rfl rfl rfl rfl rfl rfl fun fr1 h10 rv1 I10 c1110 hpr1 f1 f5 f6 f8 f9 f10 f11 f12 f14 => t_norm ?_)
      · have := total_mem (List.mem_map.2 ⟨o, ho, rfl⟩ : o.hits ∈ outs.map (·.hits))
        omega
      refine w_cut mono_ac (fun fr' h' => ∃ rv', HInv h D h' F7 rv' gv (deskAt q o script (i + 1)) (refsAt script (i + 1)) (goneAt q o script i) ∧ fr' 1 = actsV script ∧ fr' 5 = .bool true ∧ fr' 6 = .pointer (some ⟨D, 0, none⟩) ∧ fr' 8 = rv' ∧ fr' 9 = gv ∧ fr' 10 = .int .i64 i ∧ fr' 14 = refsV grefs) ?_ ?_
      · rw [← fr_fix f1, ← fr_fix f5, ← fr_fix f6, ← fr_fix f8, ← fr_fix f9, ← fr_fix f10, ← fr_fix f11, ← fr_fix f14]
        refine w_seq (w_region ?_)
        refine xo_val rfl rfl ⟨⟩ ?_
        first | refine xo_val rfl (a_load_pp rfl rfl rfl rfl) ⟨⟩ ?_ | refine xo_val rfl (a_load rfl rfl rfl (cell_of (by repeat' first | assumption | exact AH.get_push_new _ _ | exact AH.get_push_at (by first | (simp only [AH.n_push, AH.n_set]; done) | (simp only [AH.n_push, AH.n_set]; rfl)) | refine AH.get_push_old ?_ _ | apply get_same | refine get_other ?_ (by first | assumption | omega | (simp only [AH.n_push, AH.n_set]; omega) | (dsimp only; omega) | (dsimp only; simp only [AH.n_push, AH.n_set]; omega)) | refine Le.get (by assumption) ?_) rfl rfl)) ⟨⟩ ?_
        first | refine xo_val rfl (a_bin rfl rfl (bin_eql _ _ _ _ _)) ⟨⟩ ?_ | refine xo_val rfl rfl ⟨⟩ ?_
        refine xo_nil (t_norm ?_)
        by_cases k1 : c.kind = 1
        · have e1 : (c.kind == 1) = true := by simpa using k1
          refine w_cond rfl (fun _ => ?_) (fun e => by rw [e1] at e; cases e)
          refine w_region ?_
          refine xo_val rfl rfl ⟨⟩ ?_
          refine xo_val rfl rfl ⟨⟩ ?_
          refine xo_val rfl (a_loads (l := [.int .i64 c.ref.slot, .int .i64 c.ref.gen]) rfl rfl rfl (cells_of c1110 rfl rfl rfl)) ⟨⟩ ?_
          refine xo_val rfl (a_list (l := [_, _]) rfl rfl rfl rfl rfl) ⟨⟩ ?_
          have hle11 := (Le.refl h10).push (.row [.int .i64 c.ref.slot, .int .i64 c.ref.gen] true 2)
          have As : Acc (h10.push (.row [.int .i64 c.ref.slot, .int .i64 c.ref.gen] true 2)) 2 (.slice (some ⟨h10.n, 0, none⟩) 1 2) [refV c.ref] := Acc.new (sz_ref [c.ref]) (AH.get_push_new _ _) (.inr rfl)
          obtain ⟨p, hp3, I4, _, _⟩ := (I10.next hle11).came (x := .slice (some ⟨h10.n, 0, none⟩) 1 2) (new := [c.ref]) t30 (As.src rfl) (by simp only [List.length_append, List.length_singleton]; omega)
          obtain ⟨pv, h12⟩ := p
          dsimp only at I4
          refine xo_val rfl (a_append rfl rfl rfl rfl rfl hp3) ⟨⟩ ?_
          refine xo_val rfl rfl ⟨⟩ ?_
          refine xo_nil ?_
          have e2 : refsAt script (i + 1) = refsAt script i ++ outRefs outs ++ [c.ref] := by
            rw [hr1]; unfold cmdRefs; rw [if_pos k1, List.append_assoc]
          rw [e2]
          exact ⟨pv, I4, rfl, rfl, rfl, rfl, rfl, rfl, rfl⟩
        · have e1 : (c.kind == 1) = false := by simpa using k1
          refine w_cond rfl (fun e => by rw [e1] at e; cases e) (fun _ => w_skip ?_)
          have e2 : refsAt script (i + 1) = refsAt script i ++ outRefs outs := by
            rw [hr1]; unfold cmdRefs; rw [if_neg k1, List.append_nil]
          rw [e2]
          exact ⟨_, I10, rfl, rfl, rfl, rfl, rfl, rfl, rfl⟩
      clear f1 f5 f6 f8 f9 f10 f11 f12 f14
      rintro fr2 h12 ⟨rv2, I12, f1, f5, f6, f8, f9, f10, f14⟩
      rw [← fr_fix f1, ← fr_fix f5, ← fr_fix f6, ← fr_fix f8, ← fr_fix f9, ← fr_fix f10, ← fr_fix f14]
      refine w_seq (w_region ?_)
      refine xo_val rfl rfl ⟨⟩ ?_
      refine xo_val rfl rfl ⟨⟩ ?_
      obtain ⟨p, hp3, I13, _, _⟩ := I12.left (x := refsV grefs) (new := grefs) t30 (ps_src rfl) (by rw [← List.length_append, ← hg1]; omega)
      obtain ⟨pv, h13⟩ := p
      dsimp only at I13
      refine xo_val rfl (a_append rfl rfl rfl rfl rfl hp3) ⟨⟩ ?_
      refine xo_val rfl rfl ⟨⟩ ?_
      refine xo_nil (t_norm ?_)
      rw [← hg1] at I13
      have heq : ((heldM (deskAt q o script (i + 1)) : Nat) : Int) = ((refsAt script (i + 1)).length : Int) - ((goneAt q o script (i + 1)).length : Int) := by omega
      refine w_seq (w_region ?_)
      refine xo_val rfl rfl ⟨⟩ ?_
      refine xo_val rfl (a_len_accm I13.ra rfl rfl rfl rfl rfl rfl) ⟨⟩ ?_
      refine xo_val rfl rfl ⟨⟩ ?_
      refine xo_val rfl (a_len_accm I13.ga rfl rfl rfl rfl rfl rfl) ⟨⟩ ?_
      refine xo_val rfl (v := .int .i64 (heldM (deskAt q o script (i + 1)))) (by rw [heq]; exact a_bin rfl rfl (bin_sub64 _ _ _ _ (by omega))) ⟨⟩ ?_
      refine xo_val rfl rfl ⟨⟩ ?_
      refine xo_nil (t_norm ?_)
      refine w_seq (w_region ?_)
      refine xo_val rfl rfl ⟨⟩ ?_
      refine xo_val rfl rfl ⟨⟩ ?_
      refine xo_call rfl rfl (dk_held I13.desk (by omega) (fun l hl => by have := (G1.cnt l hl).1; omega) fun h14 hle14 => ⟨⟨⟩, ?_⟩)
      first | refine xo_val rfl (a_bin rfl rfl (bin_neq _ _ _ _ _)) ⟨⟩ ?_ | refine xo_val rfl rfl ⟨⟩ ?_
      refine xo_nil (t_norm ?_)
      have hne : (((heldM (deskAt q o script (i + 1)) : Nat) : Int) != ((heldM (deskAt q o script (i + 1)) : Nat) : Int)) = false := by simp
      refine w_cond rfl (fun e => by rw [hne] at e; cases e) (fun _ => w_skip (b_norm (t_norm ?_)))
      refine w_region ?_
      refine xo_val rfl rfl ⟨⟩ ?_
      refine xo_val rfl (a_bin rfl rfl (bin_add64 _ _ _ _ (by omega))) ⟨⟩ ?_
      refine xo_val rfl rfl ⟨⟩ ?_
      refine xo_nil ?_
      exact ⟨39 - i, by omega, i + 1, F7, rv2, pv, by omega, by omega, I13.next hle14, rfl, rfl, rfl, rfl, rfl, rfl, rfl⟩
    · have d2 : decide ((i : Int) < 40) = false := decide_eq_false h40
      refine w_seq (w_region ?_)
      refine xo_val rfl rfl ⟨⟩ ?_
      refine xo_val rfl rfl ⟨⟩ ?_
      first | refine xo_val rfl (a_len_map rfl rfl rfl rfl rfl rfl) ⟨⟩ ?_ | refine xo_val rfl (a_len_ps rfl rfl rfl rfl rfl rfl) ⟨⟩ ?_ | refine xo_val rfl rfl ⟨⟩ ?_
      refine xo_val rfl (a_bin rfl rfl (bin_lss _ _ _ _ _)) ⟨⟩ ?_
      refine xo_val rfl rfl ⟨⟩ ?_
      first | refine xo_skip (want_no rfl (by first | rfl | assumption)) ?_ | refine xo_skip rfl ?_ | refine xo_val (want_if rfl (by first | rfl | assumption)) rfl ⟨⟩ ?_
      first | refine xo_skip (want_no rfl (by first | rfl | assumption)) ?_ | refine xo_skip rfl ?_ | refine xo_val (want_if rfl (by first | rfl | assumption)) (a_bin rfl rfl (bin_lss _ _ _ _ _)) ⟨⟩ ?_
      first | refine xo_val rfl (a_pick_t rfl (by first | rfl | assumption) rfl) ⟨⟩ ?_ | refine xo_val rfl (a_pick_f rfl (by first | rfl | assumption) rfl) ⟨⟩ ?_
      refine xo_nil (t_norm ?_)
      exact w_cond rfl (fun e => by rw [d2] at e; cases e) (fun _ => w_exit (t_exit (b_here (id := 0) (t_norm (fin _ rfl rfl rfl rfl _ rfl)))))
  · have d1 : decide ((i : Int) < script.length) = false := decide_eq_false hlt
    refine w_seq (w_region ?_)
    refine xo_val rfl rfl ⟨⟩ ?_
    refine xo_val rfl rfl ⟨⟩ ?_
    first | refine xo_val rfl (a_len_map rfl rfl rfl rfl rfl rfl) ⟨⟩ ?_ | refine xo_val rfl (a_len_ps rfl rfl rfl rfl rfl rfl) ⟨⟩ ?_ | refine xo_val rfl rfl ⟨⟩ ?_
    refine xo_val rfl (a_bin rfl rfl (bin_lss _ _ _ _ _)) ⟨⟩ ?_
    refine xo_val rfl rfl ⟨⟩ ?_
    first | refine xo_skip (want_no rfl (by first | rfl | assumption)) ?_ | refine xo_skip rfl ?_ | refine xo_val (want_if rfl (by first | rfl | assumption)) rfl ⟨⟩ ?_
    first | refine xo_skip (want_no rfl (by first | rfl | assumption)) ?_ | refine xo_skip rfl ?_ | refine xo_val (want_if rfl (by first | rfl | assumption)) (a_bin rfl rfl (bin_lss _ _ _ _ _)) ⟨⟩ ?_
    first | refine xo_val rfl (a_pick_t rfl (by first | rfl | assumption) rfl) ⟨⟩ ?_ | refine xo_val rfl (a_pick_f rfl (by first | rfl | assumption) rfl) ⟨⟩ ?_
    refine xo_nil (t_norm ?_)
    exact w_cond rfl (fun e => by cases e) (fun _ => w_exit (t_exit (b_here (id := 0) (t_norm (fin _ rfl rfl rfl rfl _ rfl)))))
end Go.AI.Q
