/-
  THE QUEUE'S DESK: poll. (Own work; steps printed by wip/gen/walk.py.)
-/
import Derived.Test.YtkabedbkkbijhaaB12
namespace Go.AI.Q
open Go Go.AI Go.Proofs
attribute [local irreducible] xOps xw
def matchesV (l : List (List (List Int))) : Value := PS 1 (l.map setsV)
def ansV (e n : Int) (l : List (List (List Int))) : Value := .agg #[.int .i64 e, .int .i64 n, matchesV l]
theorem sz_sets (l : List (List (List Int))) : sized 1 (l.map setsV) := sized_map (f := setsV) (fun _ => ⟨rfl, rfl⟩) l
structure PollM where
  err : Int
  ms : List (List (List Int))
  refs : List Ref
  d : DeskM
def pollM (d : DeskM) (id n : Int) : PollM :=
  if n < 1 then ⟨1, [], [], d⟩ else
  match findAt d.lines id with
  | none => ⟨15, [], [], d⟩
  | some j =>
    match d.lines[j]? with
    | none => ⟨15, [], [], d⟩
    | some l => if l.row.length = 0 ∧ l.lost = true then ⟨20, [], [], d⟩ else
      ⟨0, (l.row.take (min n.toNat l.row.length)).map (·.sets), (l.row.take (min n.toNat l.row.length)).flatMap (·.refs), d.setAt j { l with row := l.row.drop (min n.toNat l.row.length) }⟩
theorem nil2 {e n : Int} {h : AH} : Gs (fun _ => .tuple #[.agg #[.int .i64 e, .int .i64 n, .slice none 0 0], .slice none 0 0]) h (fun _ => .tuple #[ansV e n [], refsV []]) h :=
  Gs.nils fun _ => FZ.tupL (.cons (FZ.aggL (.cons (.refl _) (.cons (.refl _) (.cons (.nil _) .nil)))) (.cons (.nil _) .nil))
theorem t48 : elemOfSlice tab 48 = some { ud := UD.slice 43, size := 1, bytes := 24, zero := Value.slice none 0 0, eqok := true } := rfl
theorem poll_ok {h : AH} {D m : Nat} {gs : List (Nat × Value)} {bs : List Nat} {clk : Nat} {d : DeskM} {id n : Int} {ref : Ref} {Q : AO → AH → Prop} (R : DeskR h D m gs bs clk d) (hrow : ∀ l ∈ d.lines, l.row.length ≤ 1000000 ∧ (l.row.map fun f => f.refs.length).sum ≤ 1000000)
    (hQ : ∀ h' gs', h.n ≤ h'.n → DeskR h' D m gs' bs clk (pollM d id n).d → (∀ b ∈ Fp D m gs', b ∈ Fp D m gs ∨ h.n ≤ b) → (∀ b o, h.get b = some o → b ∉ Fp D m gs → h'.get b = some o) → Q (.ret (.tuple #[ansV (pollM d id n).err 0 (pollM d id n).ms, refsV (pollM d id n).refs])) h') :
    C 27 [.pointer (some ⟨D, 0, none⟩), cmdV 4 id n ref] h Q := by
  refine run_27 rfl ?_
  have hD := R.desk
  have hlk := look_desk R id
  have hle2 := (((Le.refl h).push (.row (cmdV 4 id n ref).cells.toList true 0)).push (.row (Value.agg #[.int .i64 0, .int .i64 0, .slice none 0 0]).cells.toList true 0))
  refine w_seq (w_region ?_)
  refine xo_val rfl (a_box rfl rfl) ⟨⟩ ?_
  refine xo_val rfl (a_alloc rfl) ⟨⟩ ?_
  refine xo_val rfl rfl ⟨⟩ ?_
  refine xo_nil (t_norm ?_)
  refine w_seq (w_region ?_)
  refine xo_val rfl rfl ⟨⟩ ?_
  refine xo_val rfl rfl ⟨⟩ ?_
  refine xo_val rfl rfl ⟨⟩ ?_
  first | refine xo_val rfl (a_load_pp rfl rfl rfl rfl) ⟨⟩ ?_ | refine xo_val rfl (a_load rfl rfl rfl (cell_of (by repeat' first | assumption | exact AH.get_push_new _ _ | exact AH.get_push_at (by first | (simp only [AH.n_push, AH.n_set]; done) | (simp only [AH.n_push, AH.n_set]; rfl)) | refine AH.get_push_old ?_ _ | apply get_same | refine get_other ?_ (by first | assumption | omega | (simp only [AH.n_push, AH.n_set]; omega) | (dsimp only; omega) | (dsimp only; simp only [AH.n_push, AH.n_set]; omega)) | refine Le.get (by assumption) ?_) rfl rfl)) ⟨⟩ ?_
  refine xo_val rfl rfl ⟨⟩ ?_
  first | refine xo_val rfl (a_load_pp rfl rfl rfl rfl) ⟨⟩ ?_ | refine xo_val rfl (a_load rfl rfl rfl (cell_of (by repeat' first | assumption | exact AH.get_push_new _ _ | exact AH.get_push_at (by first | (simp only [AH.n_push, AH.n_set]; done) | (simp only [AH.n_push, AH.n_set]; rfl)) | refine AH.get_push_old ?_ _ | apply get_same | refine get_other ?_ (by first | assumption | omega | (simp only [AH.n_push, AH.n_set]; omega) | (dsimp only; omega) | (dsimp only; simp only [AH.n_push, AH.n_set]; omega)) | refine Le.get (by assumption) ?_) rfl rfl)) ⟨⟩ ?_
  refine xo_val rfl (a_lookup rfl rfl (look_desk (R.le hle2) id)) ⟨⟩ ?_
  refine xo_val rfl rfl ⟨⟩ ?_
  refine xo_nil (t_norm ?_)
  refine w_seq (w_block ?_)
  refine w_seq (w_region ?_)
  refine xo_val rfl rfl ⟨⟩ ?_
  first | refine xo_val rfl (a_load_pp rfl rfl rfl rfl) ⟨⟩ ?_ | refine xo_val rfl (a_load rfl rfl rfl (cell_of (by repeat' first | assumption | exact AH.get_push_new _ _ | exact AH.get_push_at (by first | (simp only [AH.n_push, AH.n_set]; done) | (simp only [AH.n_push, AH.n_set]; rfl)) | refine AH.get_push_old ?_ _ | apply get_same | refine get_other ?_ (by first | assumption | omega | (simp only [AH.n_push, AH.n_set]; omega) | (dsimp only; omega) | (dsimp only; simp only [AH.n_push, AH.n_set]; omega)) | refine Le.get (by assumption) ?_) rfl rfl)) ⟨⟩ ?_
  refine xo_val rfl (a_bin rfl rfl (bin_lss _ _ _ _ _)) ⟨⟩ ?_
  refine xo_val rfl rfl ⟨⟩ ?_
  refine xo_nil (t_norm ?_)
  by_cases hn1 : n < 1
  · have hM : pollM d id n = ⟨1, [], [], d⟩ := by unfold pollM; rw [if_pos hn1]
    have hd : decide (n < 1) = true := decide_eq_true hn1
    refine w_cond rfl (fun _ => ?_) (fun e => by rw [hd] at e; cases e)
    refine w_seq (w_region ?_)
    refine xo_val rfl (a_struct (l := [_, _, _]) rfl rfl rfl rfl) ⟨⟩ ?_
    refine xo_val rfl (a_store rfl rfl rfl rfl rfl (store_of (by repeat' first | assumption | exact AH.get_push_new _ _ | exact AH.get_push_at (by first | (simp only [AH.n_push, AH.n_set]; done) | (simp only [AH.n_push, AH.n_set]; rfl)) | refine AH.get_push_old ?_ _ | apply get_same | refine get_other ?_ (by first | assumption | omega | (simp only [AH.n_push, AH.n_set]; omega) | (dsimp only; omega) | (dsimp only; simp only [AH.n_push, AH.n_set]; omega)) | refine Le.get (by assumption) ?_) rfl rfl)) ⟨⟩ ?_
    refine xo_val rfl rfl ⟨⟩ ?_
    refine xo_nil (t_norm ?_)
    refine w_ret (b_ret (t_ret (ret_give (rs_cell rfl rfl rfl (cells_of (get_same (by repeat' first | assumption | exact AH.get_push_new _ _ | exact AH.get_push_at (by first | (simp only [AH.n_push, AH.n_set]; done) | (simp only [AH.n_push, AH.n_set]; rfl)) | refine AH.get_push_old ?_ _ | apply get_same | refine get_other ?_ (by first | assumption | omega | (simp only [AH.n_push, AH.n_set]; omega) | (dsimp only; omega) | (dsimp only; simp only [AH.n_push, AH.n_set]; omega)) | refine Le.get (by assumption) ?_)) rfl rfl rfl) (rs_tmp rfl rs_nil)) nil2 ?_)))
    rw [hM] at hQ
    have hle3 := hle2.set (B := h.n + 1) (by omega) (.row [.int .i64 1, .int .i64 0, .slice none 0 0] true 0)
    exact hQ _ gs hle3.1 (R.le hle3) (fun b hb => .inl hb) (fun b o e _ => hle3.get e)
  · have hd : decide (n < 1) = false := decide_eq_false hn1
    refine w_cond rfl (fun e => by rw [hd] at e; cases e) (fun _ => ?_)
    cases hj : findAt d.lines id with
    | none =>
      have hv : lookV d gs id = .pointer none := by unfold lookV; rw [hj]
      rw [hv]
      have hM : pollM d id n = ⟨15, [], [], d⟩ := by unfold pollM; rw [if_neg hn1]; simp only [hj]
      refine w_seq (w_region ?_)
      refine xo_val rfl rfl ⟨⟩ ?_
      first | refine xo_val rfl (a_bin rfl rfl (bin_eql _ _ _ _ _)) ⟨⟩ ?_ | refine xo_val rfl rfl ⟨⟩ ?_
      refine xo_val rfl rfl ⟨⟩ ?_
      refine xo_nil (t_norm ?_)
      refine w_cond rfl (fun _ => ?_) (fun e => by cases e)
      refine w_seq (w_region ?_)
      refine xo_val rfl (a_struct (l := [_, _, _]) rfl rfl rfl rfl) ⟨⟩ ?_
      refine xo_val rfl (a_store rfl rfl rfl rfl rfl (store_of (by repeat' first | assumption | exact AH.get_push_new _ _ | exact AH.get_push_at (by first | (simp only [AH.n_push, AH.n_set]; done) | (simp only [AH.n_push, AH.n_set]; rfl)) | refine AH.get_push_old ?_ _ | apply get_same | refine get_other ?_ (by first | assumption | omega | (simp only [AH.n_push, AH.n_set]; omega) | (dsimp only; omega) | (dsimp only; simp only [AH.n_push, AH.n_set]; omega)) | refine Le.get (by assumption) ?_) rfl rfl)) ⟨⟩ ?_
      refine xo_val rfl rfl ⟨⟩ ?_
      refine xo_nil (t_norm ?_)
      refine w_ret (b_ret (t_ret (ret_give (rs_cell rfl rfl rfl (cells_of (get_same (by repeat' first | assumption | exact AH.get_push_new _ _ | exact AH.get_push_at (by first | (simp only [AH.n_push, AH.n_set]; done) | (simp only [AH.n_push, AH.n_set]; rfl)) | refine AH.get_push_old ?_ _ | apply get_same | refine get_other ?_ (by first | assumption | omega | (simp only [AH.n_push, AH.n_set]; omega) | (dsimp only; omega) | (dsimp only; simp only [AH.n_push, AH.n_set]; omega)) | refine Le.get (by assumption) ?_)) rfl rfl rfl) (rs_tmp rfl rs_nil)) nil2 ?_)))
      rw [hM] at hQ
      have hle3 := hle2.set (B := h.n + 1) (by omega) (.row [.int .i64 15, .int .i64 0, .slice none 0 0] true 0)
      exact hQ _ gs hle3.1 (R.le hle3) (fun b hb => .inl hb) (fun b o e _ => hle3.get e)
    | some j =>
      obtain ⟨ln, g, hl, hg, hid, hv⟩ := found R.len hj
      obtain ⟨hL, hrw⟩ := R.line j ln g hl hg
      rw [hv]
      obtain ⟨hb1, hb2⟩ := hrow ln (List.mem_of_getElem? hl)
      refine w_seq (w_region ?_)
      refine xo_val rfl rfl ⟨⟩ ?_
      first | refine xo_val rfl (a_bin rfl rfl (bin_eql _ _ _ _ _)) ⟨⟩ ?_ | refine xo_val rfl rfl ⟨⟩ ?_
      refine xo_val rfl rfl ⟨⟩ ?_
      refine xo_nil (t_norm ?_)
      refine w_cond rfl (fun e => by cases e) (fun _ => ?_)
      refine w_seq (w_region ?_)
      refine xo_val rfl rfl ⟨⟩ ?_
      refine xo_val rfl rfl ⟨⟩ ?_
      refine xo_val rfl rfl ⟨⟩ ?_
      first | refine xo_val rfl (a_load_pp rfl rfl rfl rfl) ⟨⟩ ?_ | refine xo_val rfl (a_load rfl rfl rfl (cell_of (by repeat' first | assumption | exact AH.get_push_new _ _ | exact AH.get_push_at (by first | (simp only [AH.n_push, AH.n_set]; done) | (simp only [AH.n_push, AH.n_set]; rfl)) | refine AH.get_push_old ?_ _ | apply get_same | refine get_other ?_ (by first | assumption | omega | (simp only [AH.n_push, AH.n_set]; omega) | (dsimp only; omega) | (dsimp only; simp only [AH.n_push, AH.n_set]; omega)) | refine Le.get (by assumption) ?_) rfl rfl)) ⟨⟩ ?_
      refine xo_val rfl (a_len_accm hrw rfl rfl rfl rfl rfl rfl) ⟨⟩ ?_
      by_cases hel : ln.row.length = 0 ∧ ln.lost = true
      · have hM : pollM d id n = ⟨20, [], [], d⟩ := by unfold pollM; rw [if_neg hn1]; simp only [hj, hl]; rw [if_pos hel]
        have he : ((ln.row.length : Int) == 0) = true := by simp [hel.1]
        rw [hel.2] at hL
        first | refine xo_val rfl (a_bin rfl rfl (bin_eql _ _ _ _ _)) ⟨⟩ ?_ | refine xo_val rfl rfl ⟨⟩ ?_
        refine xo_val rfl rfl ⟨⟩ ?_
        first | refine xo_skip (want_no rfl (by first | rfl | assumption)) ?_ | refine xo_skip rfl ?_ | refine xo_val (want_if rfl (by first | rfl | assumption)) rfl ⟨⟩ ?_
        first | refine xo_skip (want_no rfl (by first | rfl | assumption)) ?_ | refine xo_skip rfl ?_ | refine xo_val (want_if rfl (by first | rfl | assumption)) rfl ⟨⟩ ?_
        first | refine xo_skip (want_no rfl (by first | rfl | assumption)) ?_ | refine xo_skip rfl ?_ | refine xo_val (want_if rfl (by first | rfl | assumption)) rfl ⟨⟩ ?_
        first | refine xo_skip (want_no rfl (by first | rfl | assumption)) ?_ | refine xo_skip rfl ?_ | refine xo_val (want_if rfl (by first | rfl | assumption)) (a_load_pp rfl rfl rfl rfl) ⟨⟩ ?_ | refine xo_val (want_if rfl (by first | rfl | assumption)) (a_load rfl rfl rfl (cell_of (by repeat' first | assumption | exact AH.get_push_new _ _ | exact AH.get_push_at (by first | (simp only [AH.n_push, AH.n_set]; done) | (simp only [AH.n_push, AH.n_set]; rfl)) | refine AH.get_push_old ?_ _ | apply get_same | refine get_other ?_ (by first | assumption | omega | (simp only [AH.n_push, AH.n_set]; omega) | (dsimp only; omega) | (dsimp only; simp only [AH.n_push, AH.n_set]; omega)) | refine Le.get (by assumption) ?_) rfl rfl)) ⟨⟩ ?_
        first | refine xo_val rfl (a_pick_t rfl (by first | rfl | assumption) rfl) ⟨⟩ ?_ | refine xo_val rfl (a_pick_f rfl (by first | rfl | assumption) rfl) ⟨⟩ ?_
        refine xo_val rfl rfl ⟨⟩ ?_
        refine xo_nil (t_norm (w_cond rfl (fun _ => ?_) (fun e => by cases e)))
        refine w_seq (w_region ?_)
        refine xo_val rfl (a_struct (l := [_, _, _]) rfl rfl rfl rfl) ⟨⟩ ?_
        refine xo_val rfl (a_store rfl rfl rfl rfl rfl (store_of (by repeat' first | assumption | exact AH.get_push_new _ _ | exact AH.get_push_at (by first | (simp only [AH.n_push, AH.n_set]; done) | (simp only [AH.n_push, AH.n_set]; rfl)) | refine AH.get_push_old ?_ _ | apply get_same | refine get_other ?_ (by first | assumption | omega | (simp only [AH.n_push, AH.n_set]; omega) | (dsimp only; omega) | (dsimp only; simp only [AH.n_push, AH.n_set]; omega)) | refine Le.get (by assumption) ?_) rfl rfl)) ⟨⟩ ?_
        refine xo_val rfl rfl ⟨⟩ ?_
        refine xo_nil (t_norm ?_)
        refine w_ret (b_ret (t_ret (ret_give (rs_cell rfl rfl rfl (cells_of (get_same (by repeat' first | assumption | exact AH.get_push_new _ _ | exact AH.get_push_at (by first | (simp only [AH.n_push, AH.n_set]; done) | (simp only [AH.n_push, AH.n_set]; rfl)) | refine AH.get_push_old ?_ _ | apply get_same | refine get_other ?_ (by first | assumption | omega | (simp only [AH.n_push, AH.n_set]; omega) | (dsimp only; omega) | (dsimp only; simp only [AH.n_push, AH.n_set]; omega)) | refine Le.get (by assumption) ?_)) rfl rfl rfl) (rs_tmp rfl rs_nil)) nil2 ?_)))
        rw [hM] at hQ
        have hle3 := hle2.set (B := h.n + 1) (by omega) (.row [.int .i64 20, .int .i64 0, .slice none 0 0] true 0)
        exact hQ _ gs hle3.1 (R.le hle3) (fun b hb => .inl hb) (fun b o e _ => hle3.get e)
      · -- some go
        have tail : ∀ fr : Fr, fr 3 = .pointer (some ⟨h.n, 0, none⟩) → fr 4 = .pointer (some ⟨h.n + 1, 0, none⟩) → fr 6 = .pointer (some ⟨g.1, 0, none⟩) →
            xw tab C Y ((XC.region x27_8).seq ((XC.region x27_9).seq ((XC.region x27_10).seq (((XC.region x27_11).seq (XC.block 1 ((XC.region x27_12).seq ((XC.cond (Operand.tmp 58) XC.skip (XC.exit 1)).seq ((XC.block 2 ((XC.region x27_13).seq ((XC.region x27_14).seq (XC.region x27_15)))).seq (XC.region x27_16)))).loop)).seq ((XC.region x27_17).seq ((XC.region x27_18).seq XC.ret)))))) fr
              ((h.push (.row (cmdV 4 id n ref).cells.toList true 0)).push (.row (Value.agg #[.int .i64 0, .int .i64 0, .slice none 0 0]).cells.toList true 0)) (retQ tab [ResultVar.cell 4 50, ResultVar.tmp 5] Q) := by
          intro fr f3 f4 f6
          rw [← fr_fix f3, ← fr_fix f4, ← fr_fix f6]
          obtain ⟨kk, hkk⟩ : ∃ kk, kk = min n.toNat ln.row.length := ⟨_, rfl⟩
          have hmin : (if (ln.row.length : Int) < n then (ln.row.length : Int) else n) = (kk : Int) := by split <;> omega
          have hkl : kk ≤ ln.row.length := by omega
          have hM : pollM d id n = ⟨0, (ln.row.take kk).map (·.sets), (ln.row.take kk).flatMap (·.refs), d.setAt j { ln with row := ln.row.drop kk }⟩ := by
            unfold pollM; rw [if_neg hn1]; simp only [hj, hl]; rw [if_neg hel, ← hkk]
          have hgn := R.lt (Fp_line (D := D) (m := m) hg (.inl rfl))
          have hle3 := hle2.push (.row (Value.agg #[.int .i64 0, .int .i64 0, .slice none 0 0]).cells.toList true 0)
          refine w_seq (w_region ?_)
          refine xo_val rfl (a_alloc rfl) ⟨⟩ ?_
          refine xo_nil (t_norm ?_)
          refine w_seq (w_region ?_)
          refine xo_val rfl rfl ⟨⟩ ?_
          refine xo_nil (t_norm ?_)
          refine w_seq (w_region ?_)
          refine xo_val rfl rfl ⟨⟩ ?_
          first | refine xo_val rfl (a_load_pp rfl rfl rfl rfl) ⟨⟩ ?_ | refine xo_val rfl (a_load rfl rfl rfl (cell_of (by repeat' first | assumption | exact AH.get_push_new _ _ | exact AH.get_push_at (by first | (simp only [AH.n_push, AH.n_set]; done) | (simp only [AH.n_push, AH.n_set]; rfl)) | refine AH.get_push_old ?_ _ | apply get_same | refine get_other ?_ (by first | assumption | omega | (simp only [AH.n_push, AH.n_set]; omega) | (dsimp only; omega) | (dsimp only; simp only [AH.n_push, AH.n_set]; omega)) | refine Le.get (by assumption) ?_) rfl rfl)) ⟨⟩ ?_
          refine xo_val rfl rfl ⟨⟩ ?_
          refine xo_val rfl rfl ⟨⟩ ?_
          refine xo_val rfl rfl ⟨⟩ ?_
          first | refine xo_val rfl (a_load_pp rfl rfl rfl rfl) ⟨⟩ ?_ | refine xo_val rfl (a_load rfl rfl rfl (cell_of (by repeat' first | assumption | exact AH.get_push_new _ _ | exact AH.get_push_at (by first | (simp only [AH.n_push, AH.n_set]; done) | (simp only [AH.n_push, AH.n_set]; rfl)) | refine AH.get_push_old ?_ _ | apply get_same | refine get_other ?_ (by first | assumption | omega | (simp only [AH.n_push, AH.n_set]; omega) | (dsimp only; omega) | (dsimp only; simp only [AH.n_push, AH.n_set]; omega)) | refine Le.get (by assumption) ?_) rfl rfl)) ⟨⟩ ?_
          refine xo_val rfl (a_len_accm hrw rfl rfl rfl rfl rfl rfl) ⟨⟩ ?_
          refine xo_val (v := .int .i64 (kk : Int)) rfl (by rw [← hmin]; rfl) ⟨⟩ ?_
          refine xo_val rfl rfl ⟨⟩ ?_
          refine xo_nil (t_norm ?_)
          refine w_seq ?_
          refine w_seq (w_region ?_)
          refine xo_val rfl rfl ⟨⟩ ?_
          refine xo_val rfl rfl ⟨⟩ ?_
          refine xo_val rfl rfl ⟨⟩ ?_
          first | refine xo_val rfl (a_load_pp rfl rfl rfl rfl) ⟨⟩ ?_ | refine xo_val rfl (a_load rfl rfl rfl (cell_of (by repeat' first | assumption | exact AH.get_push_new _ _ | exact AH.get_push_at (by first | (simp only [AH.n_push, AH.n_set]; done) | (simp only [AH.n_push, AH.n_set]; rfl)) | refine AH.get_push_old ?_ _ | apply get_same | refine get_other ?_ (by first | assumption | omega | (simp only [AH.n_push, AH.n_set]; omega) | (dsimp only; omega) | (dsimp only; simp only [AH.n_push, AH.n_set]; omega)) | refine Le.get (by assumption) ?_) rfl rfl)) ⟨⟩ ?_
          refine xo_val rfl rfl ⟨⟩ ?_
          obtain ⟨u, hu, hrd, hub⟩ := (hrw.le hle3).to (T := tab) (t := 83) (n := kk) (q := .i64) rfl rfl rfl rfl (by rw [List.length_map]; exact hkl)
          rw [← List.map_take] at hrd
          refine xo_val rfl (a_sl rfl rfl rfl rfl hu) ⟨⟩ ?_
          refine xo_val rfl (a_len_rdm hrd rfl rfl rfl rfl rfl rfl) ⟨⟩ ?_
          refine xo_val rfl rfl ⟨⟩ ?_
          refine xo_nil (t_norm ?_)
          generalize hH : AH.push _ _ = hb at hrd hle3 hu ⊢
          have c4 : hb.get (h.n + 1) = some (.row [.int .i64 0, .int .i64 0, .slice none 0 0] true 0) := by rw [← hH]; exact (by repeat' first | assumption | exact AH.get_push_new _ _ | exact AH.get_push_at (by first | (simp only [AH.n_push, AH.n_set]; done) | (simp only [AH.n_push, AH.n_set]; rfl)) | refine AH.get_push_old ?_ _ | apply get_same | refine get_other ?_ (by first | assumption | omega | (simp only [AH.n_push, AH.n_set]; omega) | (dsimp only; omega) | (dsimp only; simp only [AH.n_push, AH.n_set]; omega)) | refine Le.get (by assumption) ?_)
          have c7 : hb.get (h.n + 2) = some (.row [.int .i64 0, .int .i64 0, .slice none 0 0] true 0) := by rw [← hH]; exact (by repeat' first | assumption | exact AH.get_push_new _ _ | exact AH.get_push_at (by first | (simp only [AH.n_push, AH.n_set]; done) | (simp only [AH.n_push, AH.n_set]; rfl)) | refine AH.get_push_old ?_ _ | apply get_same | refine get_other ?_ (by first | assumption | omega | (simp only [AH.n_push, AH.n_set]; omega) | (dsimp only; omega) | (dsimp only; simp only [AH.n_push, AH.n_set]; omega)) | refine Le.get (by assumption) ?_)
          have hbn : hb.n = h.n + 3 := by rw [← hH]; rfl
          clear hH
          have hut : (ln.row.take kk).length = kk := by rw [List.length_take]; omega
          refine w_block (w_loop (fun N fr h' => ∃ (i : Nat) (mv rv : Value), N + i = kk ∧ But [h.n + 2] hb h' ∧ h'.get (h.n + 2) = some (.row [.int .i64 0, .int .i64 0, mv] true 0) ∧ Acc h' 1 mv (((ln.row.take i).map (·.sets)).map setsV) ∧ Acc h' 2 rv (((ln.row.take i).flatMap (·.refs)).map refV) ∧
            (∀ b ∈ rowBlk mv, hb.n ≤ b) ∧ (∀ b ∈ rowBlk rv, hb.n ≤ b ∧ b ∉ rowBlk mv) ∧ fr 4 = .pointer (some ⟨h.n + 1, 0, none⟩) ∧ fr 6 = .pointer (some ⟨g.1, 0, none⟩) ∧ fr 7 = .pointer (some ⟨h.n + 2, 0, none⟩) ∧ fr 8 = rv ∧ fr 9 = .int .i64 kk ∧ fr 55 = u ∧ fr 56 = .int .i64 (ln.row.take kk).length ∧ fr 57 = .int .i64 i) kk ?_ ?_)
          · exact ⟨0, .slice none 0 0, .slice none 0 0, rfl, .refl _ _, c7, Acc.nil, Acc.nil, fun b hb => by simp [rowBlk] at hb, fun b hb => by simp [rowBlk] at hb, rfl, rfl, rfl, rfl, rfl, rfl, rfl, rfl⟩
          rintro N fr h4 ⟨i, mv, rv, hN, hB4, h74, Am, Ar, hmb, hrb, f4, f6, f7, f8, f9, f55, f56, f57⟩
          rw [← fr_fix f4, ← fr_fix f6, ← fr_fix f7, ← fr_fix f8, ← fr_fix f9, ← fr_fix f55, ← fr_fix f56, ← fr_fix f57]
          refine w_seq (w_region ?_)
          refine xo_val rfl (a_bin rfl rfl (bin_lss _ _ _ _ _)) ⟨⟩ ?_
          refine xo_nil (t_norm ?_)
          refine w_seq (w_cond rfl (fun hlt => w_skip (t_norm ?_)) (fun hge => w_exit (t_exit ?_)))
          · have hlt : (i : Int) < (ln.row.take kk).length := of_decide_eq_true hlt
            rw [hut] at hlt
            obtain ⟨fx, hfx⟩ : ∃ fx, ln.row[i]? = some fx := ⟨_, List.getElem?_eq_getElem (by omega)⟩
            have hfx2 : ((ln.row.take kk).map foundV)[i]? = some (foundV fx) := by rw [List.getElem?_map, List.getElem?_take, if_pos (by omega), hfx]; rfl
            obtain ⟨B, off, c, cs, hu1, hrow1, hlen1, hc1⟩ := hrd.at hfx2
            rw [List.length_map, hut] at hu1
            have hBu : B ∈ rowBlk u := by rw [hu1]; simp [rowBlk]
            have hBn := R.lt (Fp_line (D := D) (m := m) hg (.inr (hub B hBu)))
            have hrow4 := hB4.get hrow1 (by simp; omega)
            have h4n := hB4.1
            have hsr : ((ln.row.map fun f => f.refs.length).sum) ≤ 1000000 := hb2
            have htk : ∀ k, ((ln.row.take k).flatMap (·.refs)).length ≤ 1000000 := fun k => by
              rw [List.length_flatMap]
              have h1 := cntTo_le ln.row k
              unfold cntTo at h1
              omega
            refine w_seq (w_block ?_)
            refine w_seq (w_region ?_)
            refine xo_val rfl (a_ixs rfl rfl rfl hu1 rfl (by omega)) ⟨⟩ ?_
            refine xo_val rfl (a_loads rfl rfl rfl (cells_at (n := ((i : Nat) : Int).toNat * 2) (k := 2) (l := [setsV fx.sets, refsV fx.refs]) hrow4 rfl hlen1 hc1)) ⟨⟩ ?_
            refine xo_val rfl (a_alloc rfl) ⟨⟩ ?_
            refine xo_val rfl (a_store rfl rfl rfl rfl rfl (store_of (by repeat' first | assumption | exact AH.get_push_new _ _ | exact AH.get_push_at (by first | (simp only [AH.n_push, AH.n_set]; done) | (simp only [AH.n_push, AH.n_set]; rfl)) | refine AH.get_push_old ?_ _ | apply get_same | refine get_other ?_ (by first | assumption | omega | (simp only [AH.n_push, AH.n_set]; omega) | (dsimp only; omega) | (dsimp only; simp only [AH.n_push, AH.n_set]; omega)) | refine Le.get (by assumption) ?_) rfl rfl)) ⟨⟩ ?_
            refine xo_nil (t_norm ?_)
            have hle5 := ((Le.refl h4).push (.row (Value.agg #[.slice none 0 0, .slice none 0 0]).cells.toList true 0)).set (B := h4.n) (Nat.le_refl _) (.row [setsV fx.sets, refsV fx.refs] true 0)
            have h75 := hle5.get h74
            have h115 := get_same (p := .row [setsV fx.sets, refsV fx.refs] true 0) (AH.get_push_new h4 (.row (Value.agg #[.slice none 0 0, .slice none 0 0]).cells.toList true 0))
            have hn5 : ((h4.push (.row (Value.agg #[.slice none 0 0, .slice none 0 0]).cells.toList true 0)).set h4.n (.row [setsV fx.sets, refsV fx.refs] true 0)).n = h4.n + 1 := by simp
            generalize hH5 : ((h4.push (.row (Value.agg #[.slice none 0 0, .slice none 0 0]).cells.toList true 0)).set h4.n (.row [setsV fx.sets, refsV fx.refs] true 0)) = h5 at hle5 h75 h115 hn5
            replace hH5 : ∀ (fr : Fr) (Q : XQ), xw tab C Y ((XC.region x27_14).seq (XC.region x27_15)) fr h5 Q → xw tab C Y ((XC.region x27_14).seq (XC.region x27_15)) fr ((h4.push (.row (Value.agg #[.slice none 0 0, .slice none 0 0]).cells.toList true 0)).set h4.n (.row [setsV fx.sets, refsV fx.refs] true 0)) Q := fun fr Q hx => by rw [hH5]; exact hx
            refine hH5 _ _ ?_
            clear hH5
            refine w_seq (w_region ?_)
            refine xo_val rfl rfl ⟨⟩ ?_
            first | refine xo_val rfl (a_load_pp rfl rfl rfl rfl) ⟨⟩ ?_ | refine xo_val rfl (a_load rfl rfl rfl (cell_of (by repeat' first | assumption | exact AH.get_push_new _ _ | exact AH.get_push_at (by first | (simp only [AH.n_push, AH.n_set]; done) | (simp only [AH.n_push, AH.n_set]; rfl)) | refine AH.get_push_old ?_ _ | apply get_same | refine get_other ?_ (by first | assumption | omega | (simp only [AH.n_push, AH.n_set]; omega) | (dsimp only; omega) | (dsimp only; simp only [AH.n_push, AH.n_set]; omega)) | refine Le.get (by assumption) ?_) rfl rfl)) ⟨⟩ ?_
            refine xo_val rfl rfl ⟨⟩ ?_
            first | refine xo_val rfl (a_load_pp rfl rfl rfl rfl) ⟨⟩ ?_ | refine xo_val rfl (a_load rfl rfl rfl (cell_of (by repeat' first | assumption | exact AH.get_push_new _ _ | exact AH.get_push_at (by first | (simp only [AH.n_push, AH.n_set]; done) | (simp only [AH.n_push, AH.n_set]; rfl)) | refine AH.get_push_old ?_ _ | apply get_same | refine get_other ?_ (by first | assumption | omega | (simp only [AH.n_push, AH.n_set]; omega) | (dsimp only; omega) | (dsimp only; simp only [AH.n_push, AH.n_set]; omega)) | refine Le.get (by assumption) ?_) rfl rfl)) ⟨⟩ ?_
            refine xo_val rfl (a_list (l := [_]) rfl rfl rfl rfl rfl) ⟨⟩ ?_
            have hle6 := (Le.refl h5).push (.row [setsV fx.sets] true 1)
            have As : Acc (h5.push (.row [setsV fx.sets] true 1)) 1 (.slice (some ⟨h5.n, 0, none⟩) 1 2) [setsV fx.sets] := Acc.new (sz_sets [fx.sets]) (AH.get_push_new _ _) (.inr rfl)
            obtain ⟨p, hp, Am2, hB7, hbl7⟩ := acc_append (T := tab) (t := 48) (xt := 48) (x := .slice (some ⟨h5.n, 0, none⟩) 1 2) ((Am.le hle5).le hle6) t48 rfl (fun _ e => by cases e) rfl (As.src rfl) (sz_sets [fx.sets]) (roomOk_of (by simp; omega) (by simp; omega))
            obtain ⟨mv', h7⟩ := p
            dsimp only at Am2 hB7 hbl7
            simp only [AH.n_push, hn5] at hbl7
            have h77 := hB7.get (hle6.get h75) (fun hm => by have := hmb _ hm; omega)
            refine xo_val rfl (a_append rfl rfl rfl rfl rfl hp) ⟨⟩ ?_
            refine xo_val rfl rfl ⟨⟩ ?_
            refine xo_val rfl (a_store1 rfl rfl rfl rfl Am2.one h77 rfl rfl) ⟨⟩ ?_
            refine xo_nil (t_norm ?_)
            have e1 : ((ln.row.take i).map (·.sets)).map setsV ++ [setsV fx.sets] = ((ln.row.take (i + 1)).map (·.sets)).map setsV := by rw [List.take_add_one, hfx]; simp
            rw [e1] at Am2
            have hmb' : ∀ b ∈ rowBlk mv', hb.n ≤ b := fun b hb' => (hbl7 b hb').elim (hmb b) (by omega)
            have h78 := get_same (p := .row [.int .i64 0, .int .i64 0, mv'] true 0) h77
            have Am3 : Acc (h7.set (h.n + 2) (.row [.int .i64 0, .int .i64 0, mv'] true 0)) 1 mv' (((ln.row.take (i + 1)).map (·.sets)).map setsV) := Am2.stay fun b hb' o e => get_other e (by have := hmb' b hb'; omega)
            have Ar3 : Acc (h7.set (h.n + 2) (.row [.int .i64 0, .int .i64 0, mv'] true 0)) 2 rv (((ln.row.take i).flatMap (·.refs)).map refV) :=
              (((Ar.le hle5).le hle6).but hB7 fun b hb' => (hrb b hb').2).stay fun b hb' o e => get_other e (by have := (hrb b hb').1; omega)
            have hB8 : But ((h.n + 2) :: rowBlk mv) h4 (h7.set (h.n + 2) (.row [.int .i64 0, .int .i64 0, mv'] true 0)) :=
              ((((hle5.trans hle6).but _).trans hB7 (fun k hk => .inl (List.mem_cons_of_mem _ hk)))).set (.inl (List.mem_cons_self ..)) _
            have h118 : (h7.set (h.n + 2) (.row [.int .i64 0, .int .i64 0, mv'] true 0)).get h4.n = some (.row [setsV fx.sets, refsV fx.refs] true 0) :=
              get_other (hB7.get (hle6.get h115) (fun hm => by have := Am.blk_lt _ hm; omega)) (by omega)
            refine w_region ?_
            refine xo_val rfl rfl ⟨⟩ ?_
            refine xo_val rfl rfl ⟨⟩ ?_
            first | refine xo_val rfl (a_load_pp rfl rfl rfl rfl) ⟨⟩ ?_ | refine xo_val rfl (a_load rfl rfl rfl (cell_of (by repeat' first | assumption | exact AH.get_push_new _ _ | exact AH.get_push_at (by first | (simp only [AH.n_push, AH.n_set]; done) | (simp only [AH.n_push, AH.n_set]; rfl)) | refine AH.get_push_old ?_ _ | apply get_same | refine get_other ?_ (by first | assumption | omega | (simp only [AH.n_push, AH.n_set]; omega) | (dsimp only; omega) | (dsimp only; simp only [AH.n_push, AH.n_set]; omega)) | refine Le.get (by assumption) ?_) rfl rfl)) ⟨⟩ ?_
            obtain ⟨p2, hp2, Ar4, hB9, hbl9⟩ := acc_append (T := tab) (t := 30) (xt := 30) (x := refsV fx.refs) Ar3 t30 rfl (fun _ e => by cases e) rfl (ps_src rfl) (sz_ref fx.refs) (by
              have h1 := htk (i + 1)
              rw [List.take_add_one, hfx] at h1
              simp only [Option.toList_some, List.flatMap_append, List.length_append, List.flatMap_cons, List.flatMap_nil, List.append_nil] at h1
              exact roomOk_of (by simp only [List.length_map]; omega) (by simp only [List.length_map]; omega))
            obtain ⟨rv', h9⟩ := p2
            dsimp only at Ar4 hB9 hbl9
            refine xo_val rfl (a_append rfl rfl rfl rfl rfl hp2) ⟨⟩ ?_
            refine xo_val rfl rfl ⟨⟩ ?_
            refine xo_nil (b_norm (t_norm ?_))
            refine w_region ?_
            refine xo_val rfl (a_bin rfl rfl (bin_add64 _ _ _ _ (by omega))) ⟨⟩ ?_
            refine xo_val rfl rfl ⟨⟩ ?_
            refine xo_nil ?_
            have e2 : ((ln.row.take i).flatMap (·.refs)).map refV ++ fx.refs.map refV = ((ln.row.take (i + 1)).flatMap (·.refs)).map refV := by rw [List.take_add_one, hfx]; simp
            rw [e2] at Ar4
            have hn8 := hB8.1
            have hmr : ∀ b ∈ rowBlk mv', b ∉ rowBlk rv := fun b hb' hr => (hbl7 b hb').elim (fun y => (hrb b hr).2 y) fun y => by have := Ar.blk_lt b hr; omega
            refine ⟨N - 1, by omega, i + 1, mv', rv', by omega, ?_, hB9.get h78 (fun hm => by have := (hrb _ hm).1; omega), Am3.but hB9 hmr, Ar4, hmb', fun b hb' => ?_, rfl, rfl, rfl, rfl, rfl, rfl, rfl, rfl⟩
            · refine (hB4.trans hB8 fun k hk => ?_).trans hB9 fun k hk => .inr (hrb k hk).1
              rcases List.mem_cons.1 hk with rfl | hk
              · exact .inl (List.mem_singleton.2 rfl)
              · exact .inr (hmb k hk)
            · rcases hbl9 b hb' with y | y
              · exact ⟨(hrb b y).1, fun hm => hmr b hm y⟩
              · have h7n : h5.n + 1 ≤ h7.n := by have := hB7.1; simpa using this
                simp only [AH.n_set] at y
                refine ⟨by omega, fun hm => ?_⟩
                have := Am2.blk_lt b hm
                omega
          · have hge : ¬ (i : Int) < (ln.row.take kk).length := of_decide_eq_false hge
            rw [hut] at hge
            have hik : i = kk := by omega
            subst hik
            have hg2 : ∀ b ∈ rowBlk g.2, b < h.n := fun b hb => R.lt (Fp_line (D := D) (m := m) hg (.inr hb))
            have hL4 := hB4.get (hle3.get hL) (by simp; omega)
            have hrw4 := (hrw.le hle3).but hB4 fun b hb' => by have := hg2 b hb'; simp; omega
            have c44 := hB4.get c4 (by simp)
            have hn4 := hB4.1
            refine b_here (id := 1) (t_norm ?_)
            refine w_seq (w_region ?_)
            refine xo_val rfl rfl ⟨⟩ ?_
            refine xo_val rfl (a_list (l := []) rfl rfl rfl rfl rfl) ⟨⟩ ?_
            refine xo_val rfl rfl ⟨⟩ ?_
            refine xo_val rfl rfl ⟨⟩ ?_
            refine xo_val rfl rfl ⟨⟩ ?_
            first | refine xo_val rfl (a_load_pp rfl rfl rfl rfl) ⟨⟩ ?_ | refine xo_val rfl (a_load rfl rfl rfl (cell_of (by repeat' first | assumption | exact AH.get_push_new _ _ | exact AH.get_push_at (by first | (simp only [AH.n_push, AH.n_set]; done) | (simp only [AH.n_push, AH.n_set]; rfl)) | refine AH.get_push_old ?_ _ | apply get_same | refine get_other ?_ (by first | assumption | omega | (simp only [AH.n_push, AH.n_set]; omega) | (dsimp only; omega) | (dsimp only; simp only [AH.n_push, AH.n_set]; omega)) | refine Le.get (by assumption) ?_) rfl rfl)) ⟨⟩ ?_
            refine xo_val rfl rfl ⟨⟩ ?_
            have hle5 := (Le.refl h4).push (.row ([] : List Value) true 2)
            have A0 : Acc (h4.push (.row [] true 2)) 2 (.slice (some ⟨h4.n, 0, none⟩) 0 1) ([] : List Value) := Acc.new (fun v hv => by cases hv) (AH.get_push_new _ _) (.inr rfl)
            obtain ⟨w, hw, hrd2, hwb⟩ := (hrw4.le hle5).from (T := tab) (t := 83) (n := i) (q := .i64) rfl rfl rfl rfl (by rw [List.length_map]; exact hkl)
            rw [← List.map_drop] at hrd2
            refine xo_val rfl (a_sl rfl rfl rfl rfl hw) ⟨⟩ ?_
            obtain ⟨p, hp, A2, hB, hbl⟩ := acc_append (T := tab) (t := 83) (xt := 83) (x := w) A0 t83 rfl (fun _ e => by cases e) rfl (hrd2.src rfl) (sz_found _) (roomOk_of (by simp; omega) (by simp; omega))
            obtain ⟨nv, h6⟩ := p
            dsimp only at A2 hB hbl
            rw [List.nil_append] at A2
            have hnb : ∀ b ∈ rowBlk nv, h4.n ≤ b := fun b hb' => (hbl b hb').elim (fun y => by simp [rowBlk] at y; omega) (by simp; omega)
            have hle6 : Le h4 h6 := hB.le hle5 (fun k hk => by simp [rowBlk] at hk; omega)
            refine xo_val rfl (a_append rfl rfl rfl rfl rfl hp) ⟨⟩ ?_
            refine xo_val rfl rfl ⟨⟩ ?_
            refine xo_val rfl rfl ⟨⟩ ?_
            have hL6 := hle6.get hL4
            refine xo_val rfl (a_store1 rfl rfl rfl rfl A2.one hL6 rfl rfl) ⟨⟩ ?_
            refine xo_nil (t_norm ?_)
            have hgne : g.1 ≠ h.n + 1 ∧ g.1 ≠ h.n + 2 := by omega
            have h77 : (h6.set g.1 (.row [nv, .bool ln.lost] true 0)).get (h.n + 2) = some (.row [.int .i64 0, .int .i64 0, mv] true 0) := get_other (hle6.get h74) (by omega)
            have h47 : (h6.set g.1 (.row [nv, .bool ln.lost] true 0)).get (h.n + 1) = some (.row [.int .i64 0, .int .i64 0, .slice none 0 0] true 0) := get_other (hle6.get c44) (by omega)
            refine w_seq (w_region ?_)
            refine xo_val rfl (a_loads (l := [.int .i64 0, .int .i64 0, mv]) rfl rfl rfl (cells_of h77 rfl rfl rfl)) ⟨⟩ ?_
            refine xo_val rfl rfl ⟨⟩ ?_
            refine xo_val rfl (a_store rfl rfl rfl rfl rfl (store_of h47 rfl rfl)) ⟨⟩ ?_
            refine xo_val rfl rfl ⟨⟩ ?_
            refine xo_nil (t_norm ?_)
            have hgr : ∀ b, hb.n ≤ b → b ≠ g.1 ∧ b ≠ h.n + 1 := fun b hb' => by omega
            have Am5 : Acc ((h6.set g.1 (.row [nv, .bool ln.lost] true 0)).set (h.n + 1) (.row [.int .i64 0, .int .i64 0, mv] true 0)) 1 mv (((ln.row.take i).map (·.sets)).map setsV) :=
              (Am.le hle6).stay fun b hb' o e => get_other (get_other e (hgr b (hmb b hb')).1) (hgr b (hmb b hb')).2
            have Ar5 : Acc ((h6.set g.1 (.row [nv, .bool ln.lost] true 0)).set (h.n + 1) (.row [.int .i64 0, .int .i64 0, mv] true 0)) 2 rv (((ln.row.take i).flatMap (·.refs)).map refV) :=
              (Ar.le hle6).stay fun b hb' o e => get_other (get_other e (hgr b (hrb b hb').1).1) (hgr b (hrb b hb').1).2
            obtain ⟨h7, hG1, hB7⟩ := Am5.give (fr := fun _ => .tuple #[.agg #[.int .i64 0, .int .i64 0, mv], rv]) (fr1 := fun _ => .tuple #[ansV 0 0 ((ln.row.take i).map (fun f : Found => f.sets)), rv]) (fun b cs k' hz t => FZ.tupL (.cons (FZ.aggL (.cons (.refl _) (.cons (.refl _) (.cons hz .nil)))) (.cons (.refl _) .nil)))
            have Ar7 := Ar5.but hB7 fun b hb' => (hrb b hb').2
            obtain ⟨h8, hG2, hB8⟩ := Ar7.give (fr := fun _ => .tuple #[ansV 0 0 ((ln.row.take i).map (fun f : Found => f.sets)), rv]) (fr1 := fun _ => .tuple #[ansV 0 0 ((ln.row.take i).map (fun f : Found => f.sets)), refsV ((ln.row.take i).flatMap (fun f : Found => f.refs))]) (fun b cs k' hz t => FZ.tupL (.cons (.refl _) (.cons hz .nil)))
            have c47 := get_same (p := .row [.int .i64 0, .int .i64 0, mv] true 0) h47
            refine w_ret (ret_give (rs_cell rfl rfl rfl (cells_of c47 rfl rfl rfl) (rs_tmp rfl rs_nil)) (hG1.trans hG2) ?_)
            -- the desk
            have hBall : But (g.1 :: rowBlk g.2) h h8 := by
              have b1 : But [] h h6 := (hle3.but _).trans (hB4.trans (hle6.but []) (fun k hk => by cases hk)) (fun k hk => by simp at hk; right; omega)
              have b2 : But (g.1 :: rowBlk g.2) h ((h6.set g.1 (.row [nv, .bool ln.lost] true 0)).set (h.n + 1) (.row [.int .i64 0, .int .i64 0, mv] true 0)) :=
                ((b1.mono (fun k hk => by cases hk)).set (.inl (List.mem_cons_self ..)) _).set (.inr (by omega)) _
              exact (b2.trans hB7 fun k hk => .inr (by have := hmb k hk; omega)).trans hB8 fun k hk => .inr (by have := (hrb k hk).1; omega)
            have hnv : ∀ b ∈ rowBlk nv, b ∉ rowBlk mv ∧ b ∉ rowBlk rv := fun b hb' => ⟨fun x => by have := Am.blk_lt b x; have := hnb b hb'; omega, fun x => by have := Ar.blk_lt b x; have := hnb b hb'; omega⟩
            have hg8 : h8.get g.1 = some (.row [nv, .bool ln.lost] true 0) := by
              refine hB8.get (hB7.get (get_other (get_same hL6) hgne.1) fun x => ?_) fun x => ?_
              · have := hmb _ x; omega
              · have := (hrb _ x).1; omega
            have A8 : Acc h8 2 nv ((ln.row.drop i).map foundV) :=
              ((A2.stay fun b hb' o e => get_other (get_other e (by have := hnb b hb'; omega)) (by have := hnb b hb'; omega)).but hB7 fun b hb' => (hnv b hb').1).but hB8 fun b hb' => (hnv b hb').2
            have R8 := R.turn (l' := { ln with row := ln.row.drop i }) hl hg rfl hBall hg8 A8 (fun b hb' => .inr (by have := hnb b hb'; omega))
            rw [hM] at hQ
            refine hQ h8 _ hBall.1 R8 (fun b hb' => ?_) (fun b o e hb' => hBall.get e fun x => hb' (Fp_line hg ((List.mem_cons.1 x).imp (fun z => z) (fun z => z))))
            rcases Fp_turn hg hb' with x | x
            · exact .inl x
            · right; have := hnb b x; omega
        cases hls : ln.lost with
        | true =>
          have he : ((ln.row.length : Int) == 0) = false := by
            have : ln.row.length ≠ 0 := fun e => hel ⟨e, hls⟩
            rw [beq_eq_false_iff_ne]; omega
          first | refine xo_val rfl (a_bin rfl rfl (bin_eql _ _ _ _ _)) ⟨⟩ ?_ | refine xo_val rfl rfl ⟨⟩ ?_
          refine xo_val rfl rfl ⟨⟩ ?_
          first | refine xo_skip (want_no rfl (by first | rfl | assumption)) ?_ | refine xo_skip rfl ?_ | refine xo_val (want_if rfl (by first | rfl | assumption)) rfl ⟨⟩ ?_
          first | refine xo_skip (want_no rfl (by first | rfl | assumption)) ?_ | refine xo_skip rfl ?_ | refine xo_val (want_if rfl (by first | rfl | assumption)) rfl ⟨⟩ ?_
          first | refine xo_skip (want_no rfl (by first | rfl | assumption)) ?_ | refine xo_skip rfl ?_ | refine xo_val (want_if rfl (by first | rfl | assumption)) rfl ⟨⟩ ?_
          first | refine xo_skip (want_no rfl (by first | rfl | assumption)) ?_ | refine xo_skip rfl ?_ | refine xo_val (want_if rfl (by first | rfl | assumption)) (a_load_pp rfl rfl rfl rfl) ⟨⟩ ?_ | refine xo_val (want_if rfl (by first | rfl | assumption)) (a_load rfl rfl rfl (cell_of (by repeat' first | assumption | exact AH.get_push_new _ _ | exact AH.get_push_at (by first | (simp only [AH.n_push, AH.n_set]; done) | (simp only [AH.n_push, AH.n_set]; rfl)) | refine AH.get_push_old ?_ _ | apply get_same | refine get_other ?_ (by first | assumption | omega | (simp only [AH.n_push, AH.n_set]; omega) | (dsimp only; omega) | (dsimp only; simp only [AH.n_push, AH.n_set]; omega)) | refine Le.get (by assumption) ?_) rfl rfl)) ⟨⟩ ?_
          first | refine xo_val rfl (a_pick_t rfl (by first | rfl | assumption) rfl) ⟨⟩ ?_ | refine xo_val rfl (a_pick_f rfl (by first | rfl | assumption) rfl) ⟨⟩ ?_
          refine xo_val rfl rfl ⟨⟩ ?_
          refine xo_nil (t_norm (w_cond rfl (fun e => by cases e) (fun _ => w_skip (b_norm (t_norm ?_)))))
          exact tail _ rfl rfl rfl
        | false =>
          rw [hls] at hL
          cases he : ((ln.row.length : Int) == 0) with
          | true =>
            first | refine xo_val rfl (a_bin rfl rfl (bin_eql _ _ _ _ _)) ⟨⟩ ?_ | refine xo_val rfl rfl ⟨⟩ ?_
            refine xo_val rfl rfl ⟨⟩ ?_
            first | refine xo_skip (want_no rfl (by first | rfl | assumption)) ?_ | refine xo_skip rfl ?_ | refine xo_val (want_if rfl (by first | rfl | assumption)) rfl ⟨⟩ ?_
            first | refine xo_skip (want_no rfl (by first | rfl | assumption)) ?_ | refine xo_skip rfl ?_ | refine xo_val (want_if rfl (by first | rfl | assumption)) rfl ⟨⟩ ?_
            first | refine xo_skip (want_no rfl (by first | rfl | assumption)) ?_ | refine xo_skip rfl ?_ | refine xo_val (want_if rfl (by first | rfl | assumption)) rfl ⟨⟩ ?_
            first | refine xo_skip (want_no rfl (by first | rfl | assumption)) ?_ | refine xo_skip rfl ?_ | refine xo_val (want_if rfl (by first | rfl | assumption)) (a_load_pp rfl rfl rfl rfl) ⟨⟩ ?_ | refine xo_val (want_if rfl (by first | rfl | assumption)) (a_load rfl rfl rfl (cell_of (by repeat' first | assumption | exact AH.get_push_new _ _ | exact AH.get_push_at (by first | (simp only [AH.n_push, AH.n_set]; done) | (simp only [AH.n_push, AH.n_set]; rfl)) | refine AH.get_push_old ?_ _ | apply get_same | refine get_other ?_ (by first | assumption | omega | (simp only [AH.n_push, AH.n_set]; omega) | (dsimp only; omega) | (dsimp only; simp only [AH.n_push, AH.n_set]; omega)) | refine Le.get (by assumption) ?_) rfl rfl)) ⟨⟩ ?_
            first | refine xo_val rfl (a_pick_t rfl (by first | rfl | assumption) rfl) ⟨⟩ ?_ | refine xo_val rfl (a_pick_f rfl (by first | rfl | assumption) rfl) ⟨⟩ ?_
            refine xo_val rfl rfl ⟨⟩ ?_
            refine xo_nil (t_norm (w_cond rfl (fun e => by cases e) (fun _ => w_skip (b_norm (t_norm ?_)))))
            exact tail _ rfl rfl rfl
          | false =>
            first | refine xo_val rfl (a_bin rfl rfl (bin_eql _ _ _ _ _)) ⟨⟩ ?_ | refine xo_val rfl rfl ⟨⟩ ?_
            refine xo_val rfl rfl ⟨⟩ ?_
            first | refine xo_skip (want_no rfl (by first | rfl | assumption)) ?_ | refine xo_skip rfl ?_ | refine xo_val (want_if rfl (by first | rfl | assumption)) rfl ⟨⟩ ?_
            first | refine xo_skip (want_no rfl (by first | rfl | assumption)) ?_ | refine xo_skip rfl ?_ | refine xo_val (want_if rfl (by first | rfl | assumption)) rfl ⟨⟩ ?_
            first | refine xo_skip (want_no rfl (by first | rfl | assumption)) ?_ | refine xo_skip rfl ?_ | refine xo_val (want_if rfl (by first | rfl | assumption)) rfl ⟨⟩ ?_
            first | refine xo_skip (want_no rfl (by first | rfl | assumption)) ?_ | refine xo_skip rfl ?_ | refine xo_val (want_if rfl (by first | rfl | assumption)) (a_load_pp rfl rfl rfl rfl) ⟨⟩ ?_ | refine xo_val (want_if rfl (by first | rfl | assumption)) (a_load rfl rfl rfl (cell_of (by repeat' first | assumption | exact AH.get_push_new _ _ | exact AH.get_push_at (by first | (simp only [AH.n_push, AH.n_set]; done) | (simp only [AH.n_push, AH.n_set]; rfl)) | refine AH.get_push_old ?_ _ | apply get_same | refine get_other ?_ (by first | assumption | omega | (simp only [AH.n_push, AH.n_set]; omega) | (dsimp only; omega) | (dsimp only; simp only [AH.n_push, AH.n_set]; omega)) | refine Le.get (by assumption) ?_) rfl rfl)) ⟨⟩ ?_
            first | refine xo_val rfl (a_pick_t rfl (by first | rfl | assumption) rfl) ⟨⟩ ?_ | refine xo_val rfl (a_pick_f rfl (by first | rfl | assumption) rfl) ⟨⟩ ?_
            refine xo_val rfl rfl ⟨⟩ ?_
            refine xo_nil (t_norm (w_cond rfl (fun e => by cases e) (fun _ => w_skip (b_norm (t_norm ?_)))))
            exact tail _ rfl rfl rfl
end Go.AI.Q
