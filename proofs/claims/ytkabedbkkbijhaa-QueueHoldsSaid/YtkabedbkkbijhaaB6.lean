/-
  THE QUEUE'S DESK: refs that are let go; hits, merged. (Own work; steps printed by wip/gen/walk.py.)
-/
import Derived.Test.YtkabedbkkbijhaaB5
namespace Go.AI.Q
open Go Go.AI Go.Proofs
attribute [local irreducible] xOps xw
theorem t30 : elemOfSlice tab 30 = some { ud := UD.struct [(0, 3, false), (1, 3, false)], size := 2, bytes := 16, zero := Value.agg #[Value.int IntKind.i64 0, Value.int IntKind.i64 0], eqok := true } := rfl
theorem gone_ok {h : AH} {RB : Nat} {rv : Value} {f : Found} {refs : List Ref} {Q : AO → AH → Prop} (hRB : h.get RB = some (.row [rv] true 0)) (A : Acc h 2 rv (refs.map refV)) (hnb : RB ∉ rowBlk rv)
    (hroom : refs.length + f.refs.length ≤ 1000000000)
    (hQ : ∀ h' rv', But (RB :: rowBlk rv) h h' → h'.get RB = some (.row [rv'] true 0) → Acc h' 2 rv' ((refs ++ f.refs).map refV) → (∀ b ∈ rowBlk rv', b ∈ rowBlk rv ∨ h.n ≤ b) → RB ∉ rowBlk rv' → Q (.ret (.tuple #[])) h') :
    C 32 [foundV f, .pointer (some ⟨RB, 0, none⟩)] h Q := by
  refine run_32 rfl ?_
  refine w_seq (w_region ?_)
  refine xo_val rfl (a_box rfl rfl) ⟨⟩ ?_
  refine xo_nil (t_norm ?_)
  refine w_region ?_
  have hle := (Le.refl h).push (.row (foundV f).cells.toList true 0)
  have A1 := A.le hle
  have hRB1 := hle.get hRB
  obtain ⟨p, hp, A2, hB, hbl⟩ := acc_append (T := tab) (t := 30) (xt := 30) (x := refsV f.refs) A1 t30 rfl (fun _ e => by cases e) rfl (ps_src rfl) (sz_ref f.refs) (roomOk_of (by simp; omega) (by simp; omega))
  obtain ⟨pv, h2⟩ := p
  dsimp only at A2 hB hbl
  rw [← List.map_append] at A2
  obtain ⟨pa, pc, rfl⟩ := A2.slice
  first | refine xo_val rfl (a_load_pp rfl rfl rfl rfl) ⟨⟩ ?_ | refine xo_val rfl (a_load rfl rfl rfl (cell_of (by repeat' first | assumption | exact AH.get_push_new _ _ | exact AH.get_push_at (by first | (simp only [AH.n_push, AH.n_set]; done) | (simp only [AH.n_push, AH.n_set]; rfl)) | refine AH.get_push_old ?_ _ | apply get_same | refine get_other ?_ (by first | assumption | omega | (simp only [AH.n_push, AH.n_set]; omega) | (dsimp only; omega) | (dsimp only; simp only [AH.n_push, AH.n_set]; omega)) | refine Le.get (by assumption) ?_) rfl rfl)) ⟨⟩ ?_
  refine xo_val rfl rfl ⟨⟩ ?_
  first | refine xo_val rfl (a_load_pp rfl rfl rfl rfl) ⟨⟩ ?_ | refine xo_val rfl (a_load rfl rfl rfl (cell_of (by repeat' first | assumption | exact AH.get_push_new _ _ | exact AH.get_push_at (by first | (simp only [AH.n_push, AH.n_set]; done) | (simp only [AH.n_push, AH.n_set]; rfl)) | refine AH.get_push_old ?_ _ | apply get_same | refine get_other ?_ (by first | assumption | omega | (simp only [AH.n_push, AH.n_set]; omega) | (dsimp only; omega) | (dsimp only; simp only [AH.n_push, AH.n_set]; omega)) | refine Le.get (by assumption) ?_) rfl rfl)) ⟨⟩ ?_
  refine xo_val rfl (a_append rfl rfl rfl rfl rfl hp) ⟨⟩ ?_
  have hRB2 := hB.2 _ _ hRB1 hnb
  refine xo_val rfl (a_store rfl rfl rfl rfl rfl (store_of hRB2 rfl rfl)) ⟨⟩ ?_
  refine xo_nil ?_
  refine end_of rs_nil ?_
  have hlt := AH.get_lt hRB
  have hnin : RB ∉ rowBlk (.slice pa ((refs ++ f.refs).map refV).length pc) := fun hm => by
    rcases hbl RB hm with x | x
    · exact hnb x
    · simp at x; omega
  refine hQ _ (.slice pa _ pc) ?_ (get_same hRB2) (A2.stay fun b hb o e => get_other e fun x => hnin (by rw [show RB = b from x.symm]; exact hb)) (fun b hb => ?_) hnin
  · refine But.set (((hle.but _).trans hB ?_)) (.inl (List.mem_cons_self ..)) _
    exact fun k hk => .inl (List.mem_cons_of_mem _ hk)
  · rcases hbl b hb with x | x
    · exact .inl x
    · simp at x; right; omega
theorem less_ok (a b : Hit) : Pure 34 [hitV a, hitV b] (.bool (decide (a.id < b.id))) := by
  intro h Q hQ
  refine run_34 rfl ?_
  refine w_seq (w_region ?_)
  refine xo_val rfl (a_box rfl rfl) ⟨⟩ ?_
  refine xo_val rfl (a_box rfl rfl) ⟨⟩ ?_
  refine xo_val rfl rfl ⟨⟩ ?_
  refine xo_nil (t_norm ?_)
  refine w_seq (w_region ?_)
  refine xo_val rfl rfl ⟨⟩ ?_
  first | refine xo_val rfl (a_load_pp rfl rfl rfl rfl) ⟨⟩ ?_ | refine xo_val rfl (a_load rfl rfl rfl (cell_of (by repeat' first | assumption | exact AH.get_push_new _ _ | exact AH.get_push_at (by first | (simp only [AH.n_push, AH.n_set]; done) | (simp only [AH.n_push, AH.n_set]; rfl)) | refine AH.get_push_old ?_ _ | apply get_same | refine get_other ?_ (by first | assumption | omega | (simp only [AH.n_push, AH.n_set]; omega) | (dsimp only; omega) | (dsimp only; simp only [AH.n_push, AH.n_set]; omega)) | refine Le.get (by assumption) ?_) rfl rfl)) ⟨⟩ ?_
  refine xo_val rfl rfl ⟨⟩ ?_
  first | refine xo_val rfl (a_load_pp rfl rfl rfl rfl) ⟨⟩ ?_ | refine xo_val rfl (a_load rfl rfl rfl (cell_of (by repeat' first | assumption | exact AH.get_push_new _ _ | exact AH.get_push_at (by first | (simp only [AH.n_push, AH.n_set]; done) | (simp only [AH.n_push, AH.n_set]; rfl)) | refine AH.get_push_old ?_ _ | apply get_same | refine get_other ?_ (by first | assumption | omega | (simp only [AH.n_push, AH.n_set]; omega) | (dsimp only; omega) | (dsimp only; simp only [AH.n_push, AH.n_set]; omega)) | refine Le.get (by assumption) ?_) rfl rfl)) ⟨⟩ ?_
  refine xo_val rfl (a_bin rfl rfl (bin_lss _ _ _ _ _)) ⟨⟩ ?_
  refine xo_val rfl rfl ⟨⟩ ?_
  refine xo_nil (t_norm ?_)
  exact w_ret (ret_of rfl (hQ _ (((Le.refl h).push _).push _)))
theorem t93 : elemOfSlice tab 93 = some { ud := UD.slice 60, size := 1, bytes := 24, zero := Value.slice none 0 0, eqok := true } := rfl
theorem clone_ok {h : AH} {rv : Value} {rows : List (List Hit)} {Q : AO → AH → Prop} (A : Acc h 1 rv (rows.map hitsV)) (hne : rows ≠ []) (hroom : rows.length ≤ 1000000000)
    (hQ : ∀ h' B c, Le h h' → h.n ≤ B → h'.get B = some (.row (rows.map hitsV) true 1) → Q (.ret (.slice (some ⟨B, 0, none⟩) rows.length c)) h') :
    C 38 [rv] h Q := by
  refine run_38 rfl ?_
  obtain ⟨B0, c0, rfl, hrow⟩ : ∃ B c, rv = .slice (some ⟨B, 0, none⟩) (rows.map hitsV).length c ∧ h.get B = some (.row (flat (rows.map hitsV)) true 1) := by
    rcases A with ⟨_, ⟨_, e⟩ | ⟨B, c, rfl, hb, _⟩⟩
    · exact absurd (by simpa using e) hne
    · exact ⟨B, c, rfl, hb⟩
  refine w_seq (w_region ?_)
  refine xo_val rfl rfl ⟨⟩ ?_
  refine xo_nil (t_norm ?_)
  refine w_seq ?_
  refine w_seq (w_region ?_)
  refine xo_val rfl rfl ⟨⟩ ?_
  refine xo_val rfl (a_bin rfl rfl (show aBin tab .eql 93 _ _ = some (.bool false) from rfl)) ⟨⟩ ?_
  refine xo_nil (t_norm (w_cond rfl (fun e => by simp at e) fun _ => w_skip (t_norm ?_)))
  refine w_seq (w_region ?_)
  refine xo_val rfl (a_list (l := []) rfl rfl rfl rfl rfl) ⟨⟩ ?_
  refine xo_val rfl rfl ⟨⟩ ?_
  have hle := (Le.refl h).push (.row ([] : List Value) true 1)
  have A0 : Acc (h.push (.row [] true 1)) 1 (.slice (some ⟨h.n, 0, none⟩) 0 1) ([] : List Value) := Acc.new (fun v hv => by cases hv) (AH.get_push_new _ _) (.inr rfl)
  obtain ⟨p, hp, A2, hB, hbl⟩ := acc_append (T := tab) (t := 93) (xt := 93) (x := .slice (some ⟨B0, 0, none⟩) (rows.map hitsV).length c0) A0 t93 rfl (fun _ e => by cases e) rfl ((A.le hle).src rfl) (sz_hits rows) (roomOk_of (by simp; omega) (by simp; omega))
  obtain ⟨pv, h2⟩ := p
  dsimp only at A2 hB hbl
  rw [List.nil_append] at A2
  refine xo_val rfl (a_append rfl rfl rfl rfl rfl hp) ⟨⟩ ?_
  refine xo_val rfl rfl ⟨⟩ ?_
  refine xo_nil (t_norm (w_ret (ret_of rfl ?_)))
  have hfl : flat (rows.map hitsV) = rows.map hitsV := by
    simp only [flat]
    rw [List.flatMap_map]
    exact (List.map_eq_flatMap).symm
  rcases A2 with ⟨_, ⟨_, e⟩ | ⟨B, c, rfl, hb, _⟩⟩
  · exact absurd (by simpa using e) hne
  · rw [hfl] at hb
    rw [List.length_map]
    refine hQ _ _ _ (hB.le hle fun k hk => ?_) ?_ hb
    · simp [rowBlk] at hk; omega
    · rcases hbl B (by simp [rowBlk]) with x | x
      · simp [rowBlk] at x; omega
      · simp at x; omega
/-! ### the row whose first hit goes next -/
def bestTo (rws : List (List Hit)) : Nat → Option (Nat × Hit)
  | 0 => none
  | k + 1 =>
    match rws[k]? with
    | some (x :: _) =>
      match bestTo rws k with
      | none => some (k, x)
      | some (j, y) => if x.id < y.id then some (k, x) else some (j, y)
    | _ => bestTo rws k
def bestI (o : Option (Nat × Hit)) : Int := match o with | none => -1 | some (j, _) => j
theorem bestTo_spec (rws : List (List Hit)) : ∀ (k : Nat) (j : Nat) (y : Hit), bestTo rws k = some (j, y) → j < k ∧ ∃ r, rws[j]? = some (y :: r)
  | 0, j, y, h => by cases h
  | k + 1, j, y, h => by
    simp only [bestTo] at h
    split at h
    · rename_i x r hr
      split at h
      · cases h; exact ⟨by omega, r, hr⟩
      · rename_i j' y' hj
        split at h
        · cases h; exact ⟨by omega, r, hr⟩
        · cases h
          obtain ⟨a, b⟩ := bestTo_spec rws k _ _ hj
          exact ⟨by omega, b⟩
    · obtain ⟨a, b⟩ := bestTo_spec rws k _ _ h
      exact ⟨by omega, b⟩
def lessV : Value := .func (.func 34) #[] #[]
theorem best_ok {h : AH} {B c : Nat} {rws : List (List Hit)} {Q : AO → AH → Prop} (hb : h.get B = some (.row (rws.map hitsV) true 1)) (hlen : rws.length ≤ 1000000000)
    (hQ : ∀ h', Le h h' → Q (.ret (.int .i64 (bestI (bestTo rws rws.length)))) h') : C 39 [.agg #[.slice (some ⟨B, 0, none⟩) rws.length c, lessV]] h Q := by
  refine run_39 rfl ?_
  refine w_seq (w_region ?_)
  refine xo_val rfl (a_box rfl rfl) ⟨⟩ ?_
  refine xo_val rfl rfl ⟨⟩ ?_
  refine xo_nil (t_norm ?_)
  refine w_seq (w_region ?_)
  refine xo_val rfl rfl ⟨⟩ ?_
  refine xo_nil (t_norm ?_)
  refine w_seq ?_
  refine w_seq (w_region ?_)
  refine xo_val rfl rfl ⟨⟩ ?_
  first | refine xo_val rfl (a_load_pp rfl rfl rfl rfl) ⟨⟩ ?_ | refine xo_val rfl (a_load rfl rfl rfl (cell_of (by repeat' first | assumption | exact AH.get_push_new _ _ | exact AH.get_push_at (by first | (simp only [AH.n_push, AH.n_set]; done) | (simp only [AH.n_push, AH.n_set]; rfl)) | refine AH.get_push_old ?_ _ | apply get_same | refine get_other ?_ (by first | assumption | omega | (simp only [AH.n_push, AH.n_set]; omega) | (dsimp only; omega) | (dsimp only; simp only [AH.n_push, AH.n_set]; omega)) | refine Le.get (by assumption) ?_) rfl rfl)) ⟨⟩ ?_
  first | refine xo_val rfl (a_len_ps rfl rfl rfl rfl rfl rfl) ⟨⟩ ?_ | refine xo_val rfl rfl ⟨⟩ ?_
  refine xo_val rfl rfl ⟨⟩ ?_
  refine xo_nil (t_norm ?_)
  have hle0 := (Le.refl h).push (.row (Value.agg #[.slice (some ⟨B, 0, none⟩) rws.length c, lessV]).cells.toList true 0)
  have hg0 := AH.get_push_new h (.row (Value.agg #[.slice (some ⟨B, 0, none⟩) rws.length c, lessV]).cells.toList true 0)
  refine w_block (w_loop (fun n fr h' => ∃ k : Nat, n + k = rws.length ∧ Le (h.push (.row (Value.agg #[.slice (some ⟨B, 0, none⟩) rws.length c, lessV]).cells.toList true 0)) h' ∧ fr 1 = .pointer (some ⟨h.n, 0, none⟩) ∧ fr 3 = .int .i64 (bestI (bestTo rws k)) ∧ fr 7 = .slice (some ⟨B, 0, none⟩) rws.length c ∧ fr 8 = .int .i64 rws.length ∧ fr 9 = .int .i64 k) rws.length ?_ ?_)
  · exact ⟨0, rfl, Le.refl _, rfl, rfl, rfl, rfl, rfl⟩
  rintro n fr h1 ⟨k, hn, hle, e1, e3, e7, e8, e9⟩
  rw [← fr_fix e1, ← fr_fix e3, ← fr_fix e7, ← fr_fix e8, ← fr_fix e9]
  have hb1 := hle.get (hle0.get hb)
  have hg1 := hle.get hg0
  refine w_seq (w_region ?_)
  refine xo_val rfl (a_bin rfl rfl (bin_lss _ _ _ _ _)) ⟨⟩ ?_
  refine xo_nil (t_norm ?_)
  refine w_seq (w_cond rfl (fun hlt => w_skip (t_norm ?_)) (fun hge => w_exit (t_exit ?_)))
  · have hlt : (k : Int) < rws.length := of_decide_eq_true hlt
    obtain ⟨r, hr⟩ : ∃ r, rws[k]? = some r := ⟨_, List.getElem?_eq_getElem (by omega)⟩
    have hrc : (rws.map hitsV)[((k : Nat) : Int).toNat]? = some (hitsV r) := map_at_int hr
    have e5 := bestTo_spec rws k
    refine w_seq (w_block ?_)
    refine w_seq (w_region ?_)
    refine xo_val rfl rfl ⟨⟩ ?_
    refine xo_val rfl (a_ixs rfl rfl rfl rfl rfl (by omega)) ⟨⟩ ?_
    refine xo_val rfl (a_load (v := hitsV r) rfl rfl rfl (cell_at (n := ((k : Nat) : Int).toNat * 1) hb1 rfl (by rw [Nat.zero_add, Nat.mul_one]; exact hrc))) ⟨⟩ ?_
    refine xo_val rfl rfl ⟨⟩ ?_
    refine xo_val rfl rfl ⟨⟩ ?_
    refine xo_nil (t_norm ?_)
    refine w_seq (w_region ?_)
    cases r with
    | nil =>
      refine xo_val rfl rfl ⟨⟩ ?_
      first | refine xo_val rfl (a_len_ps rfl rfl rfl rfl rfl rfl) ⟨⟩ ?_ | refine xo_val rfl rfl ⟨⟩ ?_
      refine xo_val rfl (a_bin rfl rfl (bin_gtr _ _ _ _ _)) ⟨⟩ ?_
      refine xo_val rfl rfl ⟨⟩ ?_
      first | refine xo_skip (want_no rfl (by first | rfl | assumption)) ?_ | refine xo_skip rfl ?_ | refine xo_val (want_if rfl (by first | rfl | assumption)) rfl ⟨⟩ ?_
      first | refine xo_skip (want_no rfl (by first | rfl | assumption)) ?_ | refine xo_skip rfl ?_ | refine xo_val (want_if rfl (by first | rfl | assumption)) (a_bin rfl rfl (bin_lss _ _ _ _ _)) ⟨⟩ ?_
      first | refine xo_skip (want_no rfl (by first | rfl | assumption)) ?_ | refine xo_skip rfl ?_ | refine xo_val (want_if rfl (by first | rfl | assumption)) rfl ⟨⟩ ?_
      first | refine xo_skip (want_no rfl (by first | rfl | assumption)) ?_ | refine xo_skip rfl ?_ | refine xo_val (want_if rfl (by first | rfl | assumption)) rfl ⟨⟩ ?_
      first | refine xo_skip (want_no rfl (by first | rfl | assumption)) ?_ | refine xo_skip rfl ?_ | refine xo_val (want_if rfl (by first | rfl | assumption)) (a_load_pp rfl rfl rfl rfl) ⟨⟩ ?_ | refine xo_val (want_if rfl (by first | rfl | assumption)) (a_load rfl rfl rfl (cell_of (by repeat' first | assumption | exact AH.get_push_new _ _ | exact AH.get_push_at (by first | (simp only [AH.n_push, AH.n_set]; done) | (simp only [AH.n_push, AH.n_set]; rfl)) | refine AH.get_push_old ?_ _ | apply get_same | refine get_other ?_ (by first | assumption | omega | (simp only [AH.n_push, AH.n_set]; omega) | (dsimp only; omega) | (dsimp only; simp only [AH.n_push, AH.n_set]; omega)) | refine Le.get (by assumption) ?_) rfl rfl)) ⟨⟩ ?_
      first | refine xo_skip (want_no rfl (by first | rfl | assumption)) ?_ | refine xo_skip rfl ?_ | refine xo_val (want_if rfl (by first | rfl | assumption)) rfl ⟨⟩ ?_
      first | refine xo_skip (want_no rfl (by first | rfl | assumption)) ?_ | refine xo_skip rfl ?_ | refine xo_val (want_if rfl (by first | rfl | assumption)) (a_ix_ps rfl rfl rfl rfl rfl rfl (by omega) (by assumption)) ⟨⟩ ?_ | refine xo_val (want_if rfl (by first | rfl | assumption)) (a_ixs rfl rfl rfl rfl rfl (by omega)) ⟨⟩ ?_ | refine xo_val (want_if rfl (by first | rfl | assumption)) (a_ixa rfl rfl rfl rfl rfl (by omega)) ⟨⟩ ?_
      first | refine xo_skip (want_no rfl (by first | rfl | assumption)) ?_ | refine xo_skip rfl ?_ | refine xo_val (want_if rfl (by first | rfl | assumption)) (a_loads_pp rfl rfl rfl rfl) ⟨⟩ ?_ | refine xo_val (want_if rfl (by first | rfl | assumption)) (a_loads rfl rfl rfl (cells_of (by repeat' first | assumption | exact AH.get_push_new _ _ | exact AH.get_push_at (by first | (simp only [AH.n_push, AH.n_set]; done) | (simp only [AH.n_push, AH.n_set]; rfl)) | refine AH.get_push_old ?_ _ | apply get_same | refine get_other ?_ (by first | assumption | omega | (simp only [AH.n_push, AH.n_set]; omega) | (dsimp only; omega) | (dsimp only; simp only [AH.n_push, AH.n_set]; omega)) | refine Le.get (by assumption) ?_) rfl rfl rfl)) ⟨⟩ ?_
      first | refine xo_skip (want_no rfl (by first | rfl | assumption)) ?_ | refine xo_skip rfl ?_ | refine xo_val (want_if rfl (by first | rfl | assumption)) rfl ⟨⟩ ?_
      first | refine xo_skip (want_no rfl (by first | rfl | assumption)) ?_ | refine xo_skip rfl ?_ | refine xo_val (want_if rfl (by first | rfl | assumption)) (a_load_pp rfl rfl rfl rfl) ⟨⟩ ?_ | refine xo_val (want_if rfl (by first | rfl | assumption)) (a_load rfl rfl rfl (cell_of (by repeat' first | assumption | exact AH.get_push_new _ _ | exact AH.get_push_at (by first | (simp only [AH.n_push, AH.n_set]; done) | (simp only [AH.n_push, AH.n_set]; rfl)) | refine AH.get_push_old ?_ _ | apply get_same | refine get_other ?_ (by first | assumption | omega | (simp only [AH.n_push, AH.n_set]; omega) | (dsimp only; omega) | (dsimp only; simp only [AH.n_push, AH.n_set]; omega)) | refine Le.get (by assumption) ?_) rfl rfl)) ⟨⟩ ?_
      first | refine xo_skip (want_no rfl (by first | rfl | assumption)) ?_ | refine xo_skip rfl ?_ | refine xo_val (want_if rfl (by first | rfl | assumption)) rfl ⟨⟩ ?_
      first | refine xo_skip (want_no rfl (by first | rfl | assumption)) ?_ | refine xo_skip rfl ?_ | refine xo_val (want_if rfl (by first | rfl | assumption)) (a_ix_ps rfl rfl rfl rfl rfl rfl (by omega) (by assumption)) ⟨⟩ ?_ | refine xo_val (want_if rfl (by first | rfl | assumption)) (a_ixs rfl rfl rfl rfl rfl (by omega)) ⟨⟩ ?_ | refine xo_val (want_if rfl (by first | rfl | assumption)) (a_ixa rfl rfl rfl rfl rfl (by omega)) ⟨⟩ ?_
      first | refine xo_skip (want_no rfl (by first | rfl | assumption)) ?_ | refine xo_skip rfl ?_ | refine xo_val (want_if rfl (by first | rfl | assumption)) (a_load_pp rfl rfl rfl rfl) ⟨⟩ ?_ | refine xo_val (want_if rfl (by first | rfl | assumption)) (a_load rfl rfl rfl (cell_of (by repeat' first | assumption | exact AH.get_push_new _ _ | exact AH.get_push_at (by first | (simp only [AH.n_push, AH.n_set]; done) | (simp only [AH.n_push, AH.n_set]; rfl)) | refine AH.get_push_old ?_ _ | apply get_same | refine get_other ?_ (by first | assumption | omega | (simp only [AH.n_push, AH.n_set]; omega) | (dsimp only; omega) | (dsimp only; simp only [AH.n_push, AH.n_set]; omega)) | refine Le.get (by assumption) ?_) rfl rfl)) ⟨⟩ ?_
      first | refine xo_skip (want_no rfl (by first | rfl | assumption)) ?_ | refine xo_skip rfl ?_ | refine xo_val (want_if rfl (by first | rfl | assumption)) (a_ix_ps rfl rfl rfl rfl rfl rfl (by omega) (by assumption)) ⟨⟩ ?_ | refine xo_val (want_if rfl (by first | rfl | assumption)) (a_ixs rfl rfl rfl rfl rfl (by omega)) ⟨⟩ ?_ | refine xo_val (want_if rfl (by first | rfl | assumption)) (a_ixa rfl rfl rfl rfl rfl (by omega)) ⟨⟩ ?_
      first | refine xo_skip (want_no rfl (by first | rfl | assumption)) ?_ | refine xo_skip rfl ?_ | refine xo_val (want_if rfl (by first | rfl | assumption)) (a_loads_pp rfl rfl rfl rfl) ⟨⟩ ?_ | refine xo_val (want_if rfl (by first | rfl | assumption)) (a_loads rfl rfl rfl (cells_of (by repeat' first | assumption | exact AH.get_push_new _ _ | exact AH.get_push_at (by first | (simp only [AH.n_push, AH.n_set]; done) | (simp only [AH.n_push, AH.n_set]; rfl)) | refine AH.get_push_old ?_ _ | apply get_same | refine get_other ?_ (by first | assumption | omega | (simp only [AH.n_push, AH.n_set]; omega) | (dsimp only; omega) | (dsimp only; simp only [AH.n_push, AH.n_set]; omega)) | refine Le.get (by assumption) ?_) rfl rfl rfl)) ⟨⟩ ?_
      first | refine xo_skip (want_no rfl (by first | rfl | assumption)) ?_ | refine xo_skip rfl ?_ | refine xo_val (want_if rfl (by first | rfl | assumption)) rfl ⟨⟩ ?_
      first | refine xo_skip (want_no rfl (by first | rfl | assumption)) ?_ | refine xo_skip rfl ?_ | refine xo_val (want_if rfl (by first | rfl | assumption)) (a_pick_t rfl (by first | rfl | assumption) rfl) ⟨⟩ ?_ | refine xo_val (want_if rfl (by first | rfl | assumption)) (a_pick_f rfl (by first | rfl | assumption) rfl) ⟨⟩ ?_
      first | refine xo_val rfl (a_pick_t rfl (by first | rfl | assumption) rfl) ⟨⟩ ?_ | refine xo_val rfl (a_pick_f rfl (by first | rfl | assumption) rfl) ⟨⟩ ?_
      refine xo_nil (t_norm (w_cond rfl (fun e => by simp at e) fun _ => w_skip (b_norm (t_norm ?_))))
      refine w_region ?_
      refine xo_val rfl (a_bin rfl rfl (bin_add64 _ _ _ _ (by omega))) ⟨⟩ ?_
      refine xo_val rfl rfl ⟨⟩ ?_
      refine xo_nil ?_
      have : bestTo rws (k + 1) = bestTo rws k := by simp only [bestTo, hr]
      exact ⟨n - 1, by omega, k + 1, by omega, hle, rfl, by rw [this]; rfl, rfl, rfl, rfl⟩
    | cons x r =>
      have hdx : ((x :: r).map hitV)[((0 : Int)).toNat]? = some (hitV x) := rfl
      have hd0 : decide ((((x :: r).map hitV).length : Int) > 0) = true := by simp
      refine xo_val rfl rfl ⟨⟩ ?_
      first | refine xo_val rfl (a_len_ps rfl rfl rfl rfl rfl rfl) ⟨⟩ ?_ | refine xo_val rfl rfl ⟨⟩ ?_
      refine xo_val rfl (a_bin rfl rfl (bin_gtr _ _ _ _ _)) ⟨⟩ ?_
      refine xo_val rfl rfl ⟨⟩ ?_
      first | refine xo_skip (want_no rfl (by first | rfl | assumption)) ?_ | refine xo_skip rfl ?_ | refine xo_val (want_if rfl (by first | rfl | assumption)) rfl ⟨⟩ ?_
      cases hbt : bestTo rws k with
      | none =>
        first | refine xo_skip (want_no rfl (by first | rfl | assumption)) ?_ | refine xo_skip rfl ?_ | refine xo_val (want_if rfl (by first | rfl | assumption)) (a_bin rfl rfl (bin_lss _ _ _ _ _)) ⟨⟩ ?_
        first | refine xo_skip (want_no rfl (by first | rfl | assumption)) ?_ | refine xo_skip rfl ?_ | refine xo_val (want_if rfl (by first | rfl | assumption)) rfl ⟨⟩ ?_
        first | refine xo_skip (want_no rfl (by first | rfl | assumption)) ?_ | refine xo_skip rfl ?_ | refine xo_val (want_if rfl (by first | rfl | assumption)) rfl ⟨⟩ ?_
        first | refine xo_skip (want_no rfl (by first | rfl | assumption)) ?_ | refine xo_skip rfl ?_ | refine xo_val (want_if rfl (by first | rfl | assumption)) (a_load_pp rfl rfl rfl rfl) ⟨⟩ ?_ | refine xo_val (want_if rfl (by first | rfl | assumption)) (a_load rfl rfl rfl (cell_of (by repeat' first | assumption | exact AH.get_push_new _ _ | exact AH.get_push_at (by first | (simp only [AH.n_push, AH.n_set]; done) | (simp only [AH.n_push, AH.n_set]; rfl)) | refine AH.get_push_old ?_ _ | apply get_same | refine get_other ?_ (by first | assumption | omega | (simp only [AH.n_push, AH.n_set]; omega) | (dsimp only; omega) | (dsimp only; simp only [AH.n_push, AH.n_set]; omega)) | refine Le.get (by assumption) ?_) rfl rfl)) ⟨⟩ ?_
        first | refine xo_skip (want_no rfl (by first | rfl | assumption)) ?_ | refine xo_skip rfl ?_ | refine xo_val (want_if rfl (by first | rfl | assumption)) rfl ⟨⟩ ?_
        first | refine xo_skip (want_no rfl (by first | rfl | assumption)) ?_ | refine xo_skip rfl ?_ | refine xo_val (want_if rfl (by first | rfl | assumption)) (a_ix_ps rfl rfl rfl rfl rfl rfl (by omega) (by assumption)) ⟨⟩ ?_ | refine xo_val (want_if rfl (by first | rfl | assumption)) (a_ixs rfl rfl rfl rfl rfl (by omega)) ⟨⟩ ?_ | refine xo_val (want_if rfl (by first | rfl | assumption)) (a_ixa rfl rfl rfl rfl rfl (by omega)) ⟨⟩ ?_
        first | refine xo_skip (want_no rfl (by first | rfl | assumption)) ?_ | refine xo_skip rfl ?_ | refine xo_val (want_if rfl (by first | rfl | assumption)) (a_loads_pp rfl rfl rfl rfl) ⟨⟩ ?_ | refine xo_val (want_if rfl (by first | rfl | assumption)) (a_loads rfl rfl rfl (cells_of (by repeat' first | assumption | exact AH.get_push_new _ _ | exact AH.get_push_at (by first | (simp only [AH.n_push, AH.n_set]; done) | (simp only [AH.n_push, AH.n_set]; rfl)) | refine AH.get_push_old ?_ _ | apply get_same | refine get_other ?_ (by first | assumption | omega | (simp only [AH.n_push, AH.n_set]; omega) | (dsimp only; omega) | (dsimp only; simp only [AH.n_push, AH.n_set]; omega)) | refine Le.get (by assumption) ?_) rfl rfl rfl)) ⟨⟩ ?_
        first | refine xo_skip (want_no rfl (by first | rfl | assumption)) ?_ | refine xo_skip rfl ?_ | refine xo_val (want_if rfl (by first | rfl | assumption)) rfl ⟨⟩ ?_
        first | refine xo_skip (want_no rfl (by first | rfl | assumption)) ?_ | refine xo_skip rfl ?_ | refine xo_val (want_if rfl (by first | rfl | assumption)) (a_load_pp rfl rfl rfl rfl) ⟨⟩ ?_ | refine xo_val (want_if rfl (by first | rfl | assumption)) (a_load rfl rfl rfl (cell_of (by repeat' first | assumption | exact AH.get_push_new _ _ | exact AH.get_push_at (by first | (simp only [AH.n_push, AH.n_set]; done) | (simp only [AH.n_push, AH.n_set]; rfl)) | refine AH.get_push_old ?_ _ | apply get_same | refine get_other ?_ (by first | assumption | omega | (simp only [AH.n_push, AH.n_set]; omega) | (dsimp only; omega) | (dsimp only; simp only [AH.n_push, AH.n_set]; omega)) | refine Le.get (by assumption) ?_) rfl rfl)) ⟨⟩ ?_
        first | refine xo_skip (want_no rfl (by first | rfl | assumption)) ?_ | refine xo_skip rfl ?_ | refine xo_val (want_if rfl (by first | rfl | assumption)) rfl ⟨⟩ ?_
        first | refine xo_skip (want_no rfl (by first | rfl | assumption)) ?_ | refine xo_skip rfl ?_ | refine xo_val (want_if rfl (by first | rfl | assumption)) (a_ix_ps rfl rfl rfl rfl rfl rfl (by omega) (by assumption)) ⟨⟩ ?_ | refine xo_val (want_if rfl (by first | rfl | assumption)) (a_ixs rfl rfl rfl rfl rfl (by omega)) ⟨⟩ ?_ | refine xo_val (want_if rfl (by first | rfl | assumption)) (a_ixa rfl rfl rfl rfl rfl (by omega)) ⟨⟩ ?_
        first | refine xo_skip (want_no rfl (by first | rfl | assumption)) ?_ | refine xo_skip rfl ?_ | refine xo_val (want_if rfl (by first | rfl | assumption)) (a_load_pp rfl rfl rfl rfl) ⟨⟩ ?_ | refine xo_val (want_if rfl (by first | rfl | assumption)) (a_load rfl rfl rfl (cell_of (by repeat' first | assumption | exact AH.get_push_new _ _ | exact AH.get_push_at (by first | (simp only [AH.n_push, AH.n_set]; done) | (simp only [AH.n_push, AH.n_set]; rfl)) | refine AH.get_push_old ?_ _ | apply get_same | refine get_other ?_ (by first | assumption | omega | (simp only [AH.n_push, AH.n_set]; omega) | (dsimp only; omega) | (dsimp only; simp only [AH.n_push, AH.n_set]; omega)) | refine Le.get (by assumption) ?_) rfl rfl)) ⟨⟩ ?_
        first | refine xo_skip (want_no rfl (by first | rfl | assumption)) ?_ | refine xo_skip rfl ?_ | refine xo_val (want_if rfl (by first | rfl | assumption)) (a_ix_ps rfl rfl rfl rfl rfl rfl (by omega) (by assumption)) ⟨⟩ ?_ | refine xo_val (want_if rfl (by first | rfl | assumption)) (a_ixs rfl rfl rfl rfl rfl (by omega)) ⟨⟩ ?_ | refine xo_val (want_if rfl (by first | rfl | assumption)) (a_ixa rfl rfl rfl rfl rfl (by omega)) ⟨⟩ ?_
        first | refine xo_skip (want_no rfl (by first | rfl | assumption)) ?_ | refine xo_skip rfl ?_ | refine xo_val (want_if rfl (by first | rfl | assumption)) (a_loads_pp rfl rfl rfl rfl) ⟨⟩ ?_ | refine xo_val (want_if rfl (by first | rfl | assumption)) (a_loads rfl rfl rfl (cells_of (by repeat' first | assumption | exact AH.get_push_new _ _ | exact AH.get_push_at (by first | (simp only [AH.n_push, AH.n_set]; done) | (simp only [AH.n_push, AH.n_set]; rfl)) | refine AH.get_push_old ?_ _ | apply get_same | refine get_other ?_ (by first | assumption | omega | (simp only [AH.n_push, AH.n_set]; omega) | (dsimp only; omega) | (dsimp only; simp only [AH.n_push, AH.n_set]; omega)) | refine Le.get (by assumption) ?_) rfl rfl rfl)) ⟨⟩ ?_
        first | refine xo_skip (want_no rfl (by first | rfl | assumption)) ?_ | refine xo_skip rfl ?_ | refine xo_val (want_if rfl (by first | rfl | assumption)) rfl ⟨⟩ ?_
        first | refine xo_skip (want_no rfl (by first | rfl | assumption)) ?_ | refine xo_skip rfl ?_ | refine xo_val (want_if rfl (by first | rfl | assumption)) (a_pick_t rfl (by first | rfl | assumption) rfl) ⟨⟩ ?_ | refine xo_val (want_if rfl (by first | rfl | assumption)) (a_pick_f rfl (by first | rfl | assumption) rfl) ⟨⟩ ?_
        first | refine xo_val rfl (a_pick_t rfl (by first | rfl | assumption) rfl) ⟨⟩ ?_ | refine xo_val rfl (a_pick_f rfl (by first | rfl | assumption) rfl) ⟨⟩ ?_
        refine xo_nil (t_norm (w_cond rfl (fun _ => ?_) (fun e => by cases e)))
        refine w_region ?_
        refine xo_val rfl rfl ⟨⟩ ?_
        refine xo_val rfl rfl ⟨⟩ ?_
        refine xo_nil (b_norm (t_norm ?_))
        refine w_region ?_
        refine xo_val rfl (a_bin rfl rfl (bin_add64 _ _ _ _ (by omega))) ⟨⟩ ?_
        refine xo_val rfl rfl ⟨⟩ ?_
        refine xo_nil ?_
        have : bestTo rws (k + 1) = some (k, x) := by simp only [bestTo, hr, hbt]
        exact ⟨n - 1, by omega, k + 1, by omega, hle, rfl, by rw [this]; rfl, rfl, rfl, rfl⟩
      | some jy =>
        obtain ⟨j, y⟩ := jy
        obtain ⟨hjk, r', hj⟩ := e5 j y hbt
        have hjc : (rws.map hitsV)[((j : Nat) : Int).toNat]? = some (hitsV (y :: r')) := map_at_int hj
        have hdy : ((y :: r').map hitV)[((0 : Int)).toNat]? = some (hitV y) := rfl
        have hj0 : decide (((j : Nat) : Int) < 0) = false := by simp
        first | refine xo_skip (want_no rfl (by first | rfl | assumption)) ?_ | refine xo_skip rfl ?_ | refine xo_val (want_if rfl (by first | rfl | assumption)) (a_bin rfl rfl (bin_lss _ _ _ _ _)) ⟨⟩ ?_
        first | refine xo_skip (want_no rfl (by first | rfl | assumption)) ?_ | refine xo_skip rfl ?_ | refine xo_val (want_if rfl (by first | rfl | assumption)) rfl ⟨⟩ ?_
        first | refine xo_skip (want_no rfl (by first | rfl | assumption)) ?_ | refine xo_skip rfl ?_ | refine xo_val (want_if rfl (by first | rfl | assumption)) rfl ⟨⟩ ?_
        first | refine xo_skip (want_no rfl (by first | rfl | assumption)) ?_ | refine xo_skip rfl ?_ | refine xo_val (want_if rfl (by first | rfl | assumption)) (a_load_pp rfl rfl rfl rfl) ⟨⟩ ?_ | refine xo_val (want_if rfl (by first | rfl | assumption)) (a_load rfl rfl rfl (cell_of (by repeat' first | assumption | exact AH.get_push_new _ _ | exact AH.get_push_at (by first | (simp only [AH.n_push, AH.n_set]; done) | (simp only [AH.n_push, AH.n_set]; rfl)) | refine AH.get_push_old ?_ _ | apply get_same | refine get_other ?_ (by first | assumption | omega | (simp only [AH.n_push, AH.n_set]; omega) | (dsimp only; omega) | (dsimp only; simp only [AH.n_push, AH.n_set]; omega)) | refine Le.get (by assumption) ?_) rfl rfl)) ⟨⟩ ?_
        first | refine xo_skip (want_no rfl (by first | rfl | assumption)) ?_ | refine xo_skip rfl ?_ | refine xo_val (want_if rfl (by first | rfl | assumption)) rfl ⟨⟩ ?_
        first | refine xo_skip (want_no rfl (by first | rfl | assumption)) ?_ | refine xo_skip rfl ?_ | refine xo_val (want_if rfl (by first | rfl | assumption)) (a_ix_ps rfl rfl rfl rfl rfl rfl (by omega) (by assumption)) ⟨⟩ ?_ | refine xo_val (want_if rfl (by first | rfl | assumption)) (a_ixs rfl rfl rfl rfl rfl (by omega)) ⟨⟩ ?_ | refine xo_val (want_if rfl (by first | rfl | assumption)) (a_ixa rfl rfl rfl rfl rfl (by omega)) ⟨⟩ ?_
        first | refine xo_skip (want_no rfl (by first | rfl | assumption)) ?_ | refine xo_skip rfl ?_ | refine xo_val (want_if rfl (by first | rfl | assumption)) (a_loads_pp rfl rfl rfl rfl) ⟨⟩ ?_ | refine xo_val (want_if rfl (by first | rfl | assumption)) (a_loads rfl rfl rfl (cells_of (by repeat' first | assumption | exact AH.get_push_new _ _ | exact AH.get_push_at (by first | (simp only [AH.n_push, AH.n_set]; done) | (simp only [AH.n_push, AH.n_set]; rfl)) | refine AH.get_push_old ?_ _ | apply get_same | refine get_other ?_ (by first | assumption | omega | (simp only [AH.n_push, AH.n_set]; omega) | (dsimp only; omega) | (dsimp only; simp only [AH.n_push, AH.n_set]; omega)) | refine Le.get (by assumption) ?_) rfl rfl rfl)) ⟨⟩ ?_
        first | refine xo_skip (want_no rfl (by first | rfl | assumption)) ?_ | refine xo_skip rfl ?_ | refine xo_val (want_if rfl (by first | rfl | assumption)) rfl ⟨⟩ ?_
        first | refine xo_skip (want_no rfl (by first | rfl | assumption)) ?_ | refine xo_skip rfl ?_ | refine xo_val (want_if rfl (by first | rfl | assumption)) (a_load_pp rfl rfl rfl rfl) ⟨⟩ ?_ | refine xo_val (want_if rfl (by first | rfl | assumption)) (a_load rfl rfl rfl (cell_of (by repeat' first | assumption | exact AH.get_push_new _ _ | exact AH.get_push_at (by first | (simp only [AH.n_push, AH.n_set]; done) | (simp only [AH.n_push, AH.n_set]; rfl)) | refine AH.get_push_old ?_ _ | apply get_same | refine get_other ?_ (by first | assumption | omega | (simp only [AH.n_push, AH.n_set]; omega) | (dsimp only; omega) | (dsimp only; simp only [AH.n_push, AH.n_set]; omega)) | refine Le.get (by assumption) ?_) rfl rfl)) ⟨⟩ ?_
        first | refine xo_skip (want_no rfl (by first | rfl | assumption)) ?_ | refine xo_skip rfl ?_ | refine xo_val (want_if rfl (by first | rfl | assumption)) rfl ⟨⟩ ?_
        refine xo_val (want_if rfl (by first | rfl | assumption)) (a_ixs rfl rfl rfl rfl rfl (by show (0 : Int) ≤ ((j : Nat) : Int) ∧ ((j : Nat) : Int) < (rws.length : Int); omega)) ⟨⟩ ?_
        refine xo_val (want_if rfl (by first | rfl | assumption)) (a_load (v := hitsV (y :: r')) rfl rfl rfl (cell_at (n := ((j : Nat) : Int).toNat * 1) hb1 rfl (by rw [Nat.zero_add, Nat.mul_one]; exact hjc))) ⟨⟩ ?_
        first | refine xo_skip (want_no rfl (by first | rfl | assumption)) ?_ | refine xo_skip rfl ?_ | refine xo_val (want_if rfl (by first | rfl | assumption)) (a_ix_ps rfl rfl rfl rfl rfl rfl (by omega) (by assumption)) ⟨⟩ ?_ | refine xo_val (want_if rfl (by first | rfl | assumption)) (a_ixs rfl rfl rfl rfl rfl (by omega)) ⟨⟩ ?_ | refine xo_val (want_if rfl (by first | rfl | assumption)) (a_ixa rfl rfl rfl rfl rfl (by omega)) ⟨⟩ ?_
        first | refine xo_skip (want_no rfl (by first | rfl | assumption)) ?_ | refine xo_skip rfl ?_ | refine xo_val (want_if rfl (by first | rfl | assumption)) (a_loads_pp rfl rfl rfl rfl) ⟨⟩ ?_ | refine xo_val (want_if rfl (by first | rfl | assumption)) (a_loads rfl rfl rfl (cells_of (by repeat' first | assumption | exact AH.get_push_new _ _ | exact AH.get_push_at (by first | (simp only [AH.n_push, AH.n_set]; done) | (simp only [AH.n_push, AH.n_set]; rfl)) | refine AH.get_push_old ?_ _ | apply get_same | refine get_other ?_ (by first | assumption | omega | (simp only [AH.n_push, AH.n_set]; omega) | (dsimp only; omega) | (dsimp only; simp only [AH.n_push, AH.n_set]; omega)) | refine Le.get (by assumption) ?_) rfl rfl rfl)) ⟨⟩ ?_
        refine xo_call (want_if rfl (by first | rfl | assumption)) rfl (xo_pure (less_ok x y) fun h2 hl2 => ⟨⟨⟩, ?_⟩)
        by_cases hxy : x.id < y.id
        · have hd : decide (x.id < y.id) = true := by simpa using hxy
          first | refine xo_skip (want_no rfl (by first | rfl | assumption)) ?_ | refine xo_skip rfl ?_ | refine xo_val (want_if rfl (by first | rfl | assumption)) (a_pick_t rfl (by first | rfl | assumption) rfl) ⟨⟩ ?_ | refine xo_val (want_if rfl (by first | rfl | assumption)) (a_pick_f rfl (by first | rfl | assumption) rfl) ⟨⟩ ?_
          first | refine xo_val rfl (a_pick_t rfl (by first | rfl | assumption) rfl) ⟨⟩ ?_ | refine xo_val rfl (a_pick_f rfl (by first | rfl | assumption) rfl) ⟨⟩ ?_
          refine xo_nil (t_norm (w_cond rfl (fun _ => ?_) (fun e => by rw [hd] at e; cases e)))
          refine w_region ?_
          refine xo_val rfl rfl ⟨⟩ ?_
          refine xo_val rfl rfl ⟨⟩ ?_
          refine xo_nil (b_norm (t_norm ?_))
          refine w_region ?_
          refine xo_val rfl (a_bin rfl rfl (bin_add64 _ _ _ _ (by omega))) ⟨⟩ ?_
          refine xo_val rfl rfl ⟨⟩ ?_
          refine xo_nil ?_
          have : bestTo rws (k + 1) = some (k, x) := by simp only [bestTo, hr, hbt, hxy, if_true]
          exact ⟨n - 1, by omega, k + 1, by omega, hle.trans hl2, rfl, by rw [this]; rfl, rfl, rfl, rfl⟩
        · have hd : decide (x.id < y.id) = false := by simpa using hxy
          first | refine xo_skip (want_no rfl (by first | rfl | assumption)) ?_ | refine xo_skip rfl ?_ | refine xo_val (want_if rfl (by first | rfl | assumption)) (a_pick_t rfl (by first | rfl | assumption) rfl) ⟨⟩ ?_ | refine xo_val (want_if rfl (by first | rfl | assumption)) (a_pick_f rfl (by first | rfl | assumption) rfl) ⟨⟩ ?_
          first | refine xo_val rfl (a_pick_t rfl (by first | rfl | assumption) rfl) ⟨⟩ ?_ | refine xo_val rfl (a_pick_f rfl (by first | rfl | assumption) rfl) ⟨⟩ ?_
          refine xo_nil (t_norm (w_cond rfl (fun e => by rw [hd] at e; cases e) fun _ => w_skip (b_norm (t_norm ?_))))
          refine w_region ?_
          refine xo_val rfl (a_bin rfl rfl (bin_add64 _ _ _ _ (by omega))) ⟨⟩ ?_
          refine xo_val rfl rfl ⟨⟩ ?_
          refine xo_nil ?_
          have : bestTo rws (k + 1) = some (j, y) := by simp only [bestTo, hr, hbt, hxy, if_false]
          exact ⟨n - 1, by omega, k + 1, by omega, hle.trans hl2, rfl, by rw [this]; rfl, rfl, rfl, rfl⟩
  · have hge : ¬ (k : Int) < rws.length := of_decide_eq_false hge
    have hk : k = rws.length := by omega
    subst hk
    refine b_here (id := 0) (t_norm ?_)
    refine w_seq (w_region ?_)
    refine xo_val rfl rfl ⟨⟩ ?_
    refine xo_val rfl rfl ⟨⟩ ?_
    refine xo_nil (t_norm ?_)
    exact w_ret (ret_of rfl (hQ _ (hle0.trans hle)))
end Go.AI.Q
