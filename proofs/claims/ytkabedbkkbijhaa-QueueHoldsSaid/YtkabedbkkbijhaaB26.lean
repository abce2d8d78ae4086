/-
  THE QUEUE'S LAWS: QueueBound. (Own work; steps printed by wip/gen/walk.py.)
-/
import Derived.Test.YtkabedbkkbijhaaB25
namespace Go.AI.Q
open Go Go.AI Go.Proofs
attribute [local irreducible] xOps xw
theorem a_load_add1 {T : Tab} {fr : Fr} {h : AH} {t : TypeId} {ti : TI} {x : Operand} {B n sz : Nat} {rw : Bool} {cs : List Value} {v : Value} (ht : T t = some ti) (hg : ti.ud.agg = false) (e : ev fr x = .pointer (some ((⟨B, 0, none⟩ : Addr).add n))) (hb : h.get B = some (.row cs rw sz)) (hv : cs[n]? = some v) : aOp T fr h (.load t x) = some (.val v h) := by
  rw [add_none, Nat.zero_add] at e
  exact a_load ht hg e (cell_of hb rfl hv)
theorem a_store_add1 {T : Tab} {fr : Fr} {h : AH} {t : TypeId} {ti : TI} {x y : Operand} {B n sz : Nat} {cs : List Value} {u : Value} (ht : T t = some ti) (hsz : (ti.size == 1) = true) (e : ev fr x = .pointer (some ((⟨B, 0, none⟩ : Addr).add n))) (e' : ev fr y = u) (hu : u.cells = #[u] ∧ notTup u = true) (hb : h.get B = some (.row cs true sz)) (hl : n < cs.length) :
    aOp T fr h (.store t x y) = some (.val undef (h.set B (.row (putAt cs n [u]) true sz))) := by
  rw [add_none, Nat.zero_add] at e
  exact a_store1 ht hsz e e' hu hb rfl (by simp; omega)
def actsV (l : List ActM) : Value := PS 6 (l.map actV)
theorem sz_act (l : List ActM) : sized 6 (l.map actV) := sized_map (f := actV) (fun _ => ⟨rfl, rfl⟩) l
theorem hitL_lost (o : Int) (f : Found) (l : LineM) : l.lost = true → (hitL o f l).lost = true := fun h => by unfold hitL; rw [if_pos h]; exact h
theorem hitsL_lost (o : Int) : ∀ (xs : List Hit) (l : LineM), l.lost = true → (hitsL o xs l).lost = true
  | [], l, h => h
  | x :: xs, l, h => hitsL_lost o xs _ (by
    show (mapAt x.id (hitL o x.f) l).lost = true
    unfold mapAt; split
    · exact hitL_lost o x.f l h
    · exact h)
theorem lossesL_lost : ∀ (ids : List Int) (l : LineM), l.lost = true → (lossesL ids l).lost = true
  | [], l, h => h
  | x :: xs, l, h => lossesL_lost xs _ (by
    show (mapAt x lossL l).lost = true
    unfold mapAt; split
    · rfl
    · exact h)
/-- A query that is lost stays so, till it is ended. -/
theorem lost_stays {i : Int} {d : DeskM} {stamp : Int} {c : Cmd} {outs : List Out} (G : Good i d) (hs : i < stamp) {id : Int} (h : lostM d id = true) (hc : ¬ (c.kind = 3 ∧ c.id = id)) : lostM (doM d stamp c outs).d id = true := by
  rw [lost_line] at h ⊢
  rw [do_lines d stamp c outs G.nod]
  cases hl : lineOf d.lines id with
  | none => rw [hl] at h; cases h
  | some l =>
    rw [hl] at h
    have h' : l.lost = true := h
    dsimp only
    split
    · split
      · rw [hl]; exact h'
      · rw [line_app, hl]; exact h'
    split
    · rename_i k3
      rw [line_filter, if_neg (fun e => hc ⟨k3, e.symm⟩), hl]; exact h'
    split
    · rw [line_map _ _ (fun l => by rw [lossesL_id, hitsL_id]), hl]
      exact lossesL_lost _ _ (hitsL_lost _ _ _ h')
    split
    · rw [line_map _ _ (mapAt_id (g := dropL c.n) fun _ => rfl), hl]
      show (mapAt c.id (dropL c.n) l).lost = true
      unfold mapAt; split
      · exact h'
      · exact h'
    · rw [hl]; exact h'
theorem Good.wait {i : Int} {d : DeskM} (G : Good i d) (id : Int) : 0 ≤ waitM d id ∧ waitM d id ≤ d.o := by
  rw [wait_line]
  cases hl : lineOf d.lines id with
  | none => have := G.o; simp; omega
  | some l =>
    have := (G.row l (line_id hl).2).1
    simp; omega
def mixRow (d' d : DeskM) (n : Nat) : List Value := (List.range 41).map fun (k : Nat) => Value.bool (if k < n then lostM d' k else lostM d k)
theorem mix_len (d' d : DeskM) (n : Nat) : (mixRow d' d n).length = 41 := by simp [mixRow]
theorem mix_at {d' d : DeskM} {n : Nat} (h : n < 41) : (mixRow d' d n)[n]? = some (.bool (lostM d n)) := by
  simp [mixRow, h]
theorem mix_set {d' d : DeskM} {n : Nat} (h : n < 41) : (mixRow d' d n).set n (.bool (lostM d' n)) = mixRow d' d (n + 1) := by
  apply List.ext_getElem?
  intro i
  rw [List.getElem?_set]
  by_cases e : n = i
  · subst e
    rw [if_pos rfl, if_pos (by rw [mix_len]; exact h)]
    simp [mixRow, h]
  · rw [if_neg e]
    unfold mixRow
    rw [List.getElem?_map, List.getElem?_map]
    by_cases hi : i < 41
    · rw [List.getElem?_range hi]
      have : (i < n + 1) = (i < n) := by apply propext; omega
      simp only [Option.map_some, this]
    · rw [List.getElem?_eq_none (by simp; omega)]; rfl
theorem mix_all (d'' d' d : DeskM) : mixRow d' d 41 = mixRow d'' d' 0 := by
  unfold mixRow
  refine List.map_congr_left fun k hk => ?_
  have := List.mem_range.1 hk
  rw [if_pos this, if_neg (by omega)]
theorem mix_zero (q o : Int) (d' : DeskM) : mixRow d' ⟨q, o, []⟩ 0 = List.replicate 41 (.bool false) := by rfl
/-- What holds ahead of each act. -/
structure BInv (h0 : AH) (q o : Int) (script : List ActM) (p6 p8 D : Nat) (i : Nat) (fr : Fr) (h : AH) (F : List Nat) : Prop where
  le : Le h0 h
  desk : Dk h D (deskAt q o script i) F
  fp : ∀ b ∈ F, h0.n ≤ b ∧ b ≠ p6 ∧ b ≠ p8
  c6 : h.get p6 = some (.row (configV q o).cells.toList true 0)
  c8 : h.get p8 = some (.row (mixRow (deskAt q o script i) (deskAt q o script i) 0) true 0)
  f1 : fr 1 = actsV script
  f5 : fr 5 = .bool true
  f6 : fr 6 = .pointer (some ⟨p6, 0, none⟩)
  f7 : fr 7 = .pointer (some ⟨D, 0, none⟩)
  f8 : fr 8 = .pointer (some ⟨p8, 0, none⟩)
  f9 : fr 9 = .int .i64 i
theorem bound_in {h8 : AH} {fr : Fr} {Qx : XQ} {D p6 p8 p10 id : Nat} {d d' : DeskM} {F : List Nat} {c : Cmd} {q o : Int} {sv iv : Value} (hid : id < 41) (R : Dk h8 D d' F) (c6 : h8.get p6 = some (.row (configV q o).cells.toList true 0)) (c8 : h8.get p8 = some (.row (mixRow d' d id) true 0)) (c10 : h8.get p10 = some (.row (cmdOf c).cells.toList true 0))
    (hw : waitM d' id ≤ o) (hls : lostM d id = true → ¬ (c.kind = 3 ∧ c.id = id) → lostM d' id = true) (f1 : fr 1 = sv) (f5 : fr 5 = .bool true) (f6 : fr 6 = .pointer (some ⟨p6, 0, none⟩)) (f7 : fr 7 = .pointer (some ⟨D, 0, none⟩)) (f8 : fr 8 = .pointer (some ⟨p8, 0, none⟩)) (f9 : fr 9 = iv) (f10 : fr 10 = .pointer (some ⟨p10, 0, none⟩)) (f12 : fr 12 = .int .i64 id)
    (hQ : ∀ fr', fr' 1 = sv → fr' 5 = .bool true → fr' 6 = .pointer (some ⟨p6, 0, none⟩) → fr' 7 = .pointer (some ⟨D, 0, none⟩) → fr' 8 = .pointer (some ⟨p8, 0, none⟩) → fr' 9 = iv → fr' 10 = .pointer (some ⟨p10, 0, none⟩) → fr' 12 = .int .i64 id → Qx .norm fr' (h8.set p8 (.row (mixRow d' d (id + 1)) true 0))) :
    xw tab C Y ((XC.region x4_13).seq (((XC.region x4_14).seq (XC.cond (Operand.tmp 83) ((XC.region x4_15).seq XC.ret) XC.skip)).seq (XC.region x4_16))) fr h8 Qx := by
  refine w_cut mono_ac (fun fr' h' => h' = h8 ∧ fr' 1 = sv ∧ fr' 5 = .bool true ∧ fr' 6 = .pointer (some ⟨p6, 0, none⟩) ∧ fr' 7 = .pointer (some ⟨D, 0, none⟩) ∧ fr' 8 = .pointer (some ⟨p8, 0, none⟩) ∧ fr' 9 = iv ∧ fr' 10 = .pointer (some ⟨p10, 0, none⟩) ∧ fr' 12 = .int .i64 id ∧ fr' 13 = .bool (decide (c.kind = 3 ∧ c.id = id))) ?_ ?_
  · rw [← fr_fix f1, ← fr_fix f5, ← fr_fix f6, ← fr_fix f7, ← fr_fix f8, ← fr_fix f9, ← fr_fix f10, ← fr_fix f12]
    refine w_region ?_
    by_cases k3 : c.kind = 3
    · have e3 : (c.kind == 3) = true := by simpa using k3
      refine xo_val rfl rfl ⟨⟩ ?_
      first | refine xo_val rfl (a_load_pp rfl rfl rfl rfl) ⟨⟩ ?_ | refine xo_val rfl (a_load rfl rfl rfl (cell_of (by repeat' first | assumption | exact AH.get_push_new _ _ | exact AH.get_push_at (by first | (simp only [AH.n_push, AH.n_set]; done) | (simp only [AH.n_push, AH.n_set]; rfl)) | refine AH.get_push_old ?_ _ | apply get_same | refine get_other ?_ (by first | assumption | omega | (simp only [AH.n_push, AH.n_set]; omega) | (dsimp only; omega) | (dsimp only; simp only [AH.n_push, AH.n_set]; omega)) | refine Le.get (by assumption) ?_) rfl rfl)) ⟨⟩ ?_
      first | refine xo_val rfl (a_bin rfl rfl (bin_eql _ _ _ _ _)) ⟨⟩ ?_ | refine xo_val rfl rfl ⟨⟩ ?_
      refine xo_val rfl rfl ⟨⟩ ?_
      first | refine xo_skip (want_no rfl (by first | rfl | assumption)) ?_ | refine xo_skip rfl ?_ | refine xo_val (want_if rfl (by first | rfl | assumption)) rfl ⟨⟩ ?_
      first | refine xo_skip (want_no rfl (by first | rfl | assumption)) ?_ | refine xo_skip rfl ?_ | refine xo_val (want_if rfl (by first | rfl | assumption)) (a_load_pp rfl rfl rfl rfl) ⟨⟩ ?_ | refine xo_val (want_if rfl (by first | rfl | assumption)) (a_load rfl rfl rfl (cell_of (by repeat' first | assumption | exact AH.get_push_new _ _ | exact AH.get_push_at (by first | (simp only [AH.n_push, AH.n_set]; done) | (simp only [AH.n_push, AH.n_set]; rfl)) | refine AH.get_push_old ?_ _ | apply get_same | refine get_other ?_ (by first | assumption | omega | (simp only [AH.n_push, AH.n_set]; omega) | (dsimp only; omega) | (dsimp only; simp only [AH.n_push, AH.n_set]; omega)) | refine Le.get (by assumption) ?_) rfl rfl)) ⟨⟩ ?_
      first | refine xo_skip (want_no rfl (by first | rfl | assumption)) ?_ | refine xo_skip rfl ?_ | refine xo_val (want_if rfl (by first | rfl | assumption)) rfl ⟨⟩ ?_
      first | refine xo_skip (want_no rfl (by first | rfl | assumption)) ?_ | refine xo_skip rfl ?_ | refine xo_val (want_if rfl (by first | rfl | assumption)) (a_bin rfl rfl (bin_eql _ _ _ _ _)) ⟨⟩ ?_ | refine xo_val (want_if rfl (by first | rfl | assumption)) rfl ⟨⟩ ?_
      first | refine xo_val rfl (a_pick_t rfl (by first | rfl | assumption) rfl) ⟨⟩ ?_ | refine xo_val rfl (a_pick_f rfl (by first | rfl | assumption) rfl) ⟨⟩ ?_
      refine xo_val rfl rfl ⟨⟩ ?_
      refine xo_nil ?_
      refine ⟨rfl, rfl, rfl, rfl, rfl, rfl, rfl, rfl, rfl, ?_⟩
      show Value.bool (c.id == (id : Int)) = _
      congr 1
      simp [k3]
      exact Bool.beq_eq_decide_eq ..
    · have e3 : (c.kind == 3) = false := by simpa using k3
      refine xo_val rfl rfl ⟨⟩ ?_
      first | refine xo_val rfl (a_load_pp rfl rfl rfl rfl) ⟨⟩ ?_ | refine xo_val rfl (a_load rfl rfl rfl (cell_of (by repeat' first | assumption | exact AH.get_push_new _ _ | exact AH.get_push_at (by first | (simp only [AH.n_push, AH.n_set]; done) | (simp only [AH.n_push, AH.n_set]; rfl)) | refine AH.get_push_old ?_ _ | apply get_same | refine get_other ?_ (by first | assumption | omega | (simp only [AH.n_push, AH.n_set]; omega) | (dsimp only; omega) | (dsimp only; simp only [AH.n_push, AH.n_set]; omega)) | refine Le.get (by assumption) ?_) rfl rfl)) ⟨⟩ ?_
      first | refine xo_val rfl (a_bin rfl rfl (bin_eql _ _ _ _ _)) ⟨⟩ ?_ | refine xo_val rfl rfl ⟨⟩ ?_
      refine xo_val rfl rfl ⟨⟩ ?_
      first | refine xo_skip (want_no rfl (by first | rfl | assumption)) ?_ | refine xo_skip rfl ?_ | refine xo_val (want_if rfl (by first | rfl | assumption)) rfl ⟨⟩ ?_
      first | refine xo_skip (want_no rfl (by first | rfl | assumption)) ?_ | refine xo_skip rfl ?_ | refine xo_val (want_if rfl (by first | rfl | assumption)) (a_load_pp rfl rfl rfl rfl) ⟨⟩ ?_ | refine xo_val (want_if rfl (by first | rfl | assumption)) (a_load rfl rfl rfl (cell_of (by repeat' first | assumption | exact AH.get_push_new _ _ | exact AH.get_push_at (by first | (simp only [AH.n_push, AH.n_set]; done) | (simp only [AH.n_push, AH.n_set]; rfl)) | refine AH.get_push_old ?_ _ | apply get_same | refine get_other ?_ (by first | assumption | omega | (simp only [AH.n_push, AH.n_set]; omega) | (dsimp only; omega) | (dsimp only; simp only [AH.n_push, AH.n_set]; omega)) | refine Le.get (by assumption) ?_) rfl rfl)) ⟨⟩ ?_
      first | refine xo_skip (want_no rfl (by first | rfl | assumption)) ?_ | refine xo_skip rfl ?_ | refine xo_val (want_if rfl (by first | rfl | assumption)) rfl ⟨⟩ ?_
      first | refine xo_skip (want_no rfl (by first | rfl | assumption)) ?_ | refine xo_skip rfl ?_ | refine xo_val (want_if rfl (by first | rfl | assumption)) (a_bin rfl rfl (bin_eql _ _ _ _ _)) ⟨⟩ ?_ | refine xo_val (want_if rfl (by first | rfl | assumption)) rfl ⟨⟩ ?_
      first | refine xo_val rfl (a_pick_t rfl (by first | rfl | assumption) rfl) ⟨⟩ ?_ | refine xo_val rfl (a_pick_f rfl (by first | rfl | assumption) rfl) ⟨⟩ ?_
      refine xo_val rfl rfl ⟨⟩ ?_
      refine xo_nil ?_
      refine ⟨rfl, rfl, rfl, rfl, rfl, rfl, rfl, rfl, rfl, ?_⟩
      show Value.bool false = _
      congr 1
      simp [k3]
  rintro fr1 h1 ⟨rfl, f1, f5, f6, f7, f8, f9, f10, f12, f13⟩
  have dW : decide (waitM d' (id : Int) > o) = false := decide_eq_false (by omega)
  have m1 := mix_at (d' := d') (d := d) hid
  refine w_cut mono_ac (fun fr' h' => h' = h1 ∧ fr' 1 = sv ∧ fr' 5 = .bool true ∧ fr' 6 = .pointer (some ⟨p6, 0, none⟩) ∧ fr' 7 = .pointer (some ⟨D, 0, none⟩) ∧ fr' 8 = .pointer (some ⟨p8, 0, none⟩) ∧ fr' 9 = iv ∧ fr' 10 = .pointer (some ⟨p10, 0, none⟩) ∧ fr' 12 = .int .i64 id) ?_ ?_
  · rw [← fr_fix f1, ← fr_fix f5, ← fr_fix f6, ← fr_fix f7, ← fr_fix f8, ← fr_fix f9, ← fr_fix f10, ← fr_fix f12, ← fr_fix f13]
    refine w_seq (w_region ?_)
    refine xo_val rfl rfl ⟨⟩ ?_
    refine xo_val rfl rfl ⟨⟩ ?_
    refine xo_val rfl rfl ⟨⟩ ?_
    first | refine xo_val rfl (a_load_pp rfl rfl rfl rfl) ⟨⟩ ?_ | refine xo_val rfl (a_load rfl rfl rfl (cell_of (by repeat' first | assumption | exact AH.get_push_new _ _ | exact AH.get_push_at (by first | (simp only [AH.n_push, AH.n_set]; done) | (simp only [AH.n_push, AH.n_set]; rfl)) | refine AH.get_push_old ?_ _ | apply get_same | refine get_other ?_ (by first | assumption | omega | (simp only [AH.n_push, AH.n_set]; omega) | (dsimp only; omega) | (dsimp only; simp only [AH.n_push, AH.n_set]; omega)) | refine Le.get (by assumption) ?_) rfl rfl)) ⟨⟩ ?_
    refine xo_call rfl rfl (dk_waiting R ⟨⟨fun _ => a_load rfl rfl rfl (cell_of c6 rfl rfl), trivial⟩, ?_⟩)
    refine xo_val rfl (a_bin rfl rfl (bin_gtr _ _ _ _ _)) ⟨⟩ ?_
    refine xo_val rfl rfl ⟨⟩ ?_
    first | refine xo_skip (want_no rfl (by first | rfl | assumption)) ?_ | refine xo_skip rfl ?_ | refine xo_val (want_if rfl (by first | rfl | assumption)) rfl ⟨⟩ ?_
    first | refine xo_skip (want_no rfl (by first | rfl | assumption)) ?_ | refine xo_skip rfl ?_ | refine xo_val (want_if rfl (by first | rfl | assumption)) (a_ix_mapN rfl rfl rfl rfl rfl rfl (by assumption)) ⟨⟩ ?_ | refine xo_val (want_if rfl (by first | rfl | assumption)) (a_ix_ps rfl rfl rfl rfl rfl rfl (by omega) (by assumption)) ⟨⟩ ?_ | refine xo_val (want_if rfl (by first | rfl | assumption)) (a_ixs rfl rfl rfl rfl rfl (by omega)) ⟨⟩ ?_ | refine xo_val (want_if rfl (by first | rfl | assumption)) (a_ixa rfl rfl rfl rfl rfl (by omega)) ⟨⟩ ?_
    refine xo_val (want_if rfl (by first | rfl | assumption)) (a_load_add1 rfl rfl rfl c8 (by simpa using m1)) ⟨⟩ ?_
    first | refine xo_skip (want_no rfl (by first | rfl | assumption)) ?_ | refine xo_skip rfl ?_ | refine xo_val (want_if rfl (by first | rfl | assumption)) rfl ⟨⟩ ?_
    cases hl : lostM d (id : Int) with
    | false =>
      first | refine xo_skip (want_no rfl (by first | rfl | assumption)) ?_ | refine xo_skip rfl ?_ | refine xo_val (want_if rfl (by first | rfl | assumption)) rfl ⟨⟩ ?_
      first | refine xo_skip (want_no rfl (by first | rfl | assumption)) ?_ | refine xo_skip rfl ?_ | refine xo_val (want_if rfl (by first | rfl | assumption)) rfl ⟨⟩ ?_
      first | refine xo_skip (want_no rfl (by first | rfl | assumption)) ?_ | refine xo_skip rfl ?_ | refine xo_val (want_if rfl (by first | rfl | assumption)) (a_pick_t rfl (by first | rfl | assumption) rfl) ⟨⟩ ?_ | refine xo_val (want_if rfl (by first | rfl | assumption)) (a_pick_f rfl (by first | rfl | assumption) rfl) ⟨⟩ ?_
      first | refine xo_skip (want_no rfl (by first | rfl | assumption)) ?_ | refine xo_skip rfl ?_ | refine xo_val (want_if rfl (by first | rfl | assumption)) rfl ⟨⟩ ?_
      first | refine xo_skip (want_no rfl (by first | rfl | assumption)) ?_ | refine xo_skip rfl ?_ | refine xo_val (want_if rfl (by first | rfl | assumption)) rfl ⟨⟩ ?_
      first | refine xo_skip (want_no rfl (by first | rfl | assumption)) ?_ | refine xo_skip rfl ?_ | refine xo_val (want_if rfl (by first | rfl | assumption)) rfl ⟨⟩ ?_
      first | refine xo_skip (want_no rfl (by first | rfl | assumption)) ?_ | refine xo_skip rfl ?_ | refine xo_val (want_if rfl (by first | rfl | assumption)) rfl ⟨⟩ ?_
      first | refine xo_skip (want_no rfl (by first | rfl | assumption)) ?_ | refine xo_skip rfl ?_ | refine xo_val (want_if rfl (by first | rfl | assumption)) rfl ⟨⟩ ?_
      first | refine xo_skip (want_no rfl (by first | rfl | assumption)) ?_ | refine xo_skip rfl ?_ | refine xo_val (want_if rfl (by first | rfl | assumption)) (a_pick_t rfl (by first | rfl | assumption) rfl) ⟨⟩ ?_ | refine xo_val (want_if rfl (by first | rfl | assumption)) (a_pick_f rfl (by first | rfl | assumption) rfl) ⟨⟩ ?_
      first | refine xo_val rfl (a_pick_t rfl (by first | rfl | assumption) rfl) ⟨⟩ ?_ | refine xo_val rfl (a_pick_f rfl (by first | rfl | assumption) rfl) ⟨⟩ ?_
      refine xo_nil (t_norm ?_)
      exact w_cond rfl (fun e => by cases e) (fun _ => w_skip ⟨rfl, rfl, rfl, rfl, rfl, rfl, rfl, rfl, rfl⟩)
    | true =>
      by_cases k : c.kind = 3 ∧ c.id = id
      · have e3 : decide (c.kind = 3 ∧ c.id = id) = true := decide_eq_true k
        rw [e3]
        first | refine xo_skip (want_no rfl (by first | rfl | assumption)) ?_ | refine xo_skip rfl ?_ | refine xo_val (want_if rfl (by first | rfl | assumption)) rfl ⟨⟩ ?_
        refine xo_val (want_if rfl rfl) (v := .bool false) rfl ⟨⟩ ?_
        first | refine xo_skip (want_no rfl (by first | rfl | assumption)) ?_ | refine xo_skip rfl ?_ | refine xo_val (want_if rfl (by first | rfl | assumption)) (a_pick_t rfl (by first | rfl | assumption) rfl) ⟨⟩ ?_ | refine xo_val (want_if rfl (by first | rfl | assumption)) (a_pick_f rfl (by first | rfl | assumption) rfl) ⟨⟩ ?_
        first | refine xo_skip (want_no rfl (by first | rfl | assumption)) ?_ | refine xo_skip rfl ?_ | refine xo_val (want_if rfl (by first | rfl | assumption)) rfl ⟨⟩ ?_
        first | refine xo_skip (want_no rfl (by first | rfl | assumption)) ?_ | refine xo_skip rfl ?_ | refine xo_val (want_if rfl (by first | rfl | assumption)) rfl ⟨⟩ ?_
        first | refine xo_skip (want_no rfl (by first | rfl | assumption)) ?_ | refine xo_skip rfl ?_ | refine xo_val (want_if rfl (by first | rfl | assumption)) rfl ⟨⟩ ?_
        first | refine xo_skip (want_no rfl (by first | rfl | assumption)) ?_ | refine xo_skip rfl ?_ | refine xo_val (want_if rfl (by first | rfl | assumption)) rfl ⟨⟩ ?_
        first | refine xo_skip (want_no rfl (by first | rfl | assumption)) ?_ | refine xo_skip rfl ?_ | refine xo_val (want_if rfl (by first | rfl | assumption)) rfl ⟨⟩ ?_
        first | refine xo_skip (want_no rfl (by first | rfl | assumption)) ?_ | refine xo_skip rfl ?_ | refine xo_val (want_if rfl (by first | rfl | assumption)) (a_pick_t rfl (by first | rfl | assumption) rfl) ⟨⟩ ?_ | refine xo_val (want_if rfl (by first | rfl | assumption)) (a_pick_f rfl (by first | rfl | assumption) rfl) ⟨⟩ ?_
        first | refine xo_val rfl (a_pick_t rfl (by first | rfl | assumption) rfl) ⟨⟩ ?_ | refine xo_val rfl (a_pick_f rfl (by first | rfl | assumption) rfl) ⟨⟩ ?_
        refine xo_nil (t_norm ?_)
        exact w_cond rfl (fun e => by cases e) (fun _ => w_skip ⟨rfl, rfl, rfl, rfl, rfl, rfl, rfl, rfl, rfl⟩)
      · have e3 : decide (c.kind = 3 ∧ c.id = id) = false := decide_eq_false k
        rw [e3]
        have hl' := hls hl k
        first | refine xo_skip (want_no rfl (by first | rfl | assumption)) ?_ | refine xo_skip rfl ?_ | refine xo_val (want_if rfl (by first | rfl | assumption)) rfl ⟨⟩ ?_
        refine xo_val (want_if rfl rfl) (v := .bool true) rfl ⟨⟩ ?_
        first | refine xo_skip (want_no rfl (by first | rfl | assumption)) ?_ | refine xo_skip rfl ?_ | refine xo_val (want_if rfl (by first | rfl | assumption)) (a_pick_t rfl (by first | rfl | assumption) rfl) ⟨⟩ ?_ | refine xo_val (want_if rfl (by first | rfl | assumption)) (a_pick_f rfl (by first | rfl | assumption) rfl) ⟨⟩ ?_
        first | refine xo_skip (want_no rfl (by first | rfl | assumption)) ?_ | refine xo_skip rfl ?_ | refine xo_val (want_if rfl (by first | rfl | assumption)) rfl ⟨⟩ ?_
        first | refine xo_skip (want_no rfl (by first | rfl | assumption)) ?_ | refine xo_skip rfl ?_ | refine xo_val (want_if rfl (by first | rfl | assumption)) rfl ⟨⟩ ?_
        first | refine xo_skip (want_no rfl (by first | rfl | assumption)) ?_ | refine xo_skip rfl ?_ | refine xo_val (want_if rfl (by first | rfl | assumption)) rfl ⟨⟩ ?_
        refine xo_call (want_if rfl rfl) rfl (dk_lost R ⟨⟨⟩, ?_⟩)
        rw [hl']
        refine xo_val (want_if rfl rfl) (v := .bool false) rfl ⟨⟩ ?_
        first | refine xo_skip (want_no rfl (by first | rfl | assumption)) ?_ | refine xo_skip rfl ?_ | refine xo_val (want_if rfl (by first | rfl | assumption)) (a_pick_t rfl (by first | rfl | assumption) rfl) ⟨⟩ ?_ | refine xo_val (want_if rfl (by first | rfl | assumption)) (a_pick_f rfl (by first | rfl | assumption) rfl) ⟨⟩ ?_
        first | refine xo_val rfl (a_pick_t rfl (by first | rfl | assumption) rfl) ⟨⟩ ?_ | refine xo_val rfl (a_pick_f rfl (by first | rfl | assumption) rfl) ⟨⟩ ?_
        refine xo_nil (t_norm ?_)
        exact w_cond rfl (fun e => by cases e) (fun _ => w_skip ⟨rfl, rfl, rfl, rfl, rfl, rfl, rfl, rfl, rfl⟩)
  rintro fr2 h2 ⟨rfl, f1, f5, f6, f7, f8, f9, f10, f12⟩
  rw [← fr_fix f1, ← fr_fix f5, ← fr_fix f6, ← fr_fix f7, ← fr_fix f8, ← fr_fix f9, ← fr_fix f10, ← fr_fix f12]
  refine w_region ?_
  refine xo_val rfl rfl ⟨⟩ ?_
  refine xo_val rfl rfl ⟨⟩ ?_
  refine xo_val rfl rfl ⟨⟩ ?_
  refine xo_call rfl rfl (dk_lost R ⟨⟨⟩, ?_⟩)
  first | refine xo_val rfl (a_ix_mapN rfl rfl rfl rfl rfl rfl (by assumption)) ⟨⟩ ?_ | refine xo_val rfl (a_ix_ps rfl rfl rfl rfl rfl rfl (by omega) (by assumption)) ⟨⟩ ?_ | refine xo_val rfl (a_ixs rfl rfl rfl rfl rfl (by omega)) ⟨⟩ ?_ | refine xo_val rfl (a_ixa rfl rfl rfl rfl rfl (by omega)) ⟨⟩ ?_
  refine xo_val rfl (a_store_add1 (u := .bool (lostM d' id)) rfl rfl rfl rfl ⟨rfl, rfl⟩ c8 (by rw [mix_len]; simp; omega)) ⟨⟩ ?_
  refine xo_nil ?_
  have : putAt (mixRow d' d id) (((id : Nat) : Int).toNat * 1) [Value.bool (lostM d' id)] = mixRow d' d (id + 1) := by
    rw [Int.toNat_natCast, Nat.mul_one, ← mix_set hid]
    apply List.ext_getElem?
    intro j
    rw [getElem?_putAt, List.getElem?_set]
    by_cases e : id = j
    · subst e
      rw [if_pos ⟨Nat.le_refl _, by simp, by rw [mix_len]; exact hid⟩, if_pos rfl, if_pos (by rw [mix_len]; exact hid)]
      simp
    · rw [if_neg (by simp; omega), if_neg e]
  rw [← this] at hQ
  exact hQ _ rfl rfl rfl rfl rfl rfl rfl rfl
set_option maxHeartbeats 4000000 in
theorem bound_ok (a b : Int) (script : List ActM) : Pure 4 [.agg #[.int .i64 a, .int .i64 b], actsV script] (.bool true) := by
  intro h Q hQ
  refine run_4 rfl ?_
  have ha := restZ_lt a 4 (by decide)
  have hb := restZ_lt b 6 (by decide)
  refine w_seq (w_region ?_)
  refine xo_val rfl (a_box rfl rfl) ⟨⟩ ?_
  refine xo_val rfl rfl ⟨⟩ ?_
  refine xo_nil (t_norm ?_)
  refine w_seq (w_region ?_)
  refine xo_call rfl rfl (xo_pure awake_ok fun h1 hle1 => ⟨⟨⟩, ?_⟩)
  refine xo_val rfl rfl ⟨⟩ ?_
  refine xo_nil (t_norm ?_)
  refine w_seq (w_region ?_)
  first | refine xo_val rfl (a_loads_pp rfl rfl rfl rfl) ⟨⟩ ?_ | refine xo_val rfl (a_loads rfl rfl rfl (cells_of (by repeat' first | assumption | exact AH.get_push_new _ _ | exact AH.get_push_at (by first | (simp only [AH.n_push, AH.n_set]; done) | (simp only [AH.n_push, AH.n_set]; rfl)) | refine AH.get_push_old ?_ _ | apply get_same | refine get_other ?_ (by first | assumption | omega | (simp only [AH.n_push, AH.n_set]; omega) | (dsimp only; omega) | (dsimp only; simp only [AH.n_push, AH.n_set]; omega)) | refine Le.get (by assumption) ?_) rfl rfl rfl)) ⟨⟩ ?_
  refine xo_call rfl rfl (config_ok fun h2 hle2 => ⟨⟨⟩, ?_⟩)
  refine xo_val rfl (a_alloc rfl) ⟨⟩ ?_
  refine xo_val rfl (a_store rfl rfl rfl rfl rfl (store_of (by repeat' first | assumption | exact AH.get_push_new _ _ | exact AH.get_push_at (by first | (simp only [AH.n_push, AH.n_set]; done) | (simp only [AH.n_push, AH.n_set]; rfl)) | refine AH.get_push_old ?_ _ | apply get_same | refine get_other ?_ (by first | assumption | omega | (simp only [AH.n_push, AH.n_set]; omega) | (dsimp only; omega) | (dsimp only; simp only [AH.n_push, AH.n_set]; omega)) | refine Le.get (by assumption) ?_) rfl rfl)) ⟨⟩ ?_
  refine xo_nil (t_norm ?_)
  obtain ⟨q, hq⟩ : ∃ q, q = 1 + restZ a 4 := ⟨_, rfl⟩
  obtain ⟨o, ho⟩ : ∃ o, o = 1 + restZ b 6 := ⟨_, rfl⟩
  rw [← hq, ← ho]
  have hq' : 1 ≤ q ∧ q ≤ 4 := by omega
  have ho' : 1 ≤ o ∧ o ≤ 6 := by omega
  have hle3 := ((Le.refl h2).push (.row (Value.agg #[.int .i64 0, .int .i64 0, .int .i64 0, .int .i64 0, .int .i64 0, .int .i64 0, .int .i64 0]).cells.toList true 0)).set (B := h2.n) (Nat.le_refl _) (.row (configV q o).cells.toList true 0)
  have c6 := get_same (p := .row (configV q o).cells.toList true 0) (AH.get_push_new h2 (.row (Value.agg #[.int .i64 0, .int .i64 0, .int .i64 0, .int .i64 0, .int .i64 0, .int .i64 0, .int .i64 0]).cells.toList true 0))
  refine w_seq (w_region ?_)
  first | refine xo_val rfl (a_loads_pp rfl rfl rfl rfl) ⟨⟩ ?_ | refine xo_val rfl (a_loads rfl rfl rfl (cells_of (by repeat' first | assumption | exact AH.get_push_new _ _ | exact AH.get_push_at (by first | (simp only [AH.n_push, AH.n_set]; done) | (simp only [AH.n_push, AH.n_set]; rfl)) | refine AH.get_push_old ?_ _ | apply get_same | refine get_other ?_ (by first | assumption | omega | (simp only [AH.n_push, AH.n_set]; omega) | (dsimp only; omega) | (dsimp only; simp only [AH.n_push, AH.n_set]; omega)) | refine Le.get (by assumption) ?_) rfl rfl rfl)) ⟨⟩ ?_
  refine xo_call rfl rfl (dk_new (q := q) (o := o) (by omega) (by omega) fun h3 D F hle4 R hF => ⟨⟨⟩, ?_⟩)
  refine xo_val rfl rfl ⟨⟩ ?_
  refine xo_nil (t_norm ?_)
  refine w_seq (w_region ?_)
  refine xo_val rfl (a_alloc rfl) ⟨⟩ ?_
  refine xo_nil (t_norm ?_)
  have c63 := hle4.get c6
  have n62 : h2.n < h3.n := AH.get_lt c63
  refine w_seq ?_
  refine w_seq (w_region ?_)
  refine xo_val rfl rfl ⟨⟩ ?_
  refine xo_nil (t_norm ?_)
  have hle03 : Le h h3 := (((Le.refl h).push (.row (Value.agg #[.int .i64 a, .int .i64 b]).cells.toList true 0)).trans hle1).trans ((hle2.trans hle3).trans hle4)
  have hn2 : h.n ≤ h2.n := (((Le.refl h).push (.row (Value.agg #[.int .i64 a, .int .i64 b]).cells.toList true 0)).trans (hle1.trans hle2)).1
  refine w_block (w_loop (fun N fr h' => ∃ (i : Nat) (F : List Nat), N + i = 40 ∧ i ≤ script.length ∧ BInv h q o script h2.n h3.n D i fr h' F) 40 ?_ ?_)
  · refine ⟨0, F, rfl, Nat.zero_le _, hle03.push _, R.le ((Le.refl _).push _), fun b hb => ?_, AH.get_push_old c63 _, ?_, rfl, rfl, rfl, rfl, rfl, rfl⟩
    · have h5 := hF b hb
      have h6 := R.lt b hb
      simp only [AH.n_set, AH.n_push] at h5
      omega
    · exact AH.get_push_new h3 _
  rintro N fr h4 ⟨i, F, hN, hi, V⟩
  obtain ⟨vle, vdesk, vfp, v6, v8, f1, f5, f6, f7, f8, f9⟩ := V
  rw [← fr_fix f1, ← fr_fix f5, ← fr_fix f6, ← fr_fix f7, ← fr_fix f8, ← fr_fix f9]
  have fin : ∀ (fr : Fr), fr 5 = .bool true → ∀ (Qx : XQ), Qx = retQ tab [ResultVar.tmp 4] Q → xw tab C Y ((XC.region x4_19).seq XC.ret) fr h4 Qx := by
    intro fr f5 Qx e
    subst e
    rw [← fr_fix f5]
    refine w_seq (w_region ?_)
    refine xo_val rfl rfl ⟨⟩ ?_
    refine xo_val rfl rfl ⟨⟩ ?_
    refine xo_nil (t_norm ?_)
    exact w_ret (ret_of rfl (hQ _ vle))
  have hmi : (i : Int) < 41 := by omega
  refine w_seq ?_
  by_cases hlt : (i : Int) < script.length
  · have d1 : decide ((i : Int) < script.length) = true := decide_eq_true hlt
    by_cases h40 : (i : Int) < 40
    · have d2 : decide ((i : Int) < 40) = true := decide_eq_true h40
      refine w_seq (w_region ?_)
      refine xo_val rfl rfl ⟨⟩ ?_
      refine xo_val rfl rfl ⟨⟩ ?_
      first | refine xo_val rfl (a_len_map rfl rfl rfl rfl rfl rfl) ⟨⟩ ?_ | refine xo_val rfl (a_len_ps rfl rfl rfl rfl rfl rfl) ⟨⟩ ?_ | refine xo_val rfl rfl ⟨⟩ ?_
      refine xo_val rfl (a_bin rfl rfl (bin_lss _ _ _ _ _)) ⟨⟩ ?_
      refine xo_val rfl rfl ⟨⟩ ?_
      first | refine xo_skip (want_no rfl (by first | rfl | assumption)) ?_ | refine xo_skip rfl ?_ | refine xo_val (want_if rfl (by first | rfl | assumption)) rfl ⟨⟩ ?_
      first | refine xo_skip (want_no rfl (by first | rfl | assumption)) ?_ | refine xo_skip rfl ?_ | refine xo_val (want_if rfl (by first | rfl | assumption)) (a_bin rfl rfl (bin_lss _ _ _ _ _)) ⟨⟩ ?_
      first | refine xo_val rfl (a_pick_t rfl (by first | rfl | assumption) rfl) ⟨⟩ ?_ | refine xo_val rfl (a_pick_f rfl (by first | rfl | assumption) rfl) ⟨⟩ ?_
      refine xo_nil (t_norm ?_)
      refine w_cond rfl (fun _ => w_skip (t_norm ?_)) (fun e => by rw [d2] at e; cases e)
      obtain ⟨s, hs⟩ : ∃ s, script[i]? = some s := ⟨_, List.getElem?_eq_getElem (by omega)⟩
      refine w_seq (w_block ?_)
      obtain ⟨stamp, hstamp⟩ : ∃ stamp : Int, stamp = ((i + 1 : Nat) : Int) := ⟨_, rfl⟩
      have hst1 : stamp = (i : Int) + 1 := hstamp
      have hd1 := deskAt_succ (q := q) (o := o) hs
      rw [← hstamp] at hd1
      have hcg := cmd_good s stamp
      have hce := cmd_ok s stamp (by omega)
      rcases hcm : cmdM s stamp with ⟨c, outs⟩
      rw [hcm] at hcg hce hd1
      dsimp only at hcg hce hd1
      have G := deskAt_good (script := script) hq' ho' i
      have G1 := deskAt_good (script := script) hq' ho' (i + 1)
      have hqo := deskAt_q (q := q) (o := o) (script := script) (i + 1)
      refine w_seq (w_region ?_)
      refine xo_val rfl rfl ⟨⟩ ?_
      refine xo_val rfl rfl ⟨⟩ ?_
      first | refine xo_val rfl (a_ix_mapN rfl rfl rfl rfl rfl rfl (by assumption)) ⟨⟩ ?_ | refine xo_val rfl (a_ix_ps rfl rfl rfl rfl rfl rfl (by omega) (by assumption)) ⟨⟩ ?_ | refine xo_val rfl (a_ixs rfl rfl rfl rfl rfl (by omega)) ⟨⟩ ?_ | refine xo_val rfl (a_ixa rfl rfl rfl rfl rfl (by omega)) ⟨⟩ ?_
      first | refine xo_val rfl (a_loads_pp rfl rfl rfl rfl) ⟨⟩ ?_ | refine xo_val rfl (a_loads rfl rfl rfl (cells_of (by repeat' first | assumption | exact AH.get_push_new _ _ | exact AH.get_push_at (by first | (simp only [AH.n_push, AH.n_set]; done) | (simp only [AH.n_push, AH.n_set]; rfl)) | refine AH.get_push_old ?_ _ | apply get_same | refine get_other ?_ (by first | assumption | omega | (simp only [AH.n_push, AH.n_set]; omega) | (dsimp only; omega) | (dsimp only; simp only [AH.n_push, AH.n_set]; omega)) | refine Le.get (by assumption) ?_) rfl rfl rfl)) ⟨⟩ ?_
      refine xo_val rfl rfl ⟨⟩ ?_
      refine xo_val rfl (v := .int .i64 stamp) (by rw [hst1]; exact a_bin rfl rfl (bin_add64 _ _ _ _ (by omega))) ⟨⟩ ?_
      refine xo_call rfl rfl (xo_pure hce fun h5 hle5 => ⟨⟨⟩, ?_⟩)
      refine xo_val rfl rfl ⟨⟩ ?_
      refine xo_val rfl rfl ⟨⟩ ?_
      refine xo_val rfl rfl ⟨⟩ ?_
      refine xo_val rfl (a_alloc rfl) ⟨⟩ ?_
      refine xo_val rfl (a_store rfl rfl rfl rfl rfl (store_of (by repeat' first | assumption | exact AH.get_push_new _ _ | exact AH.get_push_at (by first | (simp only [AH.n_push, AH.n_set]; done) | (simp only [AH.n_push, AH.n_set]; rfl)) | refine AH.get_push_old ?_ _ | apply get_same | refine get_other ?_ (by first | assumption | omega | (simp only [AH.n_push, AH.n_set]; omega) | (dsimp only; omega) | (dsimp only; simp only [AH.n_push, AH.n_set]; omega)) | refine Le.get (by assumption) ?_) rfl rfl)) ⟨⟩ ?_
      refine xo_val rfl rfl ⟨⟩ ?_
      refine xo_nil (t_norm ?_)
      have hle6 := (hle5.push (.row (cmdOf ⟨0, 0, 0, ⟨0, 0⟩⟩).cells.toList true 0)).set (B := h5.n) hle5.1 (.row (cmdOf c).cells.toList true 0)
      have c10 := get_same (p := .row (cmdOf c).cells.toList true 0) (AH.get_push_new h5 (.row (cmdOf ⟨0, 0, 0, ⟨0, 0⟩⟩).cells.toList true 0))
      refine w_seq (w_region ?_)
      refine xo_val rfl rfl ⟨⟩ ?_
      refine xo_val rfl rfl ⟨⟩ ?_
      refine xo_val rfl (v := .int .i64 stamp) (by rw [hst1]; exact a_bin rfl rfl (bin_add64 _ _ _ _ (by omega))) ⟨⟩ ?_
      first | refine xo_val rfl (a_loads_pp rfl rfl rfl rfl) ⟨⟩ ?_ | refine xo_val rfl (a_loads rfl rfl rfl (cells_of (by repeat' first | assumption | exact AH.get_push_new _ _ | exact AH.get_push_at (by first | (simp only [AH.n_push, AH.n_set]; done) | (simp only [AH.n_push, AH.n_set]; rfl)) | refine AH.get_push_old ?_ _ | apply get_same | refine get_other ?_ (by first | assumption | omega | (simp only [AH.n_push, AH.n_set]; omega) | (dsimp only; omega) | (dsimp only; simp only [AH.n_push, AH.n_set]; omega)) | refine Le.get (by assumption) ?_) rfl rfl rfl)) ⟨⟩ ?_
      refine xo_val rfl rfl ⟨⟩ ?_
      refine xo_call rfl rfl (dk_do (c := c) (outs := outs) (d := deskAt q o script i) (vdesk.le hle6) G.sane (hcg.good.ok hcg.ne) (fun _ => rfl) (G.fresh (by omega)) fun h7 F7 R7 W7 => ⟨⟨⟩, ?_⟩)
      refine xo_nil (t_norm ?_)
      rw [← hd1] at R7
      have hle7 : Le h h7 := ⟨Nat.le_trans (vle.trans hle6).1 W7.n, fun b o e => W7.keep b o ((vle.trans hle6).get e) fun hb => by have := (vfp b hb).1; have := AH.get_lt e; omega⟩
      have n3 : h3.n < h4.n := AH.get_lt v8
      have n54 : h4.n ≤ h5.n := hle5.1
      have nF := vdesk.lt
      have v67 := W7.keep _ _ (hle6.get v6) (fun hm => (vfp _ hm).2.1 rfl)
      have v87 := W7.keep _ _ (hle6.get v8) (fun hm => (vfp _ hm).2.2 rfl)
      have c107 := W7.keep _ _ c10 (fun hm => by have := nF _ hm; omega)
      have hF7 : ∀ b ∈ F7, h.n ≤ b ∧ b ≠ h2.n ∧ b ≠ h3.n := fun b hb => by
        rcases W7.fp b hb with x | x
        · exact vfp b x
        · have := vle.1
          simp only [AH.n_set, AH.n_push] at x
          omega
      have dL : decide (((deskAt q o script (i + 1)).lines.length : Int) > q) = false := decide_eq_false (by have := G1.len; rw [hqo.1] at this; omega)
      refine w_seq ?_
      refine w_seq (w_region ?_)
      refine xo_val rfl rfl ⟨⟩ ?_
      refine xo_val rfl rfl ⟨⟩ ?_
      first | refine xo_val rfl (a_load_pp rfl rfl rfl rfl) ⟨⟩ ?_ | refine xo_val rfl (a_load rfl rfl rfl (cell_of (by repeat' first | assumption | exact AH.get_push_new _ _ | exact AH.get_push_at (by first | (simp only [AH.n_push, AH.n_set]; done) | (simp only [AH.n_push, AH.n_set]; rfl)) | refine AH.get_push_old ?_ _ | apply get_same | refine get_other ?_ (by first | assumption | omega | (simp only [AH.n_push, AH.n_set]; omega) | (dsimp only; omega) | (dsimp only; simp only [AH.n_push, AH.n_set]; omega)) | refine Le.get (by assumption) ?_) rfl rfl)) ⟨⟩ ?_
      refine xo_call rfl rfl (dk_live R7 ⟨⟨fun _ => a_load rfl rfl rfl (cell_of v67 rfl rfl), trivial⟩, ?_⟩)
      refine xo_val rfl (a_bin rfl rfl (bin_gtr _ _ _ _ _)) ⟨⟩ ?_
      refine xo_nil (t_norm ?_)
      refine w_cond rfl (fun e => by rw [dL] at e; cases e) (fun _ => w_skip (t_norm ?_))
      refine w_seq (w_region ?_)
      refine xo_val rfl rfl ⟨⟩ ?_
      refine xo_nil (t_norm ?_)
      have nF7 := R7.lt
      have n7 : h3.n < h7.n := AH.get_lt v87
      refine w_block (w_loop (fun N fr h' => ∃ id : Nat, N + id = 41 ∧ Le h h' ∧ Dk h' D (deskAt q o script (i + 1)) F7 ∧ h'.get h2.n = some (.row (configV q o).cells.toList true 0) ∧ h'.get h3.n = some (.row (mixRow (deskAt q o script (i + 1)) (deskAt q o script i) id) true 0) ∧ h'.get h5.n = some (.row (cmdOf c).cells.toList true 0) ∧
        fr 1 = actsV script ∧ fr 5 = .bool true ∧ fr 6 = .pointer (some ⟨h2.n, 0, none⟩) ∧ fr 7 = .pointer (some ⟨D, 0, none⟩) ∧ fr 8 = .pointer (some ⟨h3.n, 0, none⟩) ∧ fr 9 = .int .i64 i ∧ fr 10 = .pointer (some ⟨h5.n, 0, none⟩) ∧ fr 12 = .int .i64 id) 41 ?_ ?_)
      · refine ⟨0, rfl, hle7, R7, v67, ?_, c107, rfl, rfl, rfl, rfl, rfl, rfl, rfl, rfl⟩
        have : mixRow (deskAt q o script (i + 1)) (deskAt q o script i) 0 = mixRow (deskAt q o script i) (deskAt q o script i) 0 := by
          unfold mixRow
          refine List.map_congr_left fun k hk => ?_
          rw [if_neg (by omega), if_neg (by omega)]
        rw [this]
        exact v87
      rintro N fr h8 ⟨id, hN, w1, w2, w6, w8, w10, f1, f5, f6, f7, f8, f9, f10, f12⟩
      rw [← fr_fix f1, ← fr_fix f5, ← fr_fix f6, ← fr_fix f7, ← fr_fix f8, ← fr_fix f9, ← fr_fix f10, ← fr_fix f12]
      refine w_seq ?_
      refine w_seq (w_region ?_)
      refine xo_val rfl rfl ⟨⟩ ?_
      refine xo_val rfl (a_bin rfl rfl (bin_lss _ _ _ _ _)) ⟨⟩ ?_
      refine xo_nil (t_norm ?_)
      refine w_cond rfl (fun hlt2 => w_skip (t_norm ?_)) (fun hge2 => w_exit (t_exit (b_here (id := 2) (b_norm (id := 1) (t_norm ?_)))))
      · have hid : (id : Int) < 41 := of_decide_eq_true hlt2
        refine w_seq (w_block ?_)
        have hid' : id < 41 := by omega
        have hwt := G1.wait (id : Int)
        refine bound_in hid' w2 w6 w8 w10 (by rw [hqo.2] at hwt; exact hwt.2) (fun x y => by rw [hd1]; exact lost_stays G (by omega) x y) rfl rfl rfl rfl rfl rfl rfl rfl fun fr' f1 f5 f6 f7 f8 f9 f10 f12 => ?_
        rw [← fr_fix f1, ← fr_fix f5, ← fr_fix f6, ← fr_fix f7, ← fr_fix f8, ← fr_fix f9, ← fr_fix f10, ← fr_fix f12]
        refine b_norm (t_norm ?_)
        refine w_region ?_
        refine xo_val rfl rfl ⟨⟩ ?_
        refine xo_val rfl (a_bin rfl rfl (bin_add64 _ _ _ _ (by omega))) ⟨⟩ ?_
        refine xo_val rfl rfl ⟨⟩ ?_
        refine xo_nil ?_
        refine ⟨N - 1, by omega, id + 1, by omega, w1.set (by have := vle.1; omega) _, w2.but ((But.refl [h3.n] h8).set (.inl (List.mem_singleton.2 rfl)) _) (fun b hb hm => ?_), get_other w6 (by omega), get_same w8, get_other w10 (by omega), rfl, rfl, rfl, rfl, rfl, rfl, rfl, rfl⟩
        rw [List.mem_singleton.1 hb] at hm
        exact (hF7 _ hm).2.2 rfl
      · have hid : ¬ (id : Int) < 41 := of_decide_eq_false hge2
        have hid' : id = 41 := by omega
        subst hid'
        refine w_region ?_
        refine xo_val rfl rfl ⟨⟩ ?_
        refine xo_val rfl (a_bin rfl rfl (bin_add64 _ _ _ _ (by omega))) ⟨⟩ ?_
        refine xo_val rfl rfl ⟨⟩ ?_
        refine xo_nil ?_
        refine ⟨39 - i, by omega, i + 1, F7, by omega, by omega, w1, w2, hF7, w6, ?_, rfl, rfl, rfl, rfl, rfl, rfl⟩
        rw [← mix_all (deskAt q o script (i + 1)) _ (deskAt q o script i)]
        exact w8
    · have d2 : decide ((i : Int) < 40) = false := decide_eq_false h40
      refine w_seq (w_region ?_)
      refine xo_val rfl rfl ⟨⟩ ?_
      refine xo_val rfl rfl ⟨⟩ ?_
      first | refine xo_val rfl (a_len_map rfl rfl rfl rfl rfl rfl) ⟨⟩ ?_ | refine xo_val rfl (a_len_ps rfl rfl rfl rfl rfl rfl) ⟨⟩ ?_ | refine xo_val rfl rfl ⟨⟩ ?_
      refine xo_val rfl (a_bin rfl rfl (bin_lss _ _ _ _ _)) ⟨⟩ ?_
      refine xo_val rfl rfl ⟨⟩ ?_
      first | refine xo_skip (want_no rfl (by first | rfl | assumption)) ?_ | refine xo_skip rfl ?_ | refine xo_val (want_if rfl (by first | rfl | assumption)) rfl ⟨⟩ ?_
      first | refine xo_skip (want_no rfl (by first | rfl | assumption)) ?_ | refine xo_skip rfl ?_ | refine xo_val (want_if rfl (by first | rfl | assumption)) (a_bin rfl rfl (bin_lss _ _ _ _ _)) ⟨⟩ ?_
      first | refine xo_val rfl (a_pick_t rfl (by first | rfl | assumption) rfl) ⟨⟩ ?_ | refine xo_val rfl (a_pick_f rfl (by first | rfl | assumption) rfl) ⟨⟩ ?_
      refine xo_nil (t_norm ?_)
      exact w_cond rfl (fun e => by rw [d2] at e; cases e) (fun _ => w_exit (t_exit (b_here (id := 0) (t_norm (fin _ rfl _ rfl)))))
  · have d1 : decide ((i : Int) < script.length) = false := decide_eq_false hlt
    refine w_seq (w_region ?_)
    refine xo_val rfl rfl ⟨⟩ ?_
    refine xo_val rfl rfl ⟨⟩ ?_
    first | refine xo_val rfl (a_len_map rfl rfl rfl rfl rfl rfl) ⟨⟩ ?_ | refine xo_val rfl (a_len_ps rfl rfl rfl rfl rfl rfl) ⟨⟩ ?_ | refine xo_val rfl rfl ⟨⟩ ?_
    refine xo_val rfl (a_bin rfl rfl (bin_lss _ _ _ _ _)) ⟨⟩ ?_
    refine xo_val rfl rfl ⟨⟩ ?_
    first | refine xo_skip (want_no rfl (by first | rfl | assumption)) ?_ | refine xo_skip rfl ?_ | refine xo_val (want_if rfl (by first | rfl | assumption)) rfl ⟨⟩ ?_
    first | refine xo_skip (want_no rfl (by first | rfl | assumption)) ?_ | refine xo_skip rfl ?_ | refine xo_val (want_if rfl (by first | rfl | assumption)) (a_bin rfl rfl (bin_lss _ _ _ _ _)) ⟨⟩ ?_
    first | refine xo_val rfl (a_pick_t rfl (by first | rfl | assumption) rfl) ⟨⟩ ?_ | refine xo_val rfl (a_pick_f rfl (by first | rfl | assumption) rfl) ⟨⟩ ?_
    refine xo_nil (t_norm ?_)
    exact w_cond rfl (fun e => by cases e) (fun _ => w_exit (t_exit (b_here (id := 0) (t_norm (fin _ rfl _ rfl)))))
end Go.AI.Q
