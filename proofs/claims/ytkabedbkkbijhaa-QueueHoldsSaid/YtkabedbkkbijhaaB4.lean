/-
  THE QUEUE'S DESK IN THE HEAP. (Own work; steps printed by wip/gen/walk.py.)
-/
import Derived.Test.YtkabedbkkbijhaaB3
namespace Go.AI.Q
open Go Go.AI Go.Proofs
attribute [local irreducible] xOps xw
structure LineM where
  id : Int
  row : List Found
  lost : Bool
structure DeskM where
  q : Int
  o : Int
  lines : List LineM
def Fp (D m : Nat) (gs : List (Nat × Value)) : List Nat := D :: m :: gs.flatMap fun g => g.1 :: rowBlk g.2
/-- Blocks apart. -/
structure Sep (D m : Nat) (gs : List (Nat × Value)) : Prop where
  dm : D ≠ m
  one : ∀ (i : Nat) (g : Nat × Value), gs[i]? = some g → g.1 ≠ D ∧ g.1 ≠ m ∧ D ∉ rowBlk g.2 ∧ m ∉ rowBlk g.2 ∧ g.1 ∉ rowBlk g.2
  two : ∀ (i j : Nat) (g g' : Nat × Value), i ≠ j → gs[i]? = some g → gs[j]? = some g' → g.1 ≠ g'.1 ∧ g.1 ∉ rowBlk g'.2 ∧ ∀ b ∈ rowBlk g.2, b ∉ rowBlk g'.2
def entry (l : LineM) (g : Nat × Value) : Value × Value := (.int .i64 l.id, .pointer (some ⟨g.1, 0, none⟩))
structure DeskR (h : AH) (D m : Nat) (gs : List (Nat × Value)) (bs : List Nat) (clk : Nat) (d : DeskM) : Prop where
  desk : h.get D = some (.row [.int .i64 0, .int .i64 0, .int .i64 0, .int .i64 d.q, .int .i64 0, .int .i64 d.o, .int .i64 0, .map (some m)] true 0)
  map : h.get m = some (.map (List.zipWith entry d.lines gs) bs clk)
  len : gs.length = d.lines.length
  blen : bs.length = d.lines.length
  bnd : bs.Nodup
  blt : ∀ b ∈ bs, b < clk
  line : ∀ (i : Nat) (l : LineM) (g : Nat × Value), d.lines[i]? = some l → gs[i]? = some g → h.get g.1 = some (.row [g.2, .bool l.lost] true 0) ∧ Acc h 2 g.2 (l.row.map foundV)
  sep : Sep D m gs
  ids : (d.lines.map (·.id)).Nodup
theorem Fp_line {D m : Nat} {gs : List (Nat × Value)} {i : Nat} {g : Nat × Value} (hg : gs[i]? = some g) {b : Nat} (hb : b = g.1 ∨ b ∈ rowBlk g.2) : b ∈ Fp D m gs := by
  refine List.mem_cons_of_mem _ (List.mem_cons_of_mem _ (List.mem_flatMap.2 ⟨g, List.mem_of_getElem? hg, ?_⟩))
  rcases hb with rfl | hb
  · exact List.mem_cons_self ..
  · exact List.mem_cons_of_mem _ hb
theorem DeskR.keep {h h' : AH} {D m : Nat} {gs : List (Nat × Value)} {bs : List Nat} {clk : Nat} {d : DeskM} (R : DeskR h D m gs bs clk d) (hk : ∀ B ∈ Fp D m gs, ∀ o, h.get B = some o → h'.get B = some o) : DeskR h' D m gs bs clk d where
  desk := hk D (by simp [Fp]) _ R.desk
  map := hk m (by simp [Fp]) _ R.map
  len := R.len
  blen := R.blen
  bnd := R.bnd
  blt := R.blt
  line := fun i l g hl hg => by
    obtain ⟨h1, h2⟩ := R.line i l g hl hg
    exact ⟨hk _ (Fp_line hg (.inl rfl)) _ h1, h2.stay fun b hb o => hk b (Fp_line hg (.inr hb)) o⟩
  sep := R.sep
  ids := R.ids
theorem DeskR.le {h h' : AH} {D m : Nat} {gs : List (Nat × Value)} {bs : List Nat} {clk : Nat} {d : DeskM} (R : DeskR h D m gs bs clk d) (x : Le h h') : DeskR h' D m gs bs clk d := R.keep fun _ _ _ e => x.get e
theorem DeskR.but {h h' : AH} {D m : Nat} {gs : List (Nat × Value)} {bs xs : List Nat} {clk : Nat} {d : DeskM} (R : DeskR h D m gs bs clk d) (x : But xs h h') (hn : ∀ b ∈ Fp D m gs, b ∉ xs) : DeskR h' D m gs bs clk d := R.keep fun B hB _ e => x.get e (hn B hB)
def findAt (ls : List LineM) (id : Int) : Option Nat := ls.findIdx? fun l => id == l.id
theorem aFind_desk {id : Int} : ∀ (ls : List LineM) (gs : List (Nat × Value)) (i : Nat), gs.length = ls.length →
    aFind (.int .i64) (.int .i64 id) (List.zipWith entry ls gs) i = some (match findAt ls id with | some j => (gs[j]?).map fun g => (i + j, .pointer (some ⟨g.1, 0, none⟩)) | none => none)
  | [], gs, i, _ => by simp [aFind, findAt]
  | l :: ls, [], i, h => by simp at h
  | l :: ls, g :: gs, i, h => by
    have ih := aFind_desk (id := id) ls gs (i + 1) (by simpa using h)
    simp only [List.zipWith_cons_cons, aFind, entry, keyEq, if_true]
    by_cases e : id = l.id
    · subst e
      simp [findAt, List.findIdx?_cons]
    · have hb : (id == l.id) = false := by simpa using e
      simp only [hb]
      rw [show List.zipWith (fun l g => entry l g) ls gs = List.zipWith entry ls gs from rfl, ih]
      simp only [findAt, List.findIdx?_cons, hb, Bool.false_eq_true, if_false]
      cases hf : List.findIdx? (fun l => id == l.id) ls with
      | none => simp
      | some j =>
        simp only [Option.map_some, List.getElem?_cons_succ]
        cases gs[j]? with
        | none => rfl
        | some g => simp only [Option.map_some]; congr 3; omega
theorem live_ok {h : AH} {D m : Nat} {gs : List (Nat × Value)} {bs : List Nat} {clk : Nat} {d : DeskM} {Q : AO → AH → Prop} (R : DeskR h D m gs bs clk d) (hQ : Q (.ret (.int .i64 d.lines.length)) h) :
    C 14 [.pointer (some ⟨D, 0, none⟩)] h Q := by
  refine run_14 rfl ?_
  have hD := R.desk
  have hm := R.map
  refine w_seq (w_region ?_)
  refine xo_val rfl rfl ⟨⟩ ?_
  refine xo_nil (t_norm ?_)
  refine w_seq (w_seq (w_region ?_))
  refine xo_val rfl rfl ⟨⟩ ?_
  first | refine xo_val rfl (a_bin rfl rfl (bin_eql _ _ _ _ _)) ⟨⟩ ?_ | refine xo_val rfl rfl ⟨⟩ ?_
  refine xo_nil (t_norm ?_)
  refine w_cond rfl (fun e => by simp at e) fun _ => ?_
  refine w_skip (t_norm (w_seq (w_region ?_)))
  refine xo_val rfl rfl ⟨⟩ ?_
  refine xo_val rfl rfl ⟨⟩ ?_
  refine xo_val rfl rfl ⟨⟩ ?_
  first | refine xo_val rfl (a_load_pp rfl rfl rfl rfl) ⟨⟩ ?_ | refine xo_val rfl (a_load rfl rfl rfl (cell_of (by repeat' first | assumption | exact AH.get_push_new _ _ | exact AH.get_push_at (by first | (simp only [AH.n_push, AH.n_set]; done) | (simp only [AH.n_push, AH.n_set]; rfl)) | refine AH.get_push_old ?_ _ | apply get_same | refine get_other ?_ (by first | assumption | omega | (simp only [AH.n_push, AH.n_set]; omega) | (dsimp only; omega) | (dsimp only; simp only [AH.n_push, AH.n_set]; omega)) | refine Le.get (by assumption) ?_) rfl rfl)) ⟨⟩ ?_
  refine xo_val rfl (a_len (v := .int .i64 d.lines.length) rfl rfl rfl rfl ?_) ⟨⟩ ?_
  · show (match h.get m with | some (.map es _ _) => some (goInt es.length) | _ => none) = _
    rw [hm]
    simp [R.len, goInt]
  refine xo_val rfl rfl ⟨⟩ ?_
  refine xo_nil (t_norm ?_)
  exact w_ret (ret_of rfl hQ)
theorem a_lookup {T : Tab} {fr : Fr} {h : AH} {t : TypeId} {m k : Operand} {ok : Bool} {u z v : Value} (e : ev fr m = u) (e' : ev fr k = z) (hv : aLookup T h t u z ok = some v) : aOp T fr h (.lookup t m k ok) = some (.val v h) := by
  simp only [aOp, e, e', hv, vv, Option.map_some]
/-- What a desk's map tells of an id. -/
def lookV (d : DeskM) (gs : List (Nat × Value)) (id : Int) : Value :=
  match findAt d.lines id with
  | some j => .pointer ((gs[j]?).map fun g => ⟨g.1, 0, none⟩)
  | none => .pointer none
theorem look_desk {h : AH} {D m : Nat} {gs : List (Nat × Value)} {bs : List Nat} {clk : Nat} {d : DeskM} (R : DeskR h D m gs bs clk d) (id : Int) : aLookup tab h 78 (.map (some m)) (.int .i64 id) false = some (lookV d gs id) := by
  have hm := R.map
  have hf := aFind_desk (id := id) d.lines gs 0 R.len
  have e1 : aLookup tab h 78 (.map (some m)) (.int .i64 id) false = (match aFind (.int .i64) (.int .i64 id) (List.zipWith entry d.lines gs) 0 with | some (some (_, v)) => some v | some none => some (.pointer none) | none => none) := by
    have t78 : tab 78 = some { ud := UD.map 3 82, size := 1, bytes := 8, zero := Value.map none, eqok := true } := rfl
    have t3 : tab 3 = some { ud := UD.int IntKind.i64, size := 1, bytes := 8, zero := Value.int IntKind.i64 0, eqok := true } := rfl
    have t82 : tab 82 = some { ud := UD.pointer 85, size := 1, bytes := 8, zero := Value.pointer none, eqok := true } := rfl
    simp only [aLookup, t78, t3, t82, entriesOf, hm, primUD, if_true]
    rfl
  rw [e1, hf]
  unfold lookV
  cases hj : findAt d.lines id with
  | none => rfl
  | some j =>
    have hlt : j < gs.length := by
      rw [R.len]
      exact (List.findIdx?_eq_some_iff_getElem.1 hj).1
    dsimp only
    rw [List.getElem?_eq_getElem hlt]
    rfl
theorem found {d : DeskM} {gs : List (Nat × Value)} {id : Int} {j : Nat} (hl : gs.length = d.lines.length) (hj : findAt d.lines id = some j) : ∃ l g, d.lines[j]? = some l ∧ gs[j]? = some g ∧ l.id = id ∧ lookV d gs id = .pointer (some ⟨g.1, 0, none⟩) := by
  obtain ⟨hlt, hp, _⟩ := List.findIdx?_eq_some_iff_getElem.1 hj
  have hlt' : j < gs.length := by rw [hl]; exact hlt
  refine ⟨d.lines[j], gs[j], List.getElem?_eq_getElem hlt, List.getElem?_eq_getElem hlt', (by simpa using hp : id = d.lines[j].id).symm, ?_⟩
  unfold lookV
  rw [hj]
  simp [List.getElem?_eq_getElem hlt']
def waitM (d : DeskM) (id : Int) : Int :=
  match findAt d.lines id with
  | some j => ((d.lines[j]?).map fun l => l.row.length).getD 0
  | none => 0
theorem waiting_ok {h : AH} {D m : Nat} {gs : List (Nat × Value)} {bs : List Nat} {clk : Nat} {d : DeskM} {id : Int} {Q : AO → AH → Prop} (R : DeskR h D m gs bs clk d) (hQ : Q (.ret (.int .i64 (waitM d id))) h) :
    C 15 [.pointer (some ⟨D, 0, none⟩), .int .i64 id] h Q := by
  refine run_15 rfl ?_
  have hD := R.desk
  have hlk := look_desk R id
  refine w_seq (w_region ?_)
  refine xo_val rfl rfl ⟨⟩ ?_
  refine xo_nil (t_norm ?_)
  refine w_seq (w_seq (w_region ?_))
  refine xo_val rfl rfl ⟨⟩ ?_
  first | refine xo_val rfl (a_bin rfl rfl (bin_eql _ _ _ _ _)) ⟨⟩ ?_ | refine xo_val rfl rfl ⟨⟩ ?_
  refine xo_val rfl rfl ⟨⟩ ?_
  first | refine xo_skip (want_no rfl (by first | rfl | assumption)) ?_ | refine xo_skip rfl ?_ | refine xo_val (want_if rfl (by first | rfl | assumption)) rfl ⟨⟩ ?_
  first | refine xo_skip (want_no rfl (by first | rfl | assumption)) ?_ | refine xo_skip rfl ?_ | refine xo_val (want_if rfl (by first | rfl | assumption)) rfl ⟨⟩ ?_
  first | refine xo_skip (want_no rfl (by first | rfl | assumption)) ?_ | refine xo_skip rfl ?_ | refine xo_val (want_if rfl (by first | rfl | assumption)) rfl ⟨⟩ ?_
  first | refine xo_skip (want_no rfl (by first | rfl | assumption)) ?_ | refine xo_skip rfl ?_ | refine xo_val (want_if rfl (by first | rfl | assumption)) (a_load_pp rfl rfl rfl rfl) ⟨⟩ ?_ | refine xo_val (want_if rfl (by first | rfl | assumption)) (a_load rfl rfl rfl (cell_of (by repeat' first | assumption | exact AH.get_push_new _ _ | exact AH.get_push_at (by first | (simp only [AH.n_push, AH.n_set]; done) | (simp only [AH.n_push, AH.n_set]; rfl)) | refine AH.get_push_old ?_ _ | apply get_same | refine get_other ?_ (by first | assumption | omega | (simp only [AH.n_push, AH.n_set]; omega) | (dsimp only; omega) | (dsimp only; simp only [AH.n_push, AH.n_set]; omega)) | refine Le.get (by assumption) ?_) rfl rfl)) ⟨⟩ ?_
  first | refine xo_skip (want_no rfl (by first | rfl | assumption)) ?_ | refine xo_skip rfl ?_ | refine xo_val (want_if rfl (by first | rfl | assumption)) rfl ⟨⟩ ?_
  refine xo_val (want_if rfl rfl) (a_lookup rfl rfl hlk) ⟨⟩ ?_
  unfold waitM at hQ
  cases hj : findAt d.lines id with
  | none =>
    rw [hj] at hQ
    have hv : lookV d gs id = .pointer none := by unfold lookV; rw [hj]
    rw [hv]
    first | refine xo_skip (want_no rfl (by first | rfl | assumption)) ?_ | refine xo_skip rfl ?_ | refine xo_val (want_if rfl (by first | rfl | assumption)) (a_bin rfl rfl (bin_eql _ _ _ _ _)) ⟨⟩ ?_ | refine xo_val (want_if rfl (by first | rfl | assumption)) rfl ⟨⟩ ?_
    first | refine xo_val rfl (a_pick_t rfl (by first | rfl | assumption) rfl) ⟨⟩ ?_ | refine xo_val rfl (a_pick_f rfl (by first | rfl | assumption) rfl) ⟨⟩ ?_
    refine xo_nil (t_norm ?_)
    refine w_cond rfl (fun _ => ?_) (fun e => by simp at e)
    refine w_seq (w_region ?_)
    refine xo_val rfl rfl ⟨⟩ ?_
    refine xo_nil (t_norm ?_)
    exact w_ret (ret_of rfl hQ)
  | some j =>
    obtain ⟨l, g, hl, hg, _, hv⟩ := found R.len hj
    rw [hj] at hQ
    simp only [hl, Option.map_some, Option.getD_some] at hQ
    obtain ⟨hL, hrow⟩ := R.line j l g hl hg
    rw [← List.length_map (f := foundV)] at hQ
    rw [hv] at hlk ⊢
    first | refine xo_skip (want_no rfl (by first | rfl | assumption)) ?_ | refine xo_skip rfl ?_ | refine xo_val (want_if rfl (by first | rfl | assumption)) (a_bin rfl rfl (bin_eql _ _ _ _ _)) ⟨⟩ ?_ | refine xo_val (want_if rfl (by first | rfl | assumption)) rfl ⟨⟩ ?_
    first | refine xo_val rfl (a_pick_t rfl (by first | rfl | assumption) rfl) ⟨⟩ ?_ | refine xo_val rfl (a_pick_f rfl (by first | rfl | assumption) rfl) ⟨⟩ ?_
    refine xo_nil (t_norm ?_)
    refine w_cond rfl (fun e => by simp at e) fun _ => ?_
    refine w_skip (t_norm (w_seq (w_region ?_)))
    refine xo_val rfl rfl ⟨⟩ ?_
    refine xo_val rfl rfl ⟨⟩ ?_
    refine xo_val rfl rfl ⟨⟩ ?_
    first | refine xo_val rfl (a_load_pp rfl rfl rfl rfl) ⟨⟩ ?_ | refine xo_val rfl (a_load rfl rfl rfl (cell_of (by repeat' first | assumption | exact AH.get_push_new _ _ | exact AH.get_push_at (by first | (simp only [AH.n_push, AH.n_set]; done) | (simp only [AH.n_push, AH.n_set]; rfl)) | refine AH.get_push_old ?_ _ | apply get_same | refine get_other ?_ (by first | assumption | omega | (simp only [AH.n_push, AH.n_set]; omega) | (dsimp only; omega) | (dsimp only; simp only [AH.n_push, AH.n_set]; omega)) | refine Le.get (by assumption) ?_) rfl rfl)) ⟨⟩ ?_
    refine xo_val rfl rfl ⟨⟩ ?_
    refine xo_val rfl (a_lookup rfl rfl hlk) ⟨⟩ ?_
    refine xo_val rfl rfl ⟨⟩ ?_
    refine xo_val rfl rfl ⟨⟩ ?_
    first | refine xo_val rfl (a_load_pp rfl rfl rfl rfl) ⟨⟩ ?_ | refine xo_val rfl (a_load rfl rfl rfl (cell_of (by repeat' first | assumption | exact AH.get_push_new _ _ | exact AH.get_push_at (by first | (simp only [AH.n_push, AH.n_set]; done) | (simp only [AH.n_push, AH.n_set]; rfl)) | refine AH.get_push_old ?_ _ | apply get_same | refine get_other ?_ (by first | assumption | omega | (simp only [AH.n_push, AH.n_set]; omega) | (dsimp only; omega) | (dsimp only; simp only [AH.n_push, AH.n_set]; omega)) | refine Le.get (by assumption) ?_) rfl rfl)) ⟨⟩ ?_
    refine xo_val rfl (a_len rfl rfl rfl rfl (hrow.len (T := tab) (t := 83) rfl rfl)) ⟨⟩ ?_
    refine xo_val rfl rfl ⟨⟩ ?_
    refine xo_nil (t_norm ?_)
    exact w_ret (ret_of rfl hQ)
def lostM (d : DeskM) (id : Int) : Bool :=
  match findAt d.lines id with
  | some j => ((d.lines[j]?).map fun l => l.lost).getD false
  | none => false
theorem lost_ok {h : AH} {D m : Nat} {gs : List (Nat × Value)} {bs : List Nat} {clk : Nat} {d : DeskM} {id : Int} {Q : AO → AH → Prop} (R : DeskR h D m gs bs clk d) (hQ : Q (.ret (.bool (lostM d id))) h) :
    C 16 [.pointer (some ⟨D, 0, none⟩), .int .i64 id] h Q := by
  refine run_16 rfl ?_
  have hD := R.desk
  have hlk := look_desk R id
  refine w_seq (w_region ?_)
  refine xo_val rfl rfl ⟨⟩ ?_
  refine xo_nil (t_norm ?_)
  refine w_seq (w_region ?_)
  refine xo_val rfl rfl ⟨⟩ ?_
  first | refine xo_val rfl (a_bin rfl rfl (bin_neq _ _ _ _ _)) ⟨⟩ ?_ | refine xo_val rfl rfl ⟨⟩ ?_
  refine xo_val rfl rfl ⟨⟩ ?_
  first | refine xo_skip (want_no rfl (by first | rfl | assumption)) ?_ | refine xo_skip rfl ?_ | refine xo_val (want_if rfl (by first | rfl | assumption)) rfl ⟨⟩ ?_
  first | refine xo_skip (want_no rfl (by first | rfl | assumption)) ?_ | refine xo_skip rfl ?_ | refine xo_val (want_if rfl (by first | rfl | assumption)) rfl ⟨⟩ ?_
  first | refine xo_skip (want_no rfl (by first | rfl | assumption)) ?_ | refine xo_skip rfl ?_ | refine xo_val (want_if rfl (by first | rfl | assumption)) rfl ⟨⟩ ?_
  first | refine xo_skip (want_no rfl (by first | rfl | assumption)) ?_ | refine xo_skip rfl ?_ | refine xo_val (want_if rfl (by first | rfl | assumption)) (a_load_pp rfl rfl rfl rfl) ⟨⟩ ?_ | refine xo_val (want_if rfl (by first | rfl | assumption)) (a_load rfl rfl rfl (cell_of (by repeat' first | assumption | exact AH.get_push_new _ _ | exact AH.get_push_at (by first | (simp only [AH.n_push, AH.n_set]; done) | (simp only [AH.n_push, AH.n_set]; rfl)) | refine AH.get_push_old ?_ _ | apply get_same | refine get_other ?_ (by first | assumption | omega | (simp only [AH.n_push, AH.n_set]; omega) | (dsimp only; omega) | (dsimp only; simp only [AH.n_push, AH.n_set]; omega)) | refine Le.get (by assumption) ?_) rfl rfl)) ⟨⟩ ?_
  first | refine xo_skip (want_no rfl (by first | rfl | assumption)) ?_ | refine xo_skip rfl ?_ | refine xo_val (want_if rfl (by first | rfl | assumption)) rfl ⟨⟩ ?_
  refine xo_val (want_if rfl rfl) (a_lookup rfl rfl hlk) ⟨⟩ ?_
  unfold lostM at hQ
  cases hj : findAt d.lines id with
  | none =>
    rw [hj] at hQ
    have hv : lookV d gs id = .pointer none := by unfold lookV; rw [hj]
    rw [hv]
    first | refine xo_skip (want_no rfl (by first | rfl | assumption)) ?_ | refine xo_skip rfl ?_ | refine xo_val (want_if rfl (by first | rfl | assumption)) (a_bin rfl rfl (bin_neq _ _ _ _ _)) ⟨⟩ ?_ | refine xo_val (want_if rfl (by first | rfl | assumption)) rfl ⟨⟩ ?_
    first | refine xo_val rfl (a_pick_t rfl (by first | rfl | assumption) rfl) ⟨⟩ ?_ | refine xo_val rfl (a_pick_f rfl (by first | rfl | assumption) rfl) ⟨⟩ ?_
    refine xo_val rfl rfl ⟨⟩ ?_
    first | refine xo_skip (want_no rfl (by first | rfl | assumption)) ?_ | refine xo_skip rfl ?_ | refine xo_val (want_if rfl (by first | rfl | assumption)) rfl ⟨⟩ ?_
    first | refine xo_skip (want_no rfl (by first | rfl | assumption)) ?_ | refine xo_skip rfl ?_ | refine xo_val (want_if rfl (by first | rfl | assumption)) rfl ⟨⟩ ?_
    first | refine xo_skip (want_no rfl (by first | rfl | assumption)) ?_ | refine xo_skip rfl ?_ | refine xo_val (want_if rfl (by first | rfl | assumption)) rfl ⟨⟩ ?_
    first | refine xo_skip (want_no rfl (by first | rfl | assumption)) ?_ | refine xo_skip rfl ?_ | refine xo_val (want_if rfl (by first | rfl | assumption)) (a_load_pp rfl rfl rfl rfl) ⟨⟩ ?_ | refine xo_val (want_if rfl (by first | rfl | assumption)) (a_load rfl rfl rfl (cell_of (by repeat' first | assumption | exact AH.get_push_new _ _ | exact AH.get_push_at (by first | (simp only [AH.n_push, AH.n_set]; done) | (simp only [AH.n_push, AH.n_set]; rfl)) | refine AH.get_push_old ?_ _ | apply get_same | refine get_other ?_ (by first | assumption | omega | (simp only [AH.n_push, AH.n_set]; omega) | (dsimp only; omega) | (dsimp only; simp only [AH.n_push, AH.n_set]; omega)) | refine Le.get (by assumption) ?_) rfl rfl)) ⟨⟩ ?_
    first | refine xo_skip (want_no rfl (by first | rfl | assumption)) ?_ | refine xo_skip rfl ?_ | refine xo_val (want_if rfl (by first | rfl | assumption)) rfl ⟨⟩ ?_
    first | refine xo_skip (want_no rfl (by first | rfl | assumption)) ?_ | refine xo_skip rfl ?_ | refine xo_val (want_if rfl (by first | rfl | assumption)) rfl ⟨⟩ ?_
    first | refine xo_skip (want_no rfl (by first | rfl | assumption)) ?_ | refine xo_skip rfl ?_ | refine xo_val (want_if rfl (by first | rfl | assumption)) rfl ⟨⟩ ?_
    first | refine xo_skip (want_no rfl (by first | rfl | assumption)) ?_ | refine xo_skip rfl ?_ | refine xo_val (want_if rfl (by first | rfl | assumption)) rfl ⟨⟩ ?_
    first | refine xo_skip (want_no rfl (by first | rfl | assumption)) ?_ | refine xo_skip rfl ?_ | refine xo_val (want_if rfl (by first | rfl | assumption)) (a_load_pp rfl rfl rfl rfl) ⟨⟩ ?_ | refine xo_val (want_if rfl (by first | rfl | assumption)) (a_load rfl rfl rfl (cell_of (by repeat' first | assumption | exact AH.get_push_new _ _ | exact AH.get_push_at (by first | (simp only [AH.n_push, AH.n_set]; done) | (simp only [AH.n_push, AH.n_set]; rfl)) | refine AH.get_push_old ?_ _ | apply get_same | refine get_other ?_ (by first | assumption | omega | (simp only [AH.n_push, AH.n_set]; omega) | (dsimp only; omega) | (dsimp only; simp only [AH.n_push, AH.n_set]; omega)) | refine Le.get (by assumption) ?_) rfl rfl)) ⟨⟩ ?_
    first | refine xo_val rfl (a_pick_t rfl (by first | rfl | assumption) rfl) ⟨⟩ ?_ | refine xo_val rfl (a_pick_f rfl (by first | rfl | assumption) rfl) ⟨⟩ ?_
    refine xo_val rfl rfl ⟨⟩ ?_
    refine xo_nil (t_norm ?_)
    exact w_ret (ret_of rfl hQ)
  | some j =>
    obtain ⟨l, g, hl, hg, _, hv⟩ := found R.len hj
    rw [hj] at hQ
    simp only [hl, Option.map_some, Option.getD_some] at hQ
    obtain ⟨hL, hrow⟩ := R.line j l g hl hg
    rw [hv] at hlk ⊢
    first | refine xo_skip (want_no rfl (by first | rfl | assumption)) ?_ | refine xo_skip rfl ?_ | refine xo_val (want_if rfl (by first | rfl | assumption)) (a_bin rfl rfl (bin_neq _ _ _ _ _)) ⟨⟩ ?_ | refine xo_val (want_if rfl (by first | rfl | assumption)) rfl ⟨⟩ ?_
    first | refine xo_val rfl (a_pick_t rfl (by first | rfl | assumption) rfl) ⟨⟩ ?_ | refine xo_val rfl (a_pick_f rfl (by first | rfl | assumption) rfl) ⟨⟩ ?_
    refine xo_val rfl rfl ⟨⟩ ?_
    first | refine xo_skip (want_no rfl (by first | rfl | assumption)) ?_ | refine xo_skip rfl ?_ | refine xo_val (want_if rfl (by first | rfl | assumption)) rfl ⟨⟩ ?_
    first | refine xo_skip (want_no rfl (by first | rfl | assumption)) ?_ | refine xo_skip rfl ?_ | refine xo_val (want_if rfl (by first | rfl | assumption)) rfl ⟨⟩ ?_
    first | refine xo_skip (want_no rfl (by first | rfl | assumption)) ?_ | refine xo_skip rfl ?_ | refine xo_val (want_if rfl (by first | rfl | assumption)) rfl ⟨⟩ ?_
    first | refine xo_skip (want_no rfl (by first | rfl | assumption)) ?_ | refine xo_skip rfl ?_ | refine xo_val (want_if rfl (by first | rfl | assumption)) (a_load_pp rfl rfl rfl rfl) ⟨⟩ ?_ | refine xo_val (want_if rfl (by first | rfl | assumption)) (a_load rfl rfl rfl (cell_of (by repeat' first | assumption | exact AH.get_push_new _ _ | exact AH.get_push_at (by first | (simp only [AH.n_push, AH.n_set]; done) | (simp only [AH.n_push, AH.n_set]; rfl)) | refine AH.get_push_old ?_ _ | apply get_same | refine get_other ?_ (by first | assumption | omega | (simp only [AH.n_push, AH.n_set]; omega) | (dsimp only; omega) | (dsimp only; simp only [AH.n_push, AH.n_set]; omega)) | refine Le.get (by assumption) ?_) rfl rfl)) ⟨⟩ ?_
    first | refine xo_skip (want_no rfl (by first | rfl | assumption)) ?_ | refine xo_skip rfl ?_ | refine xo_val (want_if rfl (by first | rfl | assumption)) rfl ⟨⟩ ?_
    refine xo_val (want_if rfl rfl) (a_lookup rfl rfl hlk) ⟨⟩ ?_
    first | refine xo_skip (want_no rfl (by first | rfl | assumption)) ?_ | refine xo_skip rfl ?_ | refine xo_val (want_if rfl (by first | rfl | assumption)) rfl ⟨⟩ ?_
    first | refine xo_skip (want_no rfl (by first | rfl | assumption)) ?_ | refine xo_skip rfl ?_ | refine xo_val (want_if rfl (by first | rfl | assumption)) rfl ⟨⟩ ?_
    first | refine xo_skip (want_no rfl (by first | rfl | assumption)) ?_ | refine xo_skip rfl ?_ | refine xo_val (want_if rfl (by first | rfl | assumption)) (a_load_pp rfl rfl rfl rfl) ⟨⟩ ?_ | refine xo_val (want_if rfl (by first | rfl | assumption)) (a_load rfl rfl rfl (cell_of (by repeat' first | assumption | exact AH.get_push_new _ _ | exact AH.get_push_at (by first | (simp only [AH.n_push, AH.n_set]; done) | (simp only [AH.n_push, AH.n_set]; rfl)) | refine AH.get_push_old ?_ _ | apply get_same | refine get_other ?_ (by first | assumption | omega | (simp only [AH.n_push, AH.n_set]; omega) | (dsimp only; omega) | (dsimp only; simp only [AH.n_push, AH.n_set]; omega)) | refine Le.get (by assumption) ?_) rfl rfl)) ⟨⟩ ?_
    first | refine xo_val rfl (a_pick_t rfl (by first | rfl | assumption) rfl) ⟨⟩ ?_ | refine xo_val rfl (a_pick_f rfl (by first | rfl | assumption) rfl) ⟨⟩ ?_
    refine xo_val rfl rfl ⟨⟩ ?_
    refine xo_nil (t_norm ?_)
    exact w_ret (ret_of rfl hQ)
end Go.AI.Q
