/-
  THE QUEUE'S DESK: publish: one hit. (Own work; steps printed by wip/gen/walk.py.)
-/
import Derived.Test.YtkabedbkkbijhaaB9
namespace Go.AI.Q
open Go Go.AI Go.Proofs
attribute [local irreducible] xOps xw
theorem t83 : elemOfSlice tab 83 = some { ud := UD.struct [(0, 56, false), (1, 30, false)], size := 2, bytes := 48, zero := Value.agg { toList := [Value.slice none 0 0, Value.slice none 0 0] }, eqok := true } := rfl
def pubBody : XC := XC.block 3 ((XC.region x26_11).seq (XC.block 4 ((XC.region x26_12).seq (XC.cond (Operand.tmp 57) (XC.region x26_13) ((XC.region x26_14).seq (XC.cond (Operand.tmp 70) ((XC.region x26_15).seq (XC.region x26_16)) (XC.region x26_17)))))))
theorem body_ok {h : AH} {D m : Nat} {gs0 : List (Nat × Value)} {bs : List Nat} {clk l : Nat} {cv : List Value} {L : AObj} {own : List Nat} {h1 : AH} {refs : List Ref} {d' : DeskM} {gs : List (Nat × Value)} {rv : Value} {x : Hit} {n1 : Nat} {fr : Fr} {Q : XQ}
    (P : PJ h D m gs0 bs clk l cv L own h1 refs d' gs rv) (hown : ∀ b ∈ own, b < h1.n) (f3 : fr 3 = .pointer (some ⟨h.n, 0, none⟩)) (f8 : fr 8 = .pointer (some ⟨h.n + 3, 0, none⟩)) (f12 : fr 12 = .pointer (some ⟨n1, 0, none⟩))
    (hn1 : h1.get n1 = some (.row [.int .i64 x.id, setsV x.f.sets, refsV x.f.refs] true 0)) (hbig : refs.length + x.f.refs.length ≤ 100000000) (ho : d'.o ≤ 4096) (hn4 : n1 ≠ h.n + 2 ∧ n1 ∉ rowBlk rv ∧ n1 ∉ Fp D m gs)
    (hQ : ∀ fr' h' gs' rv', h1.n ≤ h'.n → (∀ b ∈ own, ∀ o, h1.get b = some o → h'.get b = some o) → PJ h D m gs0 bs clk l cv L own h' (hitM (refs, d') x).1 (hitM (refs, d') x).2 gs' rv' → Q .norm fr' h') :
    xw tab C Y pubBody fr h1 Q := by
  rw [← fr_fix f3, ← fr_fix f8, ← fr_fix f12]
  have hD := P.R.desk
  have hp3 := P.p3
  have hp7 := P.p7
  have hp8 := P.p8
  have hlk := look_desk P.R x.id
  have hp8n := AH.get_lt hp8
  -- what the refs come to
  have gone : ∀ (fr : Fr) (h2 : AH) (d2 : DeskM) (gs2 : List (Nat × Value)) (K : Fr → AH → Prop) (Kp : Value → AH → Prop) (r : List XOp) (o : XOp), o.guard = none → o.chk = [] →
      aOp tab fr h2 o.op = some (.call 32 [foundV x.f, .pointer (some ⟨h.n + 2, 0, none⟩)]) → PJ h D m gs0 bs clk l cv L own h2 refs d2 gs2 rv → h1.n ≤ h2.n →
      (∀ fr' h3 rv', h2.n ≤ h3.n → (∀ b ∈ own, ∀ o, h2.get b = some o → h3.get b = some o) → PJ h D m gs0 bs clk l cv L own h3 (refs ++ x.f.refs) d2 gs2 rv' → xOps tab C Y Kp r fr' h3 K) → xOps tab C Y Kp (o :: r) fr h2 K := by
    intro fr h2 d2 gs2 K Kp r o hg hc ha P2 hn2 hk
    refine xo_call (by rw [hg]; rfl) ha (gone_ok (f := x.f) P2.p7 P2.acc (fun hm => by have := (P2.rvs _ hm).1; omega) (by omega) fun h3 rv' hB h7 A hf hnot => ?_)
    refine ⟨by rw [hc]; trivial, hk _ _ rv' hB.1 (fun b hb o e => hB.get e ?_) (P2.gone hB h7 A hf fun b hb => by have := hown b hb; omega)⟩
    intro hm
    have hb2 := P2.ow b hb
    rcases List.mem_cons.1 hm with rfl | hm
    · omega
    · exact (P2.rvs b hm).2.1 hb
  unfold pubBody
  refine w_block ?_
  refine w_seq (w_region ?_)
  first | refine xo_val rfl (a_load_pp rfl rfl rfl rfl) ⟨⟩ ?_ | refine xo_val rfl (a_load rfl rfl rfl (cell_of (by repeat' first | assumption | exact AH.get_push_new _ _ | exact AH.get_push_at (by first | (simp only [AH.n_push, AH.n_set]; done) | (simp only [AH.n_push, AH.n_set]; rfl)) | refine AH.get_push_old ?_ _ | apply get_same | refine get_other ?_ (by first | assumption | omega | (simp only [AH.n_push, AH.n_set]; omega) | (dsimp only; omega) | (dsimp only; simp only [AH.n_push, AH.n_set]; omega)) | refine Le.get (by assumption) ?_) rfl rfl)) ⟨⟩ ?_
  refine xo_val rfl rfl ⟨⟩ ?_
  refine xo_val rfl rfl ⟨⟩ ?_
  first | refine xo_val rfl (a_load_pp rfl rfl rfl rfl) ⟨⟩ ?_ | refine xo_val rfl (a_load rfl rfl rfl (cell_of (by repeat' first | assumption | exact AH.get_push_new _ _ | exact AH.get_push_at (by first | (simp only [AH.n_push, AH.n_set]; done) | (simp only [AH.n_push, AH.n_set]; rfl)) | refine AH.get_push_old ?_ _ | apply get_same | refine get_other ?_ (by first | assumption | omega | (simp only [AH.n_push, AH.n_set]; omega) | (dsimp only; omega) | (dsimp only; simp only [AH.n_push, AH.n_set]; omega)) | refine Le.get (by assumption) ?_) rfl rfl)) ⟨⟩ ?_
  refine xo_val rfl rfl ⟨⟩ ?_
  first | refine xo_val rfl (a_load_pp rfl rfl rfl rfl) ⟨⟩ ?_ | refine xo_val rfl (a_load rfl rfl rfl (cell_of (by repeat' first | assumption | exact AH.get_push_new _ _ | exact AH.get_push_at (by first | (simp only [AH.n_push, AH.n_set]; done) | (simp only [AH.n_push, AH.n_set]; rfl)) | refine AH.get_push_old ?_ _ | apply get_same | refine get_other ?_ (by first | assumption | omega | (simp only [AH.n_push, AH.n_set]; omega) | (dsimp only; omega) | (dsimp only; simp only [AH.n_push, AH.n_set]; omega)) | refine Le.get (by assumption) ?_) rfl rfl)) ⟨⟩ ?_
  refine xo_val rfl (a_lookup rfl rfl hlk) ⟨⟩ ?_
  refine xo_val rfl rfl ⟨⟩ ?_
  refine xo_nil (t_norm (w_block ?_))
  cases hj : findAt d'.lines x.id with
  | none =>
    have hv : lookV d' gs x.id = .pointer none := by unfold lookV; rw [hj]
    rw [hv]
    have hM : hitM (refs, d') x = (refs ++ x.f.refs, d') := by unfold hitM; simp only [hj]
    refine w_seq (w_region ?_)
    refine xo_val rfl rfl ⟨⟩ ?_
    first | refine xo_val rfl (a_bin rfl rfl (bin_eql _ _ _ _ _)) ⟨⟩ ?_ | refine xo_val rfl rfl ⟨⟩ ?_
    refine xo_val rfl rfl ⟨⟩ ?_
    first | refine xo_skip (want_no rfl (by first | rfl | assumption)) ?_ | refine xo_skip rfl ?_ | refine xo_val (want_if rfl (by first | rfl | assumption)) rfl ⟨⟩ ?_
    first | refine xo_skip (want_no rfl (by first | rfl | assumption)) ?_ | refine xo_skip rfl ?_ | refine xo_val (want_if rfl (by first | rfl | assumption)) rfl ⟨⟩ ?_
    first | refine xo_skip (want_no rfl (by first | rfl | assumption)) ?_ | refine xo_skip rfl ?_ | refine xo_val (want_if rfl (by first | rfl | assumption)) rfl ⟨⟩ ?_
    first | refine xo_skip (want_no rfl (by first | rfl | assumption)) ?_ | refine xo_skip rfl ?_ | refine xo_val (want_if rfl (by first | rfl | assumption)) (a_load_pp rfl rfl rfl rfl) ⟨⟩ ?_ | refine xo_val (want_if rfl (by first | rfl | assumption)) (a_load rfl rfl rfl (cell_of (by repeat' first | assumption | exact AH.get_push_new _ _ | exact AH.get_push_at (by first | (simp only [AH.n_push, AH.n_set]; done) | (simp only [AH.n_push, AH.n_set]; rfl)) | refine AH.get_push_old ?_ _ | apply get_same | refine get_other ?_ (by first | assumption | omega | (simp only [AH.n_push, AH.n_set]; omega) | (dsimp only; omega) | (dsimp only; simp only [AH.n_push, AH.n_set]; omega)) | refine Le.get (by assumption) ?_) rfl rfl)) ⟨⟩ ?_
    first | refine xo_val rfl (a_pick_t rfl (by first | rfl | assumption) rfl) ⟨⟩ ?_ | refine xo_val rfl (a_pick_f rfl (by first | rfl | assumption) rfl) ⟨⟩ ?_
    refine xo_val rfl rfl ⟨⟩ ?_
    refine xo_nil (t_norm ?_)
    refine w_cond rfl (fun _ => ?_) (fun e => by cases e)
    refine w_region ?_
    first | refine xo_val rfl (a_load_pp rfl rfl rfl rfl) ⟨⟩ ?_ | refine xo_val rfl (a_load rfl rfl rfl (cell_of (by repeat' first | assumption | exact AH.get_push_new _ _ | exact AH.get_push_at (by first | (simp only [AH.n_push, AH.n_set]; done) | (simp only [AH.n_push, AH.n_set]; rfl)) | refine AH.get_push_old ?_ _ | apply get_same | refine get_other ?_ (by first | assumption | omega | (simp only [AH.n_push, AH.n_set]; omega) | (dsimp only; omega) | (dsimp only; simp only [AH.n_push, AH.n_set]; omega)) | refine Le.get (by assumption) ?_) rfl rfl)) ⟨⟩ ?_
    refine xo_val rfl rfl ⟨⟩ ?_
    first | refine xo_val rfl (a_loads_pp rfl rfl rfl rfl) ⟨⟩ ?_ | refine xo_val rfl (a_loads rfl rfl rfl (cells_of (by repeat' first | assumption | exact AH.get_push_new _ _ | exact AH.get_push_at (by first | (simp only [AH.n_push, AH.n_set]; done) | (simp only [AH.n_push, AH.n_set]; rfl)) | refine AH.get_push_old ?_ _ | apply get_same | refine get_other ?_ (by first | assumption | omega | (simp only [AH.n_push, AH.n_set]; omega) | (dsimp only; omega) | (dsimp only; simp only [AH.n_push, AH.n_set]; omega)) | refine Le.get (by assumption) ?_) rfl rfl rfl)) ⟨⟩ ?_
    refine gone _ _ _ _ _ _ _ _ rfl rfl rfl P (Nat.le_refl _) fun fr' h3 rv' hn3 hk3 P3 => ?_
    refine xo_nil (b_norm (b_norm ?_))
    rw [hM] at hQ
    exact hQ _ _ _ _ hn3 hk3 P3
  | some j =>
    obtain ⟨ln, g, hl, hg, hid, hv⟩ := found P.R.len hj
    obtain ⟨hL, hrow⟩ := P.R.line j ln g hl hg
    rw [hv] at hlk ⊢
    have hgF : g.1 ∈ Fp D m gs := Fp_line hg (.inl rfl)
    have hg7 := (P.fp _ hgF)
    cases hlost : ln.lost with
    | true =>
      have hM : hitM (refs, d') x = (refs ++ x.f.refs, d') := by unfold hitM; simp only [hj, hl, hlost, if_true]
      rw [hlost] at hL
      refine w_seq (w_region ?_)
      refine xo_val rfl rfl ⟨⟩ ?_
      first | refine xo_val rfl (a_bin rfl rfl (bin_eql _ _ _ _ _)) ⟨⟩ ?_ | refine xo_val rfl rfl ⟨⟩ ?_
      refine xo_val rfl rfl ⟨⟩ ?_
      first | refine xo_skip (want_no rfl (by first | rfl | assumption)) ?_ | refine xo_skip rfl ?_ | refine xo_val (want_if rfl (by first | rfl | assumption)) rfl ⟨⟩ ?_
      first | refine xo_skip (want_no rfl (by first | rfl | assumption)) ?_ | refine xo_skip rfl ?_ | refine xo_val (want_if rfl (by first | rfl | assumption)) rfl ⟨⟩ ?_
      first | refine xo_skip (want_no rfl (by first | rfl | assumption)) ?_ | refine xo_skip rfl ?_ | refine xo_val (want_if rfl (by first | rfl | assumption)) rfl ⟨⟩ ?_
      first | refine xo_skip (want_no rfl (by first | rfl | assumption)) ?_ | refine xo_skip rfl ?_ | refine xo_val (want_if rfl (by first | rfl | assumption)) (a_load_pp rfl rfl rfl rfl) ⟨⟩ ?_ | refine xo_val (want_if rfl (by first | rfl | assumption)) (a_load rfl rfl rfl (cell_of (by repeat' first | assumption | exact AH.get_push_new _ _ | exact AH.get_push_at (by first | (simp only [AH.n_push, AH.n_set]; done) | (simp only [AH.n_push, AH.n_set]; rfl)) | refine AH.get_push_old ?_ _ | apply get_same | refine get_other ?_ (by first | assumption | omega | (simp only [AH.n_push, AH.n_set]; omega) | (dsimp only; omega) | (dsimp only; simp only [AH.n_push, AH.n_set]; omega)) | refine Le.get (by assumption) ?_) rfl rfl)) ⟨⟩ ?_
      first | refine xo_val rfl (a_pick_t rfl (by first | rfl | assumption) rfl) ⟨⟩ ?_ | refine xo_val rfl (a_pick_f rfl (by first | rfl | assumption) rfl) ⟨⟩ ?_
      refine xo_val rfl rfl ⟨⟩ ?_
      refine xo_nil (t_norm ?_)
      refine w_cond rfl (fun _ => ?_) (fun e => by cases e)
      refine w_region ?_
      first | refine xo_val rfl (a_load_pp rfl rfl rfl rfl) ⟨⟩ ?_ | refine xo_val rfl (a_load rfl rfl rfl (cell_of (by repeat' first | assumption | exact AH.get_push_new _ _ | exact AH.get_push_at (by first | (simp only [AH.n_push, AH.n_set]; done) | (simp only [AH.n_push, AH.n_set]; rfl)) | refine AH.get_push_old ?_ _ | apply get_same | refine get_other ?_ (by first | assumption | omega | (simp only [AH.n_push, AH.n_set]; omega) | (dsimp only; omega) | (dsimp only; simp only [AH.n_push, AH.n_set]; omega)) | refine Le.get (by assumption) ?_) rfl rfl)) ⟨⟩ ?_
      refine xo_val rfl rfl ⟨⟩ ?_
      first | refine xo_val rfl (a_loads_pp rfl rfl rfl rfl) ⟨⟩ ?_ | refine xo_val rfl (a_loads rfl rfl rfl (cells_of (by repeat' first | assumption | exact AH.get_push_new _ _ | exact AH.get_push_at (by first | (simp only [AH.n_push, AH.n_set]; done) | (simp only [AH.n_push, AH.n_set]; rfl)) | refine AH.get_push_old ?_ _ | apply get_same | refine get_other ?_ (by first | assumption | omega | (simp only [AH.n_push, AH.n_set]; omega) | (dsimp only; omega) | (dsimp only; simp only [AH.n_push, AH.n_set]; omega)) | refine Le.get (by assumption) ?_) rfl rfl rfl)) ⟨⟩ ?_
      refine gone _ _ _ _ _ _ _ _ rfl rfl rfl P (Nat.le_refl _) fun fr' h3 rv' hn3 hk3 P3 => ?_
      refine xo_nil (b_norm (b_norm ?_))
      rw [hM] at hQ
      exact hQ _ _ _ _ hn3 hk3 P3
    | false =>
      rw [hlost] at hL
      refine w_seq (w_region ?_)
      refine xo_val rfl rfl ⟨⟩ ?_
      first | refine xo_val rfl (a_bin rfl rfl (bin_eql _ _ _ _ _)) ⟨⟩ ?_ | refine xo_val rfl rfl ⟨⟩ ?_
      refine xo_val rfl rfl ⟨⟩ ?_
      first | refine xo_skip (want_no rfl (by first | rfl | assumption)) ?_ | refine xo_skip rfl ?_ | refine xo_val (want_if rfl (by first | rfl | assumption)) rfl ⟨⟩ ?_
      first | refine xo_skip (want_no rfl (by first | rfl | assumption)) ?_ | refine xo_skip rfl ?_ | refine xo_val (want_if rfl (by first | rfl | assumption)) rfl ⟨⟩ ?_
      first | refine xo_skip (want_no rfl (by first | rfl | assumption)) ?_ | refine xo_skip rfl ?_ | refine xo_val (want_if rfl (by first | rfl | assumption)) rfl ⟨⟩ ?_
      first | refine xo_skip (want_no rfl (by first | rfl | assumption)) ?_ | refine xo_skip rfl ?_ | refine xo_val (want_if rfl (by first | rfl | assumption)) (a_load_pp rfl rfl rfl rfl) ⟨⟩ ?_ | refine xo_val (want_if rfl (by first | rfl | assumption)) (a_load rfl rfl rfl (cell_of (by repeat' first | assumption | exact AH.get_push_new _ _ | exact AH.get_push_at (by first | (simp only [AH.n_push, AH.n_set]; done) | (simp only [AH.n_push, AH.n_set]; rfl)) | refine AH.get_push_old ?_ _ | apply get_same | refine get_other ?_ (by first | assumption | omega | (simp only [AH.n_push, AH.n_set]; omega) | (dsimp only; omega) | (dsimp only; simp only [AH.n_push, AH.n_set]; omega)) | refine Le.get (by assumption) ?_) rfl rfl)) ⟨⟩ ?_
      first | refine xo_val rfl (a_pick_t rfl (by first | rfl | assumption) rfl) ⟨⟩ ?_ | refine xo_val rfl (a_pick_f rfl (by first | rfl | assumption) rfl) ⟨⟩ ?_
      refine xo_val rfl rfl ⟨⟩ ?_
      refine xo_nil (t_norm ?_)
      refine w_cond rfl (fun e => by cases e) (fun _ => ?_)
      refine w_seq (w_region ?_)
      refine xo_val rfl rfl ⟨⟩ ?_
      refine xo_val rfl rfl ⟨⟩ ?_
      refine xo_val rfl rfl ⟨⟩ ?_
      first | refine xo_val rfl (a_load_pp rfl rfl rfl rfl) ⟨⟩ ?_ | refine xo_val rfl (a_load rfl rfl rfl (cell_of (by repeat' first | assumption | exact AH.get_push_new _ _ | exact AH.get_push_at (by first | (simp only [AH.n_push, AH.n_set]; done) | (simp only [AH.n_push, AH.n_set]; rfl)) | refine AH.get_push_old ?_ _ | apply get_same | refine get_other ?_ (by first | assumption | omega | (simp only [AH.n_push, AH.n_set]; omega) | (dsimp only; omega) | (dsimp only; simp only [AH.n_push, AH.n_set]; omega)) | refine Le.get (by assumption) ?_) rfl rfl)) ⟨⟩ ?_
      refine xo_val rfl (a_len (v := .int .i64 ln.row.length) rfl rfl rfl rfl (by have := hrow.len (T := tab) (h' := h1) (t := 83) rfl rfl; rw [List.length_map] at this; exact this)) ⟨⟩ ?_
      first | refine xo_val rfl (a_load_pp rfl rfl rfl rfl) ⟨⟩ ?_ | refine xo_val rfl (a_load rfl rfl rfl (cell_of (by repeat' first | assumption | exact AH.get_push_new _ _ | exact AH.get_push_at (by first | (simp only [AH.n_push, AH.n_set]; done) | (simp only [AH.n_push, AH.n_set]; rfl)) | refine AH.get_push_old ?_ _ | apply get_same | refine get_other ?_ (by first | assumption | omega | (simp only [AH.n_push, AH.n_set]; omega) | (dsimp only; omega) | (dsimp only; simp only [AH.n_push, AH.n_set]; omega)) | refine Le.get (by assumption) ?_) rfl rfl)) ⟨⟩ ?_
      refine xo_val rfl rfl ⟨⟩ ?_
      refine xo_val rfl rfl ⟨⟩ ?_
      refine xo_val rfl rfl ⟨⟩ ?_
      first | refine xo_val rfl (a_load_pp rfl rfl rfl rfl) ⟨⟩ ?_ | refine xo_val rfl (a_load rfl rfl rfl (cell_of (by repeat' first | assumption | exact AH.get_push_new _ _ | exact AH.get_push_at (by first | (simp only [AH.n_push, AH.n_set]; done) | (simp only [AH.n_push, AH.n_set]; rfl)) | refine AH.get_push_old ?_ _ | apply get_same | refine get_other ?_ (by first | assumption | omega | (simp only [AH.n_push, AH.n_set]; omega) | (dsimp only; omega) | (dsimp only; simp only [AH.n_push, AH.n_set]; omega)) | refine Le.get (by assumption) ?_) rfl rfl)) ⟨⟩ ?_
      refine xo_val rfl (a_bin rfl rfl (bin_geq _ _ _ _ _)) ⟨⟩ ?_
      refine xo_val rfl rfl ⟨⟩ ?_
      refine xo_nil (t_norm ?_)
      by_cases hfull : (ln.row.length : Int) ≥ d'.o
      · have hd : decide ((ln.row.length : Int) ≥ d'.o) = true := decide_eq_true hfull
        have hM : hitM (refs, d') x = (refs ++ x.f.refs, d'.setAt j { ln with lost := true }) := by unfold hitM; simp [hj, hl, hlost, hfull]
        refine w_cond rfl (fun _ => ?_) (fun e => by rw [hd] at e; cases e)
        refine w_seq (w_region ?_)
        refine xo_val rfl rfl ⟨⟩ ?_
        refine xo_val rfl rfl ⟨⟩ ?_
        refine xo_val rfl rfl ⟨⟩ ?_
        refine xo_val rfl (a_store rfl rfl rfl rfl rfl (store_of hL rfl rfl)) ⟨⟩ ?_
        refine xo_nil (t_norm ?_)
        have hgB : ∀ b ∈ rowBlk g.2, b ≠ g.1 := fun b hb e => (P.R.sep.one j g hg).2.2.2.2 (e ▸ hb)
        have P2 := P.turn (h2 := h1.set g.1 (.row [g.2, .bool true] true 0)) (ln' := { ln with lost := true }) (v' := g.2) hl hg rfl ((But.refl _ _).set (.inl (List.mem_cons_self ..)) _) (get_same hL) (hrow.stay fun b hb o e => get_other e (hgB b hb)) (fun b hb => .inl hb) hown
        have hp82 := P2.p8
        have hn12 : (h1.set g.1 (.row [g.2, .bool true] true 0)).get n1 = some (.row [.int .i64 x.id, setsV x.f.sets, refsV x.f.refs] true 0) := get_other hn1 fun e => hn4.2.2 (e ▸ hgF)
        refine w_region ?_
        first | refine xo_val rfl (a_load_pp rfl rfl rfl rfl) ⟨⟩ ?_ | refine xo_val rfl (a_load rfl rfl rfl (cell_of (by repeat' first | assumption | exact AH.get_push_new _ _ | exact AH.get_push_at (by first | (simp only [AH.n_push, AH.n_set]; done) | (simp only [AH.n_push, AH.n_set]; rfl)) | refine AH.get_push_old ?_ _ | apply get_same | refine get_other ?_ (by first | assumption | omega | (simp only [AH.n_push, AH.n_set]; omega) | (dsimp only; omega) | (dsimp only; simp only [AH.n_push, AH.n_set]; omega)) | refine Le.get (by assumption) ?_) rfl rfl)) ⟨⟩ ?_
        refine xo_val rfl rfl ⟨⟩ ?_
        first | refine xo_val rfl (a_loads_pp rfl rfl rfl rfl) ⟨⟩ ?_ | refine xo_val rfl (a_loads rfl rfl rfl (cells_of (by repeat' first | assumption | exact AH.get_push_new _ _ | exact AH.get_push_at (by first | (simp only [AH.n_push, AH.n_set]; done) | (simp only [AH.n_push, AH.n_set]; rfl)) | refine AH.get_push_old ?_ _ | apply get_same | refine get_other ?_ (by first | assumption | omega | (simp only [AH.n_push, AH.n_set]; omega) | (dsimp only; omega) | (dsimp only; simp only [AH.n_push, AH.n_set]; omega)) | refine Le.get (by assumption) ?_) rfl rfl rfl)) ⟨⟩ ?_
        refine gone _ _ _ _ _ _ _ _ rfl rfl rfl P2 (by simp) fun fr' h3 rv' hn3 hk3 P3 => ?_
        refine xo_nil (b_norm (b_norm ?_))
        rw [hM] at hQ
        refine hQ _ _ _ _ (by simpa using hn3) (fun b hb o e => hk3 b hb o (get_other e fun e' => hg7.1 (by rw [show g.1 = b from e'.symm]; exact hb))) P3
      · have hd : decide ((ln.row.length : Int) ≥ d'.o) = false := decide_eq_false hfull
        have hM : hitM (refs, d') x = (refs, d'.setAt j { ln with row := ln.row ++ [x.f] }) := by unfold hitM; simp [hj, hl, hlost, hfull]
        refine w_cond rfl (fun e => by rw [hd] at e; cases e) (fun _ => ?_)
        refine w_region ?_
        refine xo_val rfl rfl ⟨⟩ ?_
        refine xo_val rfl rfl ⟨⟩ ?_
        refine xo_val rfl rfl ⟨⟩ ?_
        refine xo_val rfl rfl ⟨⟩ ?_
        first | refine xo_val rfl (a_load_pp rfl rfl rfl rfl) ⟨⟩ ?_ | refine xo_val rfl (a_load rfl rfl rfl (cell_of (by repeat' first | assumption | exact AH.get_push_new _ _ | exact AH.get_push_at (by first | (simp only [AH.n_push, AH.n_set]; done) | (simp only [AH.n_push, AH.n_set]; rfl)) | refine AH.get_push_old ?_ _ | apply get_same | refine get_other ?_ (by first | assumption | omega | (simp only [AH.n_push, AH.n_set]; omega) | (dsimp only; omega) | (dsimp only; simp only [AH.n_push, AH.n_set]; omega)) | refine Le.get (by assumption) ?_) rfl rfl)) ⟨⟩ ?_
        refine xo_val rfl rfl ⟨⟩ ?_
        first | refine xo_val rfl (a_loads_pp rfl rfl rfl rfl) ⟨⟩ ?_ | refine xo_val rfl (a_loads rfl rfl rfl (cells_of (by repeat' first | assumption | exact AH.get_push_new _ _ | exact AH.get_push_at (by first | (simp only [AH.n_push, AH.n_set]; done) | (simp only [AH.n_push, AH.n_set]; rfl)) | refine AH.get_push_old ?_ _ | apply get_same | refine get_other ?_ (by first | assumption | omega | (simp only [AH.n_push, AH.n_set]; omega) | (dsimp only; omega) | (dsimp only; simp only [AH.n_push, AH.n_set]; omega)) | refine Le.get (by assumption) ?_) rfl rfl rfl)) ⟨⟩ ?_
        refine xo_val rfl (a_list (l := [_, _]) rfl rfl rfl rfl rfl) ⟨?_, trivial⟩ ?_
        · exact fun _ => a_load rfl rfl rfl (cell_of (AH.get_push_old hL _) rfl rfl)
        have hle := (Le.refl h1).push (.row [setsV x.f.sets, refsV x.f.refs] true 2)
        have As : Acc (h1.push (.row [setsV x.f.sets, refsV x.f.refs] true 2)) 2 (.slice (some ⟨h1.n, 0, none⟩) 1 2) [foundV x.f] := Acc.new (sz_found [x.f]) (AH.get_push_new _ _) (.inr rfl)
        obtain ⟨p, hp, A2, hB, hbl⟩ := acc_append (T := tab) (t := 83) (xt := 83) (x := .slice (some ⟨h1.n, 0, none⟩) 1 2) (hrow.le hle) t83 rfl (fun _ e => by cases e) rfl (As.src rfl) (sz_found [x.f]) (roomOk_of (by simp; omega) (by simp; omega))
        obtain ⟨pv, h2⟩ := p
        dsimp only at A2 hB hbl
        have hms : ln.row.map foundV ++ [foundV x.f] = (ln.row ++ [x.f]).map foundV := by simp
        rw [hms] at A2
        obtain ⟨pa, pc, rfl⟩ := A2.slice
        refine xo_val rfl (a_append rfl rfl rfl rfl rfl hp) ⟨⟩ ?_
        refine xo_val rfl rfl ⟨⟩ ?_
        refine xo_val rfl rfl ⟨⟩ ?_
        have hL2 := hB.get (hle.get hL) (P.R.sep.one j g hg).2.2.2.2
        refine xo_val rfl (a_store rfl rfl rfl rfl rfl (store_of hL2 rfl rfl)) ⟨⟩ ?_
        refine xo_nil (b_norm (b_norm ?_))
        have hB2 : But (g.1 :: rowBlk g.2) h1 (h2.set g.1 (.row [.slice pa ((ln.row ++ [x.f]).map foundV).length pc, .bool false] true 0)) :=
          ((hle.but _).trans hB (fun k hk => .inl (List.mem_cons_of_mem _ hk))).set (.inl (List.mem_cons_self ..)) _
        have hgn := P.R.lt hgF
        have hnew : ∀ b ∈ rowBlk (.slice pa ((ln.row ++ [x.f]).map foundV).length pc), b ∈ rowBlk g.2 ∨ h1.n ≤ b := fun b hb => (hbl b hb).imp id fun y => by simp at y; omega
        have P2 := P.turn (ln' := { ln with row := ln.row ++ [x.f] }) (v' := .slice pa ((ln.row ++ [x.f]).map foundV).length pc) hl hg rfl hB2 (by rw [get_same hL2, hlost]) (A2.stay fun b hb o e => get_other e fun e' => by
          rcases hnew b hb with y | y
          · exact (P.R.sep.one j g hg).2.2.2.2 (e' ▸ y)
          · rw [e'] at y; omega) hnew hown
        rw [hM] at hQ
        refine hQ _ _ _ _ hB2.1 (fun b hb o e => hB2.get e fun hm => (P.fp b (Fp_line hg ((List.mem_cons.1 hm).imp id id))).1 hb) P2
end Go.AI.Q
