/-
  THE QUEUE'S DESK: publish, whole. (Own work; steps printed by wip/gen/walk.py.)
-/
import Derived.Test.YtkabedbkkbijhaaB11
namespace Go.AI.Q
open Go Go.AI Go.Proofs
attribute [local irreducible] xOps xw
theorem pubrange_ok {h h5 h6 h7 : AH} {D m : Nat} {gs : List (Nat × Value)} {bs : List Nat} {clk : Nat} {d : DeskM} {cv : List Value} {outs : List Out} {fr : Fr} {Q : XQ} (R : DeskR h D m gs bs clk d) (hne : outs ≠ []) (hlen : outs.length ≤ 1000) (hbig : refsOf (mergeL (outs.map (·.hits))) ≤ 10000000) (ho : d.o ≤ 4096)
    (g0 : h5.get h.n = some (.row [.pointer (some ⟨D, 0, none⟩)] true 0)) (g1 : h5.get (h.n + 1) = some (.row cv true 0)) (g2 : h5.get (h.n + 2) = some (.row [.slice none 0 0] true 0))
    (g3 : h5.get (h.n + 3) = some (.row [.func (.func 32) #[] #[.pointer (some ⟨h.n + 2, 0, none⟩)]] true 0)) (hle5 : Le h h5) (hB6 : But [h.n + 4] h5 h6) (hr6 : h6.get (h.n + 4) = some (.row ((outs.map (·.hits)).map hitsV) true 1)) (hle7 : Le h6 h7)
    (hl7 : h7.get h6.n = some (.row [lessV] true 0)) (hr7 : h7.get (h6.n + 1) = some (.row [.slice (some ⟨h.n + 4, 0, none⟩) outs.length (outs.length + 1)] true 0))
    (f3 : fr 3 = .pointer (some ⟨h.n, 0, none⟩)) (f8 : fr 8 = .pointer (some ⟨h.n + 3, 0, none⟩)) (f37 : fr 37 = .func (.func 37) #[] #[.pointer (some ⟨h6.n + 1, 0, none⟩), .pointer (some ⟨h6.n, 0, none⟩)])
    (hQ : ∀ own h8 refs d8 gs8 rv, PJ h D m gs bs clk h7.n cv .dead own h8 refs d8 gs8 rv → (mergeL (outs.map (·.hits))).foldl hitM ([], d) = (refs, d8) → refs.length ≤ 10000000 → Q .norm fr h8) :
    xw tab C Y (XC.range (Operand.tmp 37) [38] (XC.region x26_10) pubBody) fr h7 Q := by
  have hle6 : Le h h6 := hB6.le hle5 (by simp)
  have hleL := fun L => (hle6.trans hle7).push (.loop L)
  have hn7 := AH.get_lt hr7
  have hn6 := AH.get_lt hr6
  have hrl : (outs.map (·.hits)).length = outs.length := List.length_map ..
  refine w_range f37 (merge_ok (l := h7.n) (RC := h6.n + 1) (LC := h6.n) (RB := h.n + 4) (c := outs.length + 1) (rws := outs.map (·.hits)) (J := PubI h D m gs bs clk h7.n cv (.loop ⟨.ready, none, fr, [38], XC.region x26_10, pubBody⟩) d.o ((mergeL (outs.map (·.hits))).foldl hitM ([], d))) ?_ ?_ ?_ ?_ ?_ ?_ ?_ ?_ ?_ ?_)
  · rw [hrl]; exact AH.get_push_old hr7 _
  · rw [flat_hits]; exact AH.get_push_old (hle7.get hr6) _
  · rw [hrl]; exact .inr rfl
  · exact AH.get_push_old hl7 _
  · intro e; exact hne (by simpa using e)
  · rw [hrl]; omega
  · refine ⟨[], d, gs, .slice none 0 0, ?_, rfl, by simp; omega, rfl⟩
    have gt : ∀ b o, h5.get b = some o → b ≠ h.n + 4 → (h7.push (.loop ⟨.ready, none, fr, [38], XC.region x26_10, pubBody⟩)).get b = some o := fun b o e hb => AH.get_push_old (hle7.get (hB6.get e (by simpa using hb))) _
    refine ⟨R.le (hleL _), Acc.nil, gt _ _ g0 (by omega), gt _ _ g1 (by omega), gt _ _ g2 (by omega), gt _ _ g3 (by omega), AH.get_push_new _ _, fun b hb => ?_, fun b hb => by simp [rowBlk] at hb, fun b hb => by simp at hb, fun b o e _ => (hleL _).get e, by omega, fun b hb => R.lt hb⟩
    have := R.lt hb
    exact ⟨by simp, by simp [rowBlk], .inl this, by omega, .inl hb⟩
  · rintro own own' r h h' ⟨refs, d', gs', rv, P, a, b, c⟩ hB ho
    exact ⟨refs, d', gs', rv, P.stay hB ho, a, b, c⟩
  · intro own x r h1 K J hown hK
    exact round_ok f3 f8 ho own x r h1 K J hown hK
  rintro own h8 ⟨refs, d8, gs8, rv, P8, hS, hb8, ho8⟩
  refine loopAt_of P8.lp ⟨by simp, ?_⟩
  refine hQ own _ refs d8 gs8 rv (P8.loop .dead) (by simpa using hS.symm) ?_
  have := foldl_hit_len (mergeL (outs.map (·.hits))) ([], d)
  rw [← hS] at this
  simp at this
  omega
def loseBody : XC := XC.block 8 ((XC.region x26_23).seq ((XC.region x26_24).seq ((XC.region x26_25).seq (XC.cond (Operand.tmp 109) (XC.region x26_26) XC.skip))))
theorem lose_ok {h : AH} {D m : Nat} {gs0 : List (Nat × Value)} {bs : List Nat} {clk l : Nat} {cv : List Value} {L : AObj} {h1 : AH} {refs : List Ref} {d' : DeskM} {gs : List (Nat × Value)} {rv : Value} {ids : List Int} {k : Nat} {id : Int} {fr : Fr} {Q : XQ}
    (P : PJ h D m gs0 bs clk l cv L [] h1 refs d' gs rv) (f3 : fr 3 = .pointer (some ⟨h.n, 0, none⟩)) (f96 : fr 96 = intsV ids) (f98 : fr 98 = .int .i64 k) (hid : ids[k]? = some id)
    (hQ : ∀ fr' h' gs', h1.n ≤ h'.n → (fr' 3 = fr 3 ∧ fr' 4 = fr 4 ∧ fr' 7 = fr 7 ∧ fr' 89 = fr 89 ∧ fr' 90 = fr 90 ∧ fr' 91 = fr 91 ∧ fr' 96 = fr 96 ∧ fr' 97 = fr 97 ∧ fr' 98 = fr 98) → PJ h D m gs0 bs clk l cv L [] h' refs (loseM d' id) gs' rv → Q .norm fr' h') : xw tab C Y loseBody fr h1 Q := by
  rw [← fr_fix f3, ← fr_fix f96, ← fr_fix f98]
  have hD := P.R.desk
  have hp3 := P.p3
  have hlk := look_desk P.R id
  unfold loseBody
  refine w_block ?_
  refine w_seq (w_region ?_)
  first | refine xo_val rfl (a_ix_mapN rfl rfl rfl rfl rfl rfl (by assumption)) ⟨⟩ ?_ | refine xo_val rfl (a_ix_ps rfl rfl rfl rfl rfl rfl (by omega) (by assumption)) ⟨⟩ ?_ | refine xo_val rfl (a_ixs rfl rfl rfl rfl rfl (by omega)) ⟨⟩ ?_ | refine xo_val rfl (a_ixa rfl rfl rfl rfl rfl (by omega)) ⟨⟩ ?_
  first | refine xo_val rfl (a_load_pp rfl rfl rfl rfl) ⟨⟩ ?_ | refine xo_val rfl (a_load rfl rfl rfl (cell_of (by repeat' first | assumption | exact AH.get_push_new _ _ | exact AH.get_push_at (by first | (simp only [AH.n_push, AH.n_set]; done) | (simp only [AH.n_push, AH.n_set]; rfl)) | refine AH.get_push_old ?_ _ | apply get_same | refine get_other ?_ (by first | assumption | omega | (simp only [AH.n_push, AH.n_set]; omega) | (dsimp only; omega) | (dsimp only; simp only [AH.n_push, AH.n_set]; omega)) | refine Le.get (by assumption) ?_) rfl rfl)) ⟨⟩ ?_
  refine xo_val rfl rfl ⟨⟩ ?_
  refine xo_nil (t_norm ?_)
  refine w_seq (w_region ?_)
  first | refine xo_val rfl (a_load_pp rfl rfl rfl rfl) ⟨⟩ ?_ | refine xo_val rfl (a_load rfl rfl rfl (cell_of (by repeat' first | assumption | exact AH.get_push_new _ _ | exact AH.get_push_at (by first | (simp only [AH.n_push, AH.n_set]; done) | (simp only [AH.n_push, AH.n_set]; rfl)) | refine AH.get_push_old ?_ _ | apply get_same | refine get_other ?_ (by first | assumption | omega | (simp only [AH.n_push, AH.n_set]; omega) | (dsimp only; omega) | (dsimp only; simp only [AH.n_push, AH.n_set]; omega)) | refine Le.get (by assumption) ?_) rfl rfl)) ⟨⟩ ?_
  refine xo_val rfl rfl ⟨⟩ ?_
  refine xo_val rfl rfl ⟨⟩ ?_
  first | refine xo_val rfl (a_load_pp rfl rfl rfl rfl) ⟨⟩ ?_ | refine xo_val rfl (a_load rfl rfl rfl (cell_of (by repeat' first | assumption | exact AH.get_push_new _ _ | exact AH.get_push_at (by first | (simp only [AH.n_push, AH.n_set]; done) | (simp only [AH.n_push, AH.n_set]; rfl)) | refine AH.get_push_old ?_ _ | apply get_same | refine get_other ?_ (by first | assumption | omega | (simp only [AH.n_push, AH.n_set]; omega) | (dsimp only; omega) | (dsimp only; simp only [AH.n_push, AH.n_set]; omega)) | refine Le.get (by assumption) ?_) rfl rfl)) ⟨⟩ ?_
  refine xo_val rfl rfl ⟨⟩ ?_
  refine xo_val rfl (a_lookup rfl rfl hlk) ⟨⟩ ?_
  refine xo_val rfl rfl ⟨⟩ ?_
  refine xo_nil (t_norm ?_)
  cases hj : findAt d'.lines id with
  | none =>
    have hv : lookV d' gs id = .pointer none := by unfold lookV; rw [hj]
    rw [hv]
    have hM : loseM d' id = d' := by unfold loseM; simp only [hj]
    refine w_seq (w_region ?_)
    refine xo_val rfl rfl ⟨⟩ ?_
    first | refine xo_val rfl (a_bin rfl rfl (bin_neq _ _ _ _ _)) ⟨⟩ ?_ | refine xo_val rfl rfl ⟨⟩ ?_
    refine xo_nil (t_norm ?_)
    refine w_cond rfl (fun e => by cases e) (fun _ => w_skip (b_norm ?_))
    rw [hM] at hQ
    exact hQ _ _ gs (Nat.le_refl _) ⟨f3.symm, rfl, rfl, rfl, rfl, rfl, f96.symm, rfl, f98.symm⟩ P
  | some j =>
    obtain ⟨ln, g, hl, hg, hid', hv⟩ := found P.R.len hj
    obtain ⟨hL, hrow⟩ := P.R.line j ln g hl hg
    rw [hv] at hlk ⊢
    have hM : loseM d' id = d'.setAt j { ln with lost := true } := by unfold loseM; simp only [hj, hl]
    refine w_seq (w_region ?_)
    refine xo_val rfl rfl ⟨⟩ ?_
    first | refine xo_val rfl (a_bin rfl rfl (bin_neq _ _ _ _ _)) ⟨⟩ ?_ | refine xo_val rfl rfl ⟨⟩ ?_
    refine xo_nil (t_norm ?_)
    refine w_cond rfl (fun _ => ?_) (fun e => by cases e)
    refine w_region ?_
    refine xo_val rfl rfl ⟨⟩ ?_
    refine xo_val rfl rfl ⟨⟩ ?_
    refine xo_val rfl rfl ⟨⟩ ?_
    refine xo_val rfl (a_store rfl rfl rfl rfl rfl (store_of hL rfl rfl)) ⟨⟩ ?_
    refine xo_nil (b_norm ?_)
    have hgB : ∀ b ∈ rowBlk g.2, b ≠ g.1 := fun b hb e => (P.R.sep.one j g hg).2.2.2.2 (e ▸ hb)
    have P2 := P.turn (h2 := h1.set g.1 (.row [g.2, .bool true] true 0)) (ln' := { ln with lost := true }) (v' := g.2) hl hg rfl ((But.refl _ _).set (.inl (List.mem_cons_self ..)) _) (get_same hL) (hrow.stay fun b hb o e => get_other e (hgB b hb)) (fun b hb => .inl hb) (fun b hb => by cases hb)
    rw [hM] at hQ
    exact hQ _ _ _ (by simp) ⟨f3.symm, rfl, rfl, rfl, rfl, rfl, f96.symm, rfl, f98.symm⟩ P2
theorem publish_ok {h : AH} {D m : Nat} {gs : List (Nat × Value)} {bs : List Nat} {clk : Nat} {d : DeskM} {id nn : Int} {ref : Ref} {outs : List Out} {Q : AO → AH → Prop} (R : DeskR h D m gs bs clk d) (hne : outs ≠ []) (hlo : ∀ o ∈ outs, o.lost.length ≤ 1000000) (hlen : outs.length ≤ 1000) (hbig : refsOf (mergeL (outs.map (·.hits))) ≤ 10000000) (ho : d.o ≤ 4096)
    (hQ : ∀ h' gs', h.n ≤ h'.n → DeskR h' D m gs' bs clk (publishM d outs ref).2 → (∀ b ∈ Fp D m gs', b ∈ Fp D m gs ∨ h.n ≤ b) → (∀ b o, h.get b = some o → b ∉ Fp D m gs → h'.get b = some o) → Q (.ret (refsV (publishM d outs ref).1)) h') :
    C 26 [.pointer (some ⟨D, 0, none⟩), cmdV 1 id nn ref, outsV outs] h Q := by
  refine run_26 rfl ?_
  refine w_seq (w_region ?_)
  refine xo_val rfl (a_box rfl rfl) ⟨⟩ ?_
  refine xo_val rfl (a_box rfl rfl) ⟨⟩ ?_
  refine xo_val rfl rfl ⟨⟩ ?_
  refine xo_nil (t_norm ?_)
  refine w_seq (w_region ?_)
  refine xo_val rfl (a_alloc rfl) ⟨⟩ ?_
  refine xo_nil (t_norm ?_)
  refine w_seq (w_region ?_)
  refine xo_val rfl (a_mf (vs := []) (ws := [_]) rfl rfl) ⟨⟩ ?_
  refine xo_val rfl (a_alloc rfl) ⟨⟩ ?_
  refine xo_val rfl (a_store rfl rfl rfl rfl rfl (store_of (by repeat' first | assumption | exact AH.get_push_new _ _ | exact AH.get_push_at (by first | (simp only [AH.n_push, AH.n_set]; done) | (simp only [AH.n_push, AH.n_set]; rfl)) | refine AH.get_push_old ?_ _ | apply get_same | refine get_other ?_ (by first | assumption | omega | (simp only [AH.n_push, AH.n_set]; omega) | (dsimp only; omega) | (dsimp only; simp only [AH.n_push, AH.n_set]; omega)) | refine Le.get (by assumption) ?_) rfl rfl)) ⟨⟩ ?_
  refine xo_nil (t_norm ?_)
  refine w_seq (w_region ?_)
  refine xo_val rfl rfl ⟨⟩ ?_
  first | refine xo_val rfl (a_len_map rfl rfl rfl rfl rfl rfl) ⟨⟩ ?_ | refine xo_val rfl (a_len_ps rfl rfl rfl rfl rfl rfl) ⟨⟩ ?_ | refine xo_val rfl rfl ⟨⟩ ?_
  refine xo_val rfl (a_makeSlice (n := outs.length) rfl rfl rfl (by show outs.length * 24 ≤ _; omega) (by omega)) ⟨⟩ ?_
  refine xo_val rfl rfl ⟨⟩ ?_
  refine xo_nil (t_norm ?_)
  refine w_seq ?_
  refine w_seq (w_region ?_)
  refine xo_val rfl rfl ⟨⟩ ?_
  first | refine xo_val rfl (a_len_map rfl rfl rfl rfl rfl rfl) ⟨⟩ ?_ | refine xo_val rfl (a_len_ps rfl rfl rfl rfl rfl rfl) ⟨⟩ ?_ | refine xo_val rfl rfl ⟨⟩ ?_
  refine xo_val rfl rfl ⟨⟩ ?_
  refine xo_nil (t_norm ?_)
  generalize hz : zeros _ outs.length = zs
  have hzl : zs.length = outs.length := by rw [← hz, zeros_length]; show outs.length * 1 = _; omega
  clear hz
  generalize hH : AH.push _ (.row zs true _) = h5
  have g0 : h5.get h.n = some (.row [.pointer (some ⟨D, 0, none⟩)] true 0) := by rw [← hH]; exact (by repeat' first | assumption | exact AH.get_push_new _ _ | exact AH.get_push_at (by first | (simp only [AH.n_push, AH.n_set]; done) | (simp only [AH.n_push, AH.n_set]; rfl)) | refine AH.get_push_old ?_ _ | apply get_same | refine get_other ?_ (by first | assumption | omega | (simp only [AH.n_push, AH.n_set]; omega) | (dsimp only; omega) | (dsimp only; simp only [AH.n_push, AH.n_set]; omega)) | refine Le.get (by assumption) ?_)
  have g1 : h5.get (h.n + 1) = some (.row (cmdV 1 id nn ref).cells.toList true 0) := by rw [← hH]; exact (by repeat' first | assumption | exact AH.get_push_new _ _ | exact AH.get_push_at (by first | (simp only [AH.n_push, AH.n_set]; done) | (simp only [AH.n_push, AH.n_set]; rfl)) | refine AH.get_push_old ?_ _ | apply get_same | refine get_other ?_ (by first | assumption | omega | (simp only [AH.n_push, AH.n_set]; omega) | (dsimp only; omega) | (dsimp only; simp only [AH.n_push, AH.n_set]; omega)) | refine Le.get (by assumption) ?_)
  have g2 : h5.get (h.n + 2) = some (.row [.slice none 0 0] true 0) := by rw [← hH]; exact (by repeat' first | assumption | exact AH.get_push_new _ _ | exact AH.get_push_at (by first | (simp only [AH.n_push, AH.n_set]; done) | (simp only [AH.n_push, AH.n_set]; rfl)) | refine AH.get_push_old ?_ _ | apply get_same | refine get_other ?_ (by first | assumption | omega | (simp only [AH.n_push, AH.n_set]; omega) | (dsimp only; omega) | (dsimp only; simp only [AH.n_push, AH.n_set]; omega)) | refine Le.get (by assumption) ?_)
  have g3 : h5.get (h.n + 3) = some (.row [.func (.func 32) #[] #[.pointer (some ⟨h.n + 2, 0, none⟩)]] true 0) := by rw [← hH]; exact (by repeat' first | assumption | exact AH.get_push_new _ _ | exact AH.get_push_at (by first | (simp only [AH.n_push, AH.n_set]; done) | (simp only [AH.n_push, AH.n_set]; rfl)) | refine AH.get_push_old ?_ _ | apply get_same | refine get_other ?_ (by first | assumption | omega | (simp only [AH.n_push, AH.n_set]; omega) | (dsimp only; omega) | (dsimp only; simp only [AH.n_push, AH.n_set]; omega)) | refine Le.get (by assumption) ?_)
  have g4 : h5.get (h.n + 4) = some (.row zs true 1) := by rw [← hH]; exact (by repeat' first | assumption | exact AH.get_push_new _ _ | exact AH.get_push_at (by first | (simp only [AH.n_push, AH.n_set]; done) | (simp only [AH.n_push, AH.n_set]; rfl)) | refine AH.get_push_old ?_ _ | apply get_same | refine get_other ?_ (by first | assumption | omega | (simp only [AH.n_push, AH.n_set]; omega) | (dsimp only; omega) | (dsimp only; simp only [AH.n_push, AH.n_set]; omega)) | refine Le.get (by assumption) ?_)
  have hle5 : Le h h5 := by rw [← hH]; exact ((((((Le.refl h).push _).push _).push _).push _).set (by first | omega | (simp only [AH.n_push, AH.n_set]; omega) | (dsimp only; omega) | (dsimp only; simp only [AH.n_push, AH.n_set]; omega)) _).push _
  have hn5 : h.n + 5 ≤ h5.n := by have := AH.get_lt g4; omega
  clear hH
  -- the rows
  refine w_block (w_loop (fun n fr h' => ∃ (k : Nat) (cs : List Value), n + k = outs.length ∧ But [h.n + 4] h5 h' ∧ h'.get (h.n + 4) = some (.row cs true 1) ∧ cs.length = outs.length ∧ (∀ i o, i < k → outs[i]? = some o → cs[i]? = some (hitsV o.hits)) ∧
    fr 2 = outsV outs ∧ fr 3 = .pointer (some ⟨h.n, 0, none⟩) ∧ fr 4 = .pointer (some ⟨h.n + 1, 0, none⟩) ∧ fr 7 = .pointer (some ⟨h.n + 2, 0, none⟩) ∧ fr 8 = .pointer (some ⟨h.n + 3, 0, none⟩) ∧ fr 9 = .slice (some ⟨h.n + 4, 0, none⟩) outs.length (outs.length + 1) ∧
    fr 23 = outsV outs ∧ fr 24 = .int .i64 outs.length ∧ fr 25 = .int .i64 k) outs.length ?_ ?_)
  · exact ⟨0, zs, rfl, .refl _ _, g4, hzl, fun i o hi => by omega, rfl, rfl, rfl, rfl, rfl, (by show Value.slice (some ⟨AH.n (AH.set _ _ _), 0, none⟩) _ _ = _; rw [AH.n_set]; rfl), rfl, rfl, rfl⟩
  rintro n fr h6 ⟨k, cs, hn, hB6, hr6, hcl, hcs, f2, f3, f4, f7, f8, f9, f23, f24, f25⟩
  rw [← fr_fix f2, ← fr_fix f3, ← fr_fix f4, ← fr_fix f7, ← fr_fix f8, ← fr_fix f9, ← fr_fix f23, ← fr_fix f24, ← fr_fix f25]
  refine w_seq (w_region ?_)
  refine xo_val rfl (a_bin rfl rfl (bin_lss _ _ _ _ _)) ⟨⟩ ?_
  refine xo_nil (t_norm ?_)
  refine w_seq (w_cond rfl (fun hlt => w_skip (t_norm ?_)) (fun hge => w_exit (t_exit ?_)))
  · have hlt : (k : Int) < outs.length := of_decide_eq_true hlt
    obtain ⟨o, ho⟩ : ∃ o, outs[k]? = some o := ⟨_, List.getElem?_eq_getElem (by omega)⟩
    have hn6 := AH.get_lt hr6
    refine w_seq (w_block ?_)
    refine w_seq (w_region ?_)
    refine xo_val rfl rfl ⟨⟩ ?_
    first | refine xo_val rfl (a_ix_mapN rfl rfl rfl rfl rfl rfl (by assumption)) ⟨⟩ ?_ | refine xo_val rfl (a_ix_ps rfl rfl rfl rfl rfl rfl (by omega) (by assumption)) ⟨⟩ ?_ | refine xo_val rfl (a_ixs rfl rfl rfl rfl rfl (by omega)) ⟨⟩ ?_ | refine xo_val rfl (a_ixa rfl rfl rfl rfl rfl (by omega)) ⟨⟩ ?_
    first | refine xo_val rfl (a_loads_pp rfl rfl rfl rfl) ⟨⟩ ?_ | refine xo_val rfl (a_loads rfl rfl rfl (cells_of (by repeat' first | assumption | exact AH.get_push_new _ _ | exact AH.get_push_at (by first | (simp only [AH.n_push, AH.n_set]; done) | (simp only [AH.n_push, AH.n_set]; rfl)) | refine AH.get_push_old ?_ _ | apply get_same | refine get_other ?_ (by first | assumption | omega | (simp only [AH.n_push, AH.n_set]; omega) | (dsimp only; omega) | (dsimp only; simp only [AH.n_push, AH.n_set]; omega)) | refine Le.get (by assumption) ?_) rfl rfl rfl)) ⟨⟩ ?_
    refine xo_val rfl (a_alloc rfl) ⟨⟩ ?_
    refine xo_val rfl rfl ⟨⟩ ?_
    refine xo_val rfl (a_store rfl rfl rfl rfl rfl (store_of (by repeat' first | assumption | exact AH.get_push_new _ _ | exact AH.get_push_at (by first | (simp only [AH.n_push, AH.n_set]; done) | (simp only [AH.n_push, AH.n_set]; rfl)) | refine AH.get_push_old ?_ _ | apply get_same | refine get_other ?_ (by first | assumption | omega | (simp only [AH.n_push, AH.n_set]; omega) | (dsimp only; omega) | (dsimp only; simp only [AH.n_push, AH.n_set]; omega)) | refine Le.get (by assumption) ?_) rfl rfl)) ⟨⟩ ?_
    refine xo_nil (t_norm ?_)
    refine w_region ?_
    refine xo_val rfl rfl ⟨⟩ ?_
    refine xo_val rfl rfl ⟨⟩ ?_
    refine xo_val rfl rfl ⟨⟩ ?_
    first | refine xo_val rfl (a_load_pp rfl rfl rfl rfl) ⟨⟩ ?_ | refine xo_val rfl (a_load rfl rfl rfl (cell_of (by repeat' first | assumption | exact AH.get_push_new _ _ | exact AH.get_push_at (by first | (simp only [AH.n_push, AH.n_set]; done) | (simp only [AH.n_push, AH.n_set]; rfl)) | refine AH.get_push_old ?_ _ | apply get_same | refine get_other ?_ (by first | assumption | omega | (simp only [AH.n_push, AH.n_set]; omega) | (dsimp only; omega) | (dsimp only; simp only [AH.n_push, AH.n_set]; omega)) | refine Le.get (by assumption) ?_) rfl rfl)) ⟨⟩ ?_
    refine xo_val rfl (a_ixs rfl rfl rfl rfl rfl (by omega)) ⟨⟩ ?_
    refine xo_val rfl (a_store rfl rfl rfl rfl rfl (store_at (a := ⟨h.n + 4, 0, none⟩) (vs := [hitsV o.hits]) (n := ((k : Nat) : Int).toNat * 1) (get_other (AH.get_push_old hr6 _) (by first | omega | (simp only [AH.n_push, AH.n_set]; omega) | (dsimp only; omega) | (dsimp only; simp only [AH.n_push, AH.n_set]; omega))) rfl (by simp; omega))) ⟨⟩ ?_
    refine xo_nil (b_norm (t_norm ?_))
    refine w_region ?_
    refine xo_val rfl (a_bin rfl rfl (bin_add64 _ _ _ _ (by omega))) ⟨⟩ ?_
    refine xo_val rfl rfl ⟨⟩ ?_
    refine xo_nil ?_
    refine ⟨n - 1, by omega, k + 1, putAt cs (0 + ((k : Nat) : Int).toNat * 1) [hitsV o.hits], by omega, ?_, get_same (get_other (AH.get_push_old hr6 _) (by first | omega | (simp only [AH.n_push, AH.n_set]; omega) | (dsimp only; omega) | (dsimp only; simp only [AH.n_push, AH.n_set]; omega))), by rw [length_putAt]; exact hcl, ?_, rfl, rfl, rfl, rfl, rfl, rfl, rfl, rfl, rfl⟩
    · exact ((hB6.push _).set (.inr (by have := hB6.1; show h5.n ≤ h6.n; omega)) _).set (.inl (List.mem_singleton.2 rfl)) _
    · intro i o' hi ho'
      rw [getElem?_putAt]
      simp only [Nat.zero_add, Nat.mul_one, Int.toNat_natCast, List.length_singleton]
      by_cases e : i = k
      · subst e
        rw [ho] at ho'; cases ho'
        rw [if_pos (by omega)]
        simp
      · rw [if_neg (by omega)]
        exact hcs i o' (by omega) ho'
  · have hge : ¬ (k : Int) < outs.length := of_decide_eq_false hge
    have hk : k = outs.length := by omega
    subst hk
    have hcse : cs = (outs.map (·.hits)).map hitsV := by
      apply List.ext_getElem?
      intro i
      by_cases hi : i < outs.length
      · have := hcs i _ hi (List.getElem?_eq_getElem hi)
        rw [this, List.map_map, List.getElem?_map, List.getElem?_eq_getElem hi]; rfl
      · rw [List.getElem?_eq_none (by omega), List.getElem?_eq_none (by simp; omega)]
    refine b_here (id := 0) (t_norm ?_)
    refine w_seq ?_
    refine w_seq (w_region ?_)
    refine xo_val rfl rfl ⟨⟩ ?_
    refine xo_call rfl rfl (merge33_ok (v := .slice (some ⟨h.n + 4, 0, none⟩) outs.length (outs.length + 1)) rfl rfl fun h7 hle7 hl7 hr7 => ⟨⟨⟩, ?_⟩)
    refine xo_nil (t_norm ?_)
    have hle6 : Le h h6 := hB6.le hle5 (by simp)
    subst hcse
    refine w_block (pubrange_ok R hne hlen hbig ho g0 g1 g2 g3 hle5 hB6 hr6 hle7 hl7 hr7 rfl rfl rfl fun own h8 refs d8 gs8 rv P8 hS hrb => ?_)
    have P9 := P8.stay (own' := []) (.refl _ _) (fun _ hb => by cases hb)
    refine b_norm (t_norm ?_)
    refine w_seq ?_
    refine w_seq (w_region ?_)
    refine xo_val rfl rfl ⟨⟩ ?_
    first | refine xo_val rfl (a_len_map rfl rfl rfl rfl rfl rfl) ⟨⟩ ?_ | refine xo_val rfl (a_len_ps rfl rfl rfl rfl rfl rfl) ⟨⟩ ?_ | refine xo_val rfl rfl ⟨⟩ ?_
    refine xo_val rfl rfl ⟨⟩ ?_
    refine xo_nil (t_norm ?_)
    refine w_block (w_loop (fun n fr h' => ∃ (k : Nat) (gs' : List (Nat × Value)), n + k = outs.length ∧ h8.n ≤ h'.n ∧ PJ h D m gs bs clk h7.n (cmdV 1 id nn ref).cells.toList .dead [] h' refs (((outs.take k).flatMap (·.lost)).foldl loseM d8) gs' rv ∧
      fr 3 = .pointer (some ⟨h.n, 0, none⟩) ∧ fr 4 = .pointer (some ⟨h.n + 1, 0, none⟩) ∧ fr 7 = .pointer (some ⟨h.n + 2, 0, none⟩) ∧ fr 89 = outsV outs ∧ fr 90 = .int .i64 outs.length ∧ fr 91 = .int .i64 k) outs.length ?_ ?_)
    · exact ⟨0, gs8, rfl, Nat.le_refl _, P9, rfl, rfl, rfl, rfl, rfl, rfl⟩
    rintro n fr h9 ⟨k, gs9, hn, hn9, P, f3, f4, f7, f89, f90, f91⟩
    rw [← fr_fix f3, ← fr_fix f4, ← fr_fix f7, ← fr_fix f89, ← fr_fix f90, ← fr_fix f91]
    refine w_seq (w_region ?_)
    refine xo_val rfl (a_bin rfl rfl (bin_lss _ _ _ _ _)) ⟨⟩ ?_
    refine xo_nil (t_norm ?_)
    refine w_seq (w_cond rfl (fun hlt => w_skip (t_norm ?_)) (fun hge => w_exit (t_exit ?_)))
    · have hlt : (k : Int) < outs.length := of_decide_eq_true hlt
      obtain ⟨o, hok⟩ : ∃ o, outs[k]? = some o := ⟨_, List.getElem?_eq_getElem (by omega)⟩
      refine w_seq (w_block ?_)
      refine w_seq (w_region ?_)
      first | refine xo_val rfl (a_ix_mapN rfl rfl rfl rfl rfl rfl (by assumption)) ⟨⟩ ?_ | refine xo_val rfl (a_ix_ps rfl rfl rfl rfl rfl rfl (by omega) (by assumption)) ⟨⟩ ?_ | refine xo_val rfl (a_ixs rfl rfl rfl rfl rfl (by omega)) ⟨⟩ ?_ | refine xo_val rfl (a_ixa rfl rfl rfl rfl rfl (by omega)) ⟨⟩ ?_
      first | refine xo_val rfl (a_loads_pp rfl rfl rfl rfl) ⟨⟩ ?_ | refine xo_val rfl (a_loads rfl rfl rfl (cells_of (by repeat' first | assumption | exact AH.get_push_new _ _ | exact AH.get_push_at (by first | (simp only [AH.n_push, AH.n_set]; done) | (simp only [AH.n_push, AH.n_set]; rfl)) | refine AH.get_push_old ?_ _ | apply get_same | refine get_other ?_ (by first | assumption | omega | (simp only [AH.n_push, AH.n_set]; omega) | (dsimp only; omega) | (dsimp only; simp only [AH.n_push, AH.n_set]; omega)) | refine Le.get (by assumption) ?_) rfl rfl rfl)) ⟨⟩ ?_
      refine xo_val rfl (a_alloc rfl) ⟨⟩ ?_
      refine xo_val rfl (a_store rfl rfl rfl rfl rfl (store_of (by repeat' first | assumption | exact AH.get_push_new _ _ | exact AH.get_push_at (by first | (simp only [AH.n_push, AH.n_set]; done) | (simp only [AH.n_push, AH.n_set]; rfl)) | refine AH.get_push_old ?_ _ | apply get_same | refine get_other ?_ (by first | assumption | omega | (simp only [AH.n_push, AH.n_set]; omega) | (dsimp only; omega) | (dsimp only; simp only [AH.n_push, AH.n_set]; omega)) | refine Le.get (by assumption) ?_) rfl rfl)) ⟨⟩ ?_
      refine xo_nil (t_norm ?_)
      refine w_seq (w_region ?_)
      refine xo_val rfl rfl ⟨⟩ ?_
      first | refine xo_val rfl (a_load_pp rfl rfl rfl rfl) ⟨⟩ ?_ | refine xo_val rfl (a_load rfl rfl rfl (cell_of (by repeat' first | assumption | exact AH.get_push_new _ _ | exact AH.get_push_at (by first | (simp only [AH.n_push, AH.n_set]; done) | (simp only [AH.n_push, AH.n_set]; rfl)) | refine AH.get_push_old ?_ _ | apply get_same | refine get_other ?_ (by first | assumption | omega | (simp only [AH.n_push, AH.n_set]; omega) | (dsimp only; omega) | (dsimp only; simp only [AH.n_push, AH.n_set]; omega)) | refine Le.get (by assumption) ?_) rfl rfl)) ⟨⟩ ?_
      first | refine xo_val rfl (a_len_map rfl rfl rfl rfl rfl rfl) ⟨⟩ ?_ | refine xo_val rfl (a_len_ps rfl rfl rfl rfl rfl rfl) ⟨⟩ ?_ | refine xo_val rfl rfl ⟨⟩ ?_
      refine xo_val rfl rfl ⟨⟩ ?_
      refine xo_nil (t_norm ?_)
      have hle10 := ((Le.refl h9).push (.row (Value.agg #[.slice none 0 0, .slice none 0 0, .slice none 0 0, .slice none 0 0]).cells.toList true 0)).set (B := h9.n) (Nat.le_refl _) (.row (outV o).cells.toList true 0)
      have P10 := P.le hle10
      refine w_block (w_loop (fun n fr h' => ∃ (j : Nat) (gs' : List (Nat × Value)), n + j = o.lost.length ∧ h8.n ≤ h'.n ∧ PJ h D m gs bs clk h7.n (cmdV 1 id nn ref).cells.toList .dead [] h' refs ((o.lost.take j).foldl loseM (((outs.take k).flatMap (·.lost)).foldl loseM d8)) gs' rv ∧
        fr 3 = .pointer (some ⟨h.n, 0, none⟩) ∧ fr 4 = .pointer (some ⟨h.n + 1, 0, none⟩) ∧ fr 7 = .pointer (some ⟨h.n + 2, 0, none⟩) ∧ fr 89 = outsV outs ∧ fr 90 = .int .i64 outs.length ∧ fr 91 = .int .i64 k ∧ fr 96 = intsV o.lost ∧ fr 97 = .int .i64 o.lost.length ∧ fr 98 = .int .i64 j) o.lost.length ?_ ?_)
      · exact ⟨0, gs9, rfl, Nat.le_trans hn9 hle10.1, P10, rfl, rfl, rfl, rfl, rfl, rfl, rfl, rfl, rfl⟩
      clear P10 hle10 P
      rintro n2 fr h10 ⟨j, gs10, hn2, hn10, P, f3, f4, f7, f89, f90, f91, f96, f97, f98⟩
      rw [← fr_fix f3, ← fr_fix f4, ← fr_fix f7, ← fr_fix f89, ← fr_fix f90, ← fr_fix f91, ← fr_fix f96, ← fr_fix f97, ← fr_fix f98]
      refine w_seq (w_region ?_)
      refine xo_val rfl (a_bin rfl rfl (bin_lss _ _ _ _ _)) ⟨⟩ ?_
      refine xo_nil (t_norm ?_)
      refine w_seq (w_cond rfl (fun hlt => w_skip (t_norm ?_)) (fun hge => w_exit (t_exit ?_)))
      · have hlt : (j : Int) < o.lost.length := of_decide_eq_true hlt
        have hlo' := hlo o (List.mem_of_getElem? hok)
        obtain ⟨x, hx⟩ : ∃ x, o.lost[j]? = some x := ⟨_, List.getElem?_eq_getElem (by omega)⟩
        refine w_seq (lose_ok (ids := o.lost) (k := j) (id := x) P rfl rfl rfl hx fun fr' h11 gs11 hn11 ⟨e3, e4, e7, e89, e90, e91, e96, e97, e98⟩ P11 => t_norm ?_)
        rw [← fr_fix (e98.trans rfl : fr' 98 = .int .i64 j)]
        refine w_region ?_
        refine xo_val rfl (a_bin rfl rfl (bin_add64 _ _ _ _ (by omega))) ⟨⟩ ?_
        refine xo_val rfl rfl ⟨⟩ ?_
        refine xo_nil ?_
        refine ⟨n2 - 1, by omega, j + 1, gs11, by omega, by omega, ?_, e3, e4, e7, e89, e90, e91, e96, e97, rfl⟩
        rw [List.take_add_one, hx]
        simpa using P11
      · have hge : ¬ (j : Int) < o.lost.length := of_decide_eq_false hge
        have hj : j = o.lost.length := by omega
        subst hj
        refine b_here (id := 7) (b_norm (id := 6) (t_norm ?_))
        refine w_region ?_
        refine xo_val rfl (a_bin rfl rfl (bin_add64 _ _ _ _ (by omega))) ⟨⟩ ?_
        refine xo_val rfl rfl ⟨⟩ ?_
        refine xo_nil ?_
        refine ⟨n - 1, by omega, k + 1, gs10, by omega, by omega, ?_, rfl, rfl, rfl, rfl, rfl, rfl⟩
        rw [List.take_length] at P
        rw [List.take_add_one, hok]
        simpa using P
    · have hge : ¬ (k : Int) < outs.length := of_decide_eq_false hge
      have hk : k = outs.length := by omega
      subst hk
      refine b_here (id := 5) (t_norm ?_)
      rw [List.take_length] at P
      have hp4 := P.p4
      have hp7 := P.p7
      have A := P.acc
      obtain ⟨ra, rc, rfl⟩ := A.slice
      refine w_seq (w_region ?_)
      first | refine xo_val rfl (a_load_pp rfl rfl rfl rfl) ⟨⟩ ?_ | refine xo_val rfl (a_load rfl rfl rfl (cell_of (by repeat' first | assumption | exact AH.get_push_new _ _ | exact AH.get_push_at (by first | (simp only [AH.n_push, AH.n_set]; done) | (simp only [AH.n_push, AH.n_set]; rfl)) | refine AH.get_push_old ?_ _ | apply get_same | refine get_other ?_ (by first | assumption | omega | (simp only [AH.n_push, AH.n_set]; omega) | (dsimp only; omega) | (dsimp only; simp only [AH.n_push, AH.n_set]; omega)) | refine Le.get (by assumption) ?_) rfl rfl)) ⟨⟩ ?_
      refine xo_val rfl rfl ⟨⟩ ?_
      refine xo_val rfl (a_loads (l := [.int .i64 ref.slot, .int .i64 ref.gen]) rfl rfl rfl (cells_of hp4 rfl rfl rfl)) ⟨⟩ ?_
      refine xo_val rfl (a_list (l := [_, _]) rfl rfl rfl rfl rfl) ⟨⟩ ?_
      have hle11 := (Le.refl h9).push (.row [.int .i64 ref.slot, .int .i64 ref.gen] true 2)
      have As : Acc (h9.push (.row [.int .i64 ref.slot, .int .i64 ref.gen] true 2)) 2 (.slice (some ⟨h9.n, 0, none⟩) 1 2) [refV ref] := Acc.new (sz_ref [ref]) (AH.get_push_new _ _) (.inr rfl)
      obtain ⟨p, hp, A2, hB, hbl⟩ := acc_append (T := tab) (t := 30) (xt := 30) (x := .slice (some ⟨h9.n, 0, none⟩) 1 2) (A.le hle11) t30 rfl (fun _ e => by cases e) rfl (As.src rfl) (sz_ref [ref]) (roomOk_of (by simp; omega) (by simp; omega))
      obtain ⟨pv, h12⟩ := p
      dsimp only at A2 hB hbl
      refine xo_val rfl (a_append rfl rfl rfl rfl rfl hp) ⟨⟩ ?_
      refine xo_val rfl rfl ⟨⟩ ?_
      refine xo_nil (t_norm ?_)
      have hms : refs.map refV ++ [refV ref] = (refs ++ [ref]).map refV := by simp
      rw [hms] at A2
      obtain ⟨h13, hG, hB13⟩ := A2.give (fr := fun _ => pv) (fr1 := fun _ => refsV (refs ++ [ref])) (fun b cs k' hz t => hz)
      refine w_ret (ret_give rfl hG ?_)
      have hBa : But (rowBlk (.slice ra (refs.map refV).length rc) ++ rowBlk pv) h9 h13 := by
        have b1 : But (rowBlk (.slice ra (refs.map refV).length rc)) h9 h12 := (hle11.but _).trans hB fun k hk => .inl hk
        exact (b1.mono fun k hk => List.mem_append_left _ hk).trans hB13 fun k hk => .inl (List.mem_append_right _ hk)
      have hpm : publishM d outs ref = (refs ++ [ref], (outs.flatMap (·.lost)).foldl loseM d8) := by
        unfold publishM; rw [hS]
      have hnb : ∀ b, b < h9.n → b ∉ rowBlk (.slice ra (refs.map refV).length rc) → b ∉ rowBlk (.slice ra (refs.map refV).length rc) ++ rowBlk pv := by
        intro b hb hr hm
        rcases List.mem_append.1 hm with x | x
        · exact hr x
        · rcases hbl b x with y | y
          · exact hr y
          · simp at y; omega
      have hn9' := AH.get_lt P.p8
      rw [hpm] at hQ
      refine hQ h13 gs9 (by have := hBa.1; omega) (P.R.but hBa fun b hb => hnb b (P.R.lt hb) (P.fp b hb).2.1) (fun b hb => ?_) (fun b o e hb => ?_)
      · rcases (P.fp b hb).2.2.2.2 with x | x
        · exact .inl x
        · right; omega
      · have hlt := AH.get_lt e
        exact hBa.get (P.keep b o e hb) (hnb b (by omega) fun hm => by have := (P.rvs b hm).1; omega)
end Go.AI.Q
