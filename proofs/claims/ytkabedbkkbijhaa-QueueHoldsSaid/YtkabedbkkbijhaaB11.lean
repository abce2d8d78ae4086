/-
  THE QUEUE'S DESK: publish. (Own work; steps printed by wip/gen/walk.py.)
-/
import Derived.Test.YtkabedbkkbijhaaB10
import Derived.Test.YtkabedbkkbijhaaA19
namespace Go.AI.Q
open Go Go.AI Go.Proofs
attribute [local irreducible] xOps xw
def cmdV (kind id n : Int) (r : Ref) : Value :=
  .agg #[.int .i64 kind, .int .i64 id, .int .i64 n, .int .i64 0, .int .i64 0, .int .i64 0, .int .i64 0, .int .i64 0, .int .i64 0, .int .i64 r.slot, .int .i64 r.gen, .slice none 0 0, .int .i64 0, .bool false]
theorem merge33_ok {h : AH} {v : Value} {Q : AO → AH → Prop} (hn : notTup v = true) (hc : v.cells.toList = [v])
    (hQ : ∀ h', Le h h' → h'.get h.n = some (.row [lessV] true 0) → h'.get (h.n + 1) = some (.row [v] true 0) → Q (.ret (.func (.func 37) #[] #[.pointer (some ⟨h.n + 1, 0, none⟩), .pointer (some ⟨h.n, 0, none⟩)])) h') : C 33 [lessV, v] h Q := by
  refine run_33 rfl ?_
  refine w_seq (w_region ?_)
  refine xo_val rfl (a_box rfl rfl) ⟨⟩ ?_
  refine xo_val rfl (a_box (v := v) rfl hn) ⟨⟩ ?_
  rw [hc]
  refine xo_val rfl rfl ⟨⟩ ?_
  refine xo_nil (t_norm ?_)
  refine w_seq (w_region ?_)
  refine xo_val rfl (a_mf (vs := []) (ws := [_, _]) rfl rfl) ⟨⟩ ?_
  refine xo_val rfl rfl ⟨⟩ ?_
  refine xo_nil (t_norm ?_)
  exact w_ret (ret_of rfl (hQ _ (((Le.refl h).push _).push _) (AH.get_push_old (AH.get_push_new _ _) _) (AH.get_push_new _ _)))
theorem flat_hits (rows : List (List Hit)) : flat (rows.map hitsV) = rows.map hitsV := by
  simp only [flat]
  rw [List.flatMap_map]
  exact (List.map_eq_flatMap).symm
theorem zeros_length (z : List Value) (n : Nat) : (zeros z n).length = n * z.length := by
  induction n with
  | zero => simp [zeros]
  | succ n ih => simp [zeros, ih, Nat.add_mul]; omega
theorem foldl_hit_o (r : List Hit) : ∀ (s : List Ref × DeskM), (r.foldl hitM s).2.o = s.2.o ∧ (r.foldl hitM s).2.q = s.2.q := by
  induction r with
  | nil => intro s; exact ⟨rfl, rfl⟩
  | cons x r ih =>
    intro s
    obtain ⟨a, b⟩ := ih (hitM s x)
    obtain ⟨c, d⟩ := hitM_o s x
    exact ⟨a.trans c, b.trans d⟩
theorem foldl_hit_len (r : List Hit) : ∀ (s : List Ref × DeskM), (r.foldl hitM s).1.length ≤ s.1.length + refsOf r := by
  induction r with
  | nil => intro s; simp [refsOf]
  | cons x r ih =>
    intro s
    have h1 := ih (hitM s x)
    have h2 := hitM_refs s x
    simp only [List.foldl_cons, refsOf, List.map_cons, List.sum_cons] at h1 ⊢
    omega
/-- What is known between two hits. -/
def PubI (h : AH) (D m : Nat) (gs0 : List (Nat × Value)) (bs : List Nat) (clk l : Nat) (cv : List Value) (L : AObj) (o : Int) (S : List Ref × DeskM) (own : List Nat) (r : List Hit) (h' : AH) : Prop :=
  ∃ refs d' gs rv, PJ h D m gs0 bs clk l cv L own h' refs d' gs rv ∧ r.foldl hitM (refs, d') = S ∧ refs.length + refsOf r ≤ 100000000 ∧ d'.o = o
theorem round_ok {h : AH} {D m : Nat} {gs0 : List (Nat × Value)} {bs : List Nat} {clk l : Nat} {cv : List Value} {fr : Fr} {o : Int} {S : List Ref × DeskM} (f3 : fr 3 = .pointer (some ⟨h.n, 0, none⟩)) (f8 : fr 8 = .pointer (some ⟨h.n + 3, 0, none⟩)) (ho : o ≤ 4096)
    (own : List Nat) (x : Hit) (r : List Hit) (h1 : AH) (K : AO → AH → Prop) (J : PubI h D m gs0 bs clk l cv (.loop ⟨.ready, none, fr, [38], XC.region x26_10, pubBody⟩) o S own (x :: r) h1) (hown : ∀ b ∈ own, b < h1.n)
    (hK : ∀ h', h1.n ≤ h'.n → (∀ b ∈ own, ∀ o, h1.get b = some o → h'.get b = some o) → PubI h D m gs0 bs clk l cv (.loop ⟨.ready, none, fr, [38], XC.region x26_10, pubBody⟩) o S own r h' → K (.ret (.bool true)) h') : Y l [hitV x] h1 K := by
  obtain ⟨refs, d', gs, rv, P, hS, hbig, hdo⟩ := J
  refine yield_sound hT hM P.lp rfl ?_
  refine w_region ?_
  refine xo_val rfl (a_alloc rfl) ⟨⟩ ?_
  refine xo_val rfl (a_store rfl rfl rfl rfl rfl (store_of (by repeat' first | assumption | exact AH.get_push_new _ _ | exact AH.get_push_at (by first | (simp only [AH.n_push, AH.n_set]; done) | (simp only [AH.n_push, AH.n_set]; rfl)) | refine AH.get_push_old ?_ _ | apply get_same | refine get_other ?_ (by first | assumption | omega | (simp only [AH.n_push, AH.n_set]; omega) | (dsimp only; omega) | (dsimp only; simp only [AH.n_push, AH.n_set]; omega)) | refine Le.get (by assumption) ?_) rfl rfl)) ⟨⟩ ?_
  refine xo_nil ?_
  have hle := ((Le.refl h1).push (.row (Value.agg #[.int .i64 0, .slice none 0 0, .slice none 0 0]).cells.toList true 0)).set (B := h1.n) (Nat.le_refl _) (.row [.int .i64 x.id, setsV x.f.sets, refsV x.f.refs] true 0)
  have P1 := P.le hle
  refine loopAt_of P1.lp ⟨rfl, ?_⟩
  have P2 := P1.loop (.loop ⟨.busy, none, fr, [38], XC.region x26_10, pubBody⟩)
  have hlt := AH.get_lt P.lp
  have hn1 : (((h1.push (.row (Value.agg #[.int .i64 0, .slice none 0 0, .slice none 0 0]).cells.toList true 0)).set h1.n (.row [.int .i64 x.id, setsV x.f.sets, refsV x.f.refs] true 0)).set l (.loop ⟨.busy, none, fr, [38], XC.region x26_10, pubBody⟩)).get h1.n =
      some (.row [.int .i64 x.id, setsV x.f.sets, refsV x.f.refs] true 0) := get_other (get_same (AH.get_push_new _ _)) (by omega)
  have hbig' : refs.length + (x.f.refs.length + refsOf r) ≤ 100000000 := by simpa [refsOf] using hbig
  have hp8 := AH.get_lt P.p8
  refine body_ok (n1 := h1.n) (x := x) P2 (fun b hb => by have := hown b hb; simp; omega) ?_ ?_ rfl hn1 (by omega) (by omega) ⟨by omega, fun hm => by have := P.acc.blk_lt _ hm; omega, fun hm => by have := P.R.lt hm; omega⟩ ?_
  · exact f3
  · exact f8
  intro fr' h' gs' rv' hn' hk' P3
  refine loopAt_of P3.lp ?_
  have P4 := P3.loop (.loop ⟨.ready, none, fr, [38], XC.region x26_10, pubBody⟩)
  refine hK _ (by simp at hn' ⊢; omega) (fun b hb o e => ?_) ⟨_, _, gs', rv', P4, ?_, ?_, ?_⟩
  · have h1b := hown b hb
    have h2b := (P.ow b hb).2
    exact get_other (hk' b hb o (get_other (hle.get e) h2b)) h2b
  · simpa using hS
  · have := hitM_refs (refs, d') x
    dsimp only at this
    omega
  · rw [(hitM_o (refs, d') x).1]; exact hdo
end Go.AI.Q
