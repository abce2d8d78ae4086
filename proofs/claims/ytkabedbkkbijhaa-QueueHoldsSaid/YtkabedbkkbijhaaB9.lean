/-
  THE QUEUE'S DESK: publish: its state. (Own work.)
-/
import Derived.Test.YtkabedbkkbijhaaB8
namespace Go.AI.Q
open Go Go.AI Go.Proofs
attribute [local irreducible] xOps xw
structure PJ (h : AH) (D m : Nat) (gs0 : List (Nat × Value)) (bs : List Nat) (clk l : Nat) (cv : List Value) (L : AObj) (own : List Nat) (h' : AH) (refs : List Ref) (d' : DeskM) (gs : List (Nat × Value)) (rv : Value) : Prop where
  R : DeskR h' D m gs bs clk d'
  acc : Acc h' 2 rv (refs.map refV)
  p3 : h'.get h.n = some (.row [.pointer (some ⟨D, 0, none⟩)] true 0)
  p4 : h'.get (h.n + 1) = some (.row cv true 0)
  p7 : h'.get (h.n + 2) = some (.row [rv] true 0)
  p8 : h'.get (h.n + 3) = some (.row [.func (.func 32) #[] #[.pointer (some ⟨h.n + 2, 0, none⟩)]] true 0)
  lp : h'.get l = some L
  fp : ∀ b ∈ Fp D m gs, b ∉ own ∧ b ∉ rowBlk rv ∧ (b < h.n ∨ h.n + 4 ≤ b) ∧ b ≠ l ∧ (b ∈ Fp D m gs0 ∨ h.n + 4 ≤ b)
  rvs : ∀ b ∈ rowBlk rv, h.n + 4 ≤ b ∧ b ∉ own ∧ b ≠ l
  ow : ∀ b ∈ own, h.n + 4 ≤ b ∧ b ≠ l
  keep : ∀ b o, h.get b = some o → b ∉ Fp D m gs0 → h'.get b = some o
  ll : h.n + 4 ≤ l
  fp0 : ∀ b ∈ Fp D m gs0, b < h.n
section
variable {h : AH} {D m : Nat} {gs0 : List (Nat × Value)} {bs : List Nat} {clk l : Nat} {cv : List Value} {L : AObj} {own : List Nat} {h' : AH} {refs : List Ref} {d' : DeskM} {gs : List (Nat × Value)} {rv : Value}
theorem PJ.stay (P : PJ h D m gs0 bs clk l cv L own h' refs d' gs rv) {h2 : AH} {own' : List Nat} (hB : But own h' h2) (ho : ∀ b ∈ own', b ∈ own ∨ h'.n ≤ b) : PJ h D m gs0 bs clk l cv L own' h2 refs d' gs rv := by
  have hn := AH.get_lt P.p8
  have ln := AH.get_lt P.lp
  have no : ∀ b, (b < h.n + 4 ∨ b = l) → b ∉ own := fun b hb hm => by have := P.ow b hm; omega
  refine ⟨P.R.but hB fun b hb => (P.fp b hb).1, P.acc.but hB fun b hb => (P.rvs b hb).2.1, hB.get P.p3 (no _ (by omega)), hB.get P.p4 (no _ (by omega)), hB.get P.p7 (no _ (by omega)), hB.get P.p8 (no _ (by omega)), hB.get P.lp (no _ (by omega)), ?_, ?_, ?_, ?_, P.ll, P.fp0⟩
  · intro b hb
    obtain ⟨a1, a2, a3, a4, a5⟩ := P.fp b hb
    have := P.R.lt hb
    exact ⟨fun x => (ho b x).elim a1 (by omega), a2, a3, a4, a5⟩
  · intro b hb
    obtain ⟨a1, a2, a3⟩ := P.rvs b hb
    have := P.acc.blk_lt b hb
    exact ⟨a1, fun x => (ho b x).elim a2 (by omega), a3⟩
  · intro b hb
    rcases ho b hb with x | x
    · exact P.ow b x
    · omega
  · intro b o e hb
    have := AH.get_lt e
    exact hB.get (P.keep b o e hb) fun x => by have := P.ow b x; omega
theorem PJ.le (P : PJ h D m gs0 bs clk l cv L own h' refs d' gs rv) {h2 : AH} (x : Le h' h2) : PJ h D m gs0 bs clk l cv L own h2 refs d' gs rv := P.stay (x.but _) fun _ hb => .inl hb
theorem PJ.loop (P : PJ h D m gs0 bs clk l cv L own h' refs d' gs rv) (L' : AObj) : PJ h D m gs0 bs clk l cv L' own (h'.set l L') refs d' gs rv := by
  have ll := P.ll
  have oth : ∀ b o, b ≠ l → h'.get b = some o → (h'.set l L').get b = some o := fun b o hb e => get_other e hb
  refine ⟨P.R.keep fun b hb o e => oth b o (P.fp b hb).2.2.2.1 e, P.acc.stay fun b hb o e => oth b o (P.rvs b hb).2.2 e, oth _ _ (by omega) P.p3, oth _ _ (by omega) P.p4, oth _ _ (by omega) P.p7, oth _ _ (by omega) P.p8, get_same P.lp, P.fp, P.rvs, P.ow, ?_, P.ll, P.fp0⟩
  intro b o e hb
  have := AH.get_lt e
  exact oth b o (by omega) (P.keep b o e hb)
/-- Refs came. -/
theorem PJ.gone (P : PJ h D m gs0 bs clk l cv L own h' refs d' gs rv) {h2 : AH} {rv' : Value} {refs' : List Ref} (hB : But ((h.n + 2) :: rowBlk rv) h' h2) (h7 : h2.get (h.n + 2) = some (.row [rv'] true 0)) (A : Acc h2 2 rv' (refs'.map refV)) (hf : ∀ b ∈ rowBlk rv', b ∈ rowBlk rv ∨ h'.n ≤ b) (hown : ∀ b ∈ own, b < h'.n) :
    PJ h D m gs0 bs clk l cv L own h2 refs' d' gs rv' := by
  have hn := AH.get_lt P.p8
  have ln := AH.get_lt P.lp
  have ll := P.ll
  have no : ∀ b, b ≠ h.n + 2 → b ∉ rowBlk rv → b ∉ (h.n + 2) :: rowBlk rv := fun b h1 h2 hm => (List.mem_cons.1 hm).elim h1 h2
  have small : ∀ b, b < h.n + 4 → b ∉ rowBlk rv := fun b hb hm => by have := (P.rvs b hm).1; omega
  refine ⟨P.R.but hB fun b hb => no b ?_ (P.fp b hb).2.1, A, hB.get P.p3 (no _ (by omega) (small _ (by omega))), hB.get P.p4 (no _ (by omega) (small _ (by omega))), h7, hB.get P.p8 (no _ (by omega) (small _ (by omega))), hB.get P.lp (no _ (by omega) fun hm => (P.rvs l hm).2.2 rfl), ?_, ?_, P.ow, ?_, P.ll, P.fp0⟩
  · have := (P.fp b hb).2.2.1; omega
  · intro b hb
    obtain ⟨a1, a2, a3, a4, a5⟩ := P.fp b hb
    have := P.R.lt hb
    exact ⟨a1, fun x => (hf b x).elim a2 (by omega), a3, a4, a5⟩
  · intro b hb
    rcases hf b hb with x | x
    · exact P.rvs b x
    · refine ⟨by omega, fun y => ?_, by omega⟩
      have := hown b y
      omega
  · intro b o e hb
    have := AH.get_lt e
    exact hB.get (P.keep b o e hb) (no _ (by omega) (small _ (by omega)))
/-- A line turns. -/
theorem PJ.turn (P : PJ h D m gs0 bs clk l cv L own h' refs d' gs rv) {h2 : AH} {j : Nat} {ln ln' : LineM} {g : Nat × Value} {v' : Value} (hl : d'.lines[j]? = some ln) (hg : gs[j]? = some g) (hid : ln'.id = ln.id)
    (hB : But (g.1 :: rowBlk g.2) h' h2) (h1 : h2.get g.1 = some (.row [v', .bool ln'.lost] true 0)) (h3 : Acc h2 2 v' (ln'.row.map foundV)) (hf : ∀ b ∈ rowBlk v', b ∈ rowBlk g.2 ∨ h'.n ≤ b) (hown : ∀ b ∈ own, b < h'.n) :
    PJ h D m gs0 bs clk l cv L own h2 refs (d'.setAt j ln') (gs.set j (g.1, v')) rv := by
  have hn := AH.get_lt P.p8
  have lln := AH.get_lt P.lp
  have ll := P.ll
  have inF : ∀ b, b ∈ g.1 :: rowBlk g.2 → b ∈ Fp D m gs := fun b hb => Fp_line hg ((List.mem_cons.1 hb).imp id id)
  have no : ∀ b, b ∉ Fp D m gs → b ∉ g.1 :: rowBlk g.2 := fun b hb hm => hb (inF b hm)
  have mid : ∀ b, h.n ≤ b → b < h.n + 4 → b ∉ Fp D m gs := fun b h1 h2 hm => by have := (P.fp b hm).2.2.1; omega
  refine ⟨P.R.turn hl hg hid hB h1 h3 hf, P.acc.but hB fun b hb => no b fun hm => (P.fp b hm).2.1 hb, hB.get P.p3 (no _ (mid _ (by omega) (by omega))), hB.get P.p4 (no _ (mid _ (by omega) (by omega))), hB.get P.p7 (no _ (mid _ (by omega) (by omega))), hB.get P.p8 (no _ (mid _ (by omega) (by omega))), hB.get P.lp (no _ fun hm => (P.fp l hm).2.2.2.1 rfl), ?_, P.rvs, P.ow, ?_, P.ll, P.fp0⟩
  · intro b hb
    have old : b ∈ Fp D m gs → _ := P.fp b
    rcases Fp_turn hg hb with x | x
    · exact P.fp b x
    · rcases hf b x with y | y
      · exact P.fp b (Fp_line hg (.inr y))
      · refine ⟨fun z => ?_, fun z => ?_, .inr (by omega), by omega, .inr (by omega)⟩
        · have := hown b z; omega
        · have := P.acc.blk_lt b z; omega
  · intro b o e hb
    have hlt := AH.get_lt e
    refine hB.get (P.keep b o e hb) (no _ fun hm => ?_)
    rcases (P.fp b hm).2.2.2.2 with x | x
    · exact hb x
    · omega
end
end Go.AI.Q
