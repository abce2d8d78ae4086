/-
  THE QUEUE'S DESK: what a desk does, and the heap with it. (Own work.)
-/
import Derived.Test.YtkabedbkkbijhaaB7
namespace Go.AI.Q
open Go Go.AI Go.Proofs
def DeskM.setAt (d : DeskM) (j : Nat) (l : LineM) : DeskM := { d with lines := d.lines.set j l }
theorem Fp_mem {D m : Nat} {gs : List (Nat × Value)} {b : Nat} : b ∈ Fp D m gs ↔ b = D ∨ b = m ∨ ∃ (i : Nat) (g : Nat × Value), gs[i]? = some g ∧ (b = g.1 ∨ b ∈ rowBlk g.2) := by
  unfold Fp
  rw [List.mem_cons, List.mem_cons, List.mem_flatMap]
  constructor
  · rintro (h | h | ⟨g, hg, hb⟩)
    · exact .inl h
    · exact .inr (.inl h)
    · obtain ⟨i, hi⟩ := List.getElem?_of_mem hg
      exact .inr (.inr ⟨i, g, hi, List.mem_cons.1 hb⟩)
  · rintro (h | h | ⟨i, g, hg, hb⟩)
    · exact .inl h
    · exact .inr (.inl h)
    · exact .inr (.inr ⟨g, List.mem_of_getElem? hg, List.mem_cons.2 hb⟩)
theorem DeskR.lt {h : AH} {D m : Nat} {gs : List (Nat × Value)} {bs : List Nat} {clk : Nat} {d : DeskM} (R : DeskR h D m gs bs clk d) {b : Nat} (hb : b ∈ Fp D m gs) : b < h.n := by
  rcases Fp_mem.1 hb with rfl | rfl | ⟨i, g, hg, hb⟩
  · exact AH.get_lt R.desk
  · exact AH.get_lt R.map
  · have hi : i < d.lines.length := by rw [← R.len]; exact (List.getElem?_eq_some_iff.1 hg).1
    obtain ⟨h1, h2⟩ := R.line i _ g (List.getElem?_eq_getElem hi) hg
    rcases hb with rfl | hb
    · exact AH.get_lt h1
    · exact h2.blk_lt b hb
/-- One line turns. -/
theorem DeskR.turn {h h' : AH} {D m : Nat} {gs : List (Nat × Value)} {bs : List Nat} {clk : Nat} {d : DeskM} {j : Nat} {l l' : LineM} {g : Nat × Value} {v' : Value} (R : DeskR h D m gs bs clk d) (hl : d.lines[j]? = some l) (hg : gs[j]? = some g) (hid : l'.id = l.id)
    (hB : But (g.1 :: rowBlk g.2) h h') (h1 : h'.get g.1 = some (.row [v', .bool l'.lost] true 0)) (h2 : Acc h' 2 v' (l'.row.map foundV)) (hf : ∀ b ∈ rowBlk v', b ∈ rowBlk g.2 ∨ h.n ≤ b) :
    DeskR h' D m (gs.set j (g.1, v')) bs clk (d.setAt j l') := by
  have hone := R.sep.one j g hg
  have hjl := (List.getElem?_eq_some_iff.1 hl).1
  have hjg := (List.getElem?_eq_some_iff.1 hg).1
  have hD : D ∉ g.1 :: rowBlk g.2 := by rw [List.mem_cons]; rintro (e | e); exact hone.1 e.symm; exact hone.2.2.1 e
  have hm : m ∉ g.1 :: rowBlk g.2 := by rw [List.mem_cons]; rintro (e | e); exact hone.2.1 e.symm; exact hone.2.2.2.1 e
  have lt1 : ∀ (i : Nat) (x : Nat × Value), gs[i]? = some x → x.1 < h.n ∧ ∀ b ∈ rowBlk x.2, b < h.n := fun i x hx => ⟨R.lt (Fp_line hx (.inl rfl)), fun b hb => R.lt (Fp_line hx (.inr hb))⟩
  have cases_set : ∀ (i : Nat) (x : Nat × Value), (gs.set j (g.1, v'))[i]? = some x → (i = j ∧ x = (g.1, v')) ∨ (i ≠ j ∧ gs[i]? = some x) := fun i x hx => by
    rw [List.getElem?_set] at hx
    by_cases e : j = i
    · rw [if_pos e, if_pos (by omega)] at hx
      cases hx; exact .inl ⟨e.symm, rfl⟩
    · rw [if_neg e] at hx; exact .inr ⟨fun x => e x.symm, hx⟩
  have hDn := AH.get_lt R.desk
  have hmn := AH.get_lt R.map
  have hgn := (lt1 j g hg).1
  refine ⟨hB.get R.desk hD, ?_, by simp [DeskM.setAt, R.len], by simp [DeskM.setAt, R.blen], R.bnd, R.blt, ?_, ⟨R.sep.dm, ?_, ?_⟩, ?_⟩
  · rw [hB.get R.map hm]
    congr 2
    apply List.ext_getElem?
    intro i
    rw [List.getElem?_zipWith, List.getElem?_zipWith]
    simp only [DeskM.setAt, List.getElem?_set]
    by_cases e : j = i
    · subst e
      rw [if_pos rfl, if_pos rfl, if_pos hjl, if_pos hjg, hl, hg]
      simp [entry, hid]
    · rw [if_neg e, if_neg e]
  · intro i x y hx hy
    simp only [DeskM.setAt] at hx
    rcases cases_set i y hy with ⟨rfl, rfl⟩ | ⟨hne, hy⟩
    · rw [List.getElem?_set, if_pos rfl, if_pos hjl] at hx
      cases hx
      exact ⟨h1, h2⟩
    · rw [List.getElem?_set, if_neg (Ne.symm hne)] at hx
      obtain ⟨k1, k2⟩ := R.line i x y hx hy
      obtain ⟨t1, t2, t3⟩ := R.sep.two i j y g hne hy hg
      obtain ⟨u1, u2, u3⟩ := R.sep.two j i g y (Ne.symm hne) hg hy
      refine ⟨hB.get k1 (by rw [List.mem_cons]; rintro (e | e); exact t1 e; exact t2 e), k2.but hB fun b hb => ?_⟩
      rw [List.mem_cons]
      rintro (e | e)
      · exact u2 (e ▸ hb)
      · exact t3 b hb e
  · intro i x hx
    rcases cases_set i x hx with ⟨rfl, rfl⟩ | ⟨hne, hx⟩
    · refine ⟨hone.1, hone.2.1, ?_, ?_, ?_⟩ <;> intro hb <;> rcases hf _ hb with e | e
      · exact hone.2.2.1 e
      · omega
      · exact hone.2.2.2.1 e
      · omega
      · exact hone.2.2.2.2 e
      · dsimp only at e; omega
    · exact R.sep.one i x hx
  · intro i k x y hik hx hy
    rcases cases_set i x hx with ⟨rfl, rfl⟩ | ⟨hne, hx2⟩ <;> rcases cases_set k y hy with ⟨rfl, rfl⟩ | ⟨hne', hy2⟩
    · exact absurd rfl hik
    · obtain ⟨t1, t2, t3⟩ := R.sep.two i k g y hik hg hy2
      refine ⟨t1, t2, fun b hb hc => ?_⟩
      rcases hf b hb with e | e
      · exact t3 b e hc
      · have := (lt1 k y hy2).2 b hc; omega
    · obtain ⟨t1, t2, t3⟩ := R.sep.two i k x g hik hx2 hg
      refine ⟨t1, fun hb => ?_, fun b hb hc => ?_⟩
      · rcases hf _ hb with e | e
        · exact t2 e
        · have := (lt1 i x hx2).1; omega
      · rcases hf b hc with e | e
        · exact t3 b hb e
        · have := (lt1 i x hx2).2 b hb; omega
    · exact R.sep.two i k x y hik hx2 hy2
  · have : (d.setAt j l').lines.map (·.id) = d.lines.map (·.id) := by
      simp only [DeskM.setAt]
      apply List.ext_getElem?
      intro i
      rw [List.getElem?_map, List.getElem?_map, List.getElem?_set]
      by_cases e : j = i
      · subst e; rw [if_pos rfl, if_pos hjl, hl]; simp [hid]
      · rw [if_neg e]
    rw [this]; exact R.ids
/-- The blocks of a desk, one line of which turned. -/
theorem Fp_turn {D m : Nat} {gs : List (Nat × Value)} {j : Nat} {g : Nat × Value} {v' : Value} (hg : gs[j]? = some g) {b : Nat} (hb : b ∈ Fp D m (gs.set j (g.1, v'))) : b ∈ Fp D m gs ∨ b ∈ rowBlk v' := by
  rcases Fp_mem.1 hb with rfl | rfl | ⟨i, x, hx, hb⟩
  · exact .inl (by simp [Fp])
  · exact .inl (by simp [Fp])
  · rw [List.getElem?_set] at hx
    by_cases e : j = i
    · rw [if_pos e] at hx
      split at hx
      · cases hx
        rcases hb with rfl | hb
        · exact .inl (Fp_line hg (.inl rfl))
        · exact .inr hb
      · cases hx
    · rw [if_neg e] at hx
      exact .inl (Fp_line hx hb)
/-! ### what a desk does -/
def hitM (s : List Ref × DeskM) (x : Hit) : List Ref × DeskM :=
  match findAt s.2.lines x.id with
  | none => (s.1 ++ x.f.refs, s.2)
  | some j =>
    match s.2.lines[j]? with
    | none => (s.1 ++ x.f.refs, s.2)
    | some l =>
      if l.lost then (s.1 ++ x.f.refs, s.2)
      else if (l.row.length : Int) ≥ s.2.o then (s.1 ++ x.f.refs, s.2.setAt j { l with lost := true })
      else (s.1, s.2.setAt j { l with row := l.row ++ [x.f] })
def loseM (d : DeskM) (id : Int) : DeskM :=
  match findAt d.lines id with
  | none => d
  | some j =>
    match d.lines[j]? with
    | none => d
    | some l => d.setAt j { l with lost := true }
def publishM (d : DeskM) (outs : List Out) (ref : Ref) : List Ref × DeskM :=
  let s := (mergeL (outs.map (·.hits))).foldl hitM ([], d)
  (s.1 ++ [ref], (outs.flatMap (·.lost)).foldl loseM s.2)
def refsOf (l : List Hit) : Nat := (l.map fun x => x.f.refs.length).sum
theorem hitM_refs (s : List Ref × DeskM) (x : Hit) : (hitM s x).1.length ≤ s.1.length + x.f.refs.length := by
  unfold hitM
  split
  · simp
  · split
    · simp
    · split
      · simp
      · split <;> simp
theorem hitM_o (s : List Ref × DeskM) (x : Hit) : (hitM s x).2.o = s.2.o ∧ (hitM s x).2.q = s.2.q := by
  unfold hitM
  split
  · exact ⟨rfl, rfl⟩
  · split
    · exact ⟨rfl, rfl⟩
    · split
      · exact ⟨rfl, rfl⟩
      · split <;> exact ⟨rfl, rfl⟩
end Go.AI.Q
