/-
  THE QUEUE'S LAWS: QueueHolds: what came is what was let go and what is held. (Own work.)
-/
import Derived.Test.YtkabedbkkbijhaaB26
namespace Go.AI.Q
open Go Go.AI Go.Proofs
def rowRefs (l : LineM) : List Ref := l.row.flatMap (·.refs)
def heldRefs (d : DeskM) : List Ref := d.lines.flatMap rowRefs
def hitRefs (xs : List Hit) : List Ref := xs.flatMap (·.f.refs)
def outRefs (outs : List Out) : List Ref := outs.flatMap fun o => hitRefs o.hits
theorem held_len (d : DeskM) : (heldRefs d).length = heldM d := by
  unfold heldRefs heldM
  rw [List.length_flatMap]
  congr 1
  refine List.map_congr_left fun l _ => ?_
  unfold rowRefs Q.cnt
  rw [List.length_flatMap]
theorem set_refs : ∀ {ls : List LineM} {j : Nat} {l l' : LineM}, ls[j]? = some l → ((ls.set j l').flatMap rowRefs ++ rowRefs l).Perm (ls.flatMap rowRefs ++ rowRefs l')
  | [], j, l, l', h => by simp at h
  | x :: ls, 0, l, l', h => by
    simp at h; subst h
    rw [List.set_cons_zero, List.flatMap_cons, List.flatMap_cons]
    refine (List.perm_append_comm.append_right _).trans ?_
    rw [List.append_assoc]
    refine (List.Perm.append_left _ List.perm_append_comm).trans ?_
    rw [← List.append_assoc]
    exact List.perm_append_comm.append_right _
  | x :: ls, j + 1, l, l', h => by
    rw [List.set_cons_succ, List.flatMap_cons, List.flatMap_cons, List.append_assoc, List.append_assoc]
    exact (set_refs (by simpa using h)).append_left _
theorem set_refs' {ls : List LineM} {j : Nat} {l l' : LineM} (h : ls[j]? = some l) (e : rowRefs l' = rowRefs l) : ((ls.set j l').flatMap rowRefs).Perm (ls.flatMap rowRefs) := by
  have := set_refs (l' := l') h
  rw [e] at this
  exact (List.perm_append_right_iff _).1 this
theorem hit_refs (s : List Ref × DeskM) (x : Hit) : ((hitM s x).1 ++ heldRefs (hitM s x).2).Perm (s.1 ++ heldRefs s.2 ++ x.f.refs) := by
  have off : (s.1 ++ x.f.refs ++ heldRefs s.2).Perm (s.1 ++ heldRefs s.2 ++ x.f.refs) := by
    rw [List.append_assoc, List.append_assoc]
    exact List.perm_append_comm.append_left _
  unfold hitM
  split
  · exact off
  · split
    · exact off
    · rename_i j hj l hl
      split
      · exact off
      · split
        · refine List.Perm.trans (List.Perm.append_left _ (set_refs' hl rfl)) off
        · have h1 := set_refs (l' := { l with row := l.row ++ [x.f] }) hl
          have e : rowRefs { l with row := l.row ++ [x.f] } = rowRefs l ++ x.f.refs := by simp [rowRefs]
          rw [e, ← List.append_assoc] at h1
          have h2 : (s.2.lines.flatMap rowRefs ++ rowRefs l ++ x.f.refs).Perm (s.2.lines.flatMap rowRefs ++ x.f.refs ++ rowRefs l) := by
            rw [List.append_assoc, List.append_assoc]
            exact List.perm_append_comm.append_left _
          have h3 := (List.perm_append_right_iff _).1 (h1.trans h2)
          rw [List.append_assoc]
          exact h3.append_left _
theorem hits_refs : ∀ (xs : List Hit) (s : List Ref × DeskM), ((xs.foldl hitM s).1 ++ heldRefs (xs.foldl hitM s).2).Perm (s.1 ++ heldRefs s.2 ++ hitRefs xs)
  | [], s => by simp [hitRefs]
  | x :: xs, s => by
    rw [List.foldl_cons]
    refine (hits_refs xs (hitM s x)).trans ?_
    refine ((hit_refs s x).append_right _).trans ?_
    rw [List.append_assoc]
    exact List.Perm.refl _
theorem lose_refs (d : DeskM) (id : Int) : (heldRefs (loseM d id)).Perm (heldRefs d) := by
  unfold loseM
  split
  · exact .refl _
  · split
    · exact .refl _
    · rename_i j hj l hl
      exact set_refs' hl rfl
theorem loses_refs : ∀ (ids : List Int) (d : DeskM), (heldRefs (ids.foldl loseM d)).Perm (heldRefs d)
  | [], d => .refl _
  | x :: xs, d => (loses_refs xs _).trans (lose_refs d x)
theorem flatten_refs : ∀ (outs : List Out), hitRefs (outs.map (·.hits)).flatten = outRefs outs
  | [] => rfl
  | o :: outs => by
    have ih := flatten_refs outs
    unfold hitRefs outRefs at *
    rw [List.map_cons, List.flatten_cons, List.flatMap_append, List.flatMap_cons, ← ih]
    rfl
theorem merged_refs (outs : List Out) : (hitRefs (mergeL (outs.map (·.hits)))).Perm (outRefs outs) := by
  have h1 : (hitRefs (mergeL (outs.map (·.hits)))).Perm (hitRefs (outs.map (·.hits)).flatten) := (mergeL_perm _).flatMap_right _
  rw [← flatten_refs]
  exact h1
theorem erase_refs : ∀ {ls : List LineM} {j : Nat} {l : LineM}, ls[j]? = some l → (rowRefs l ++ (ls.eraseIdx j).flatMap rowRefs).Perm (ls.flatMap rowRefs)
  | [], j, l, h => by simp at h
  | x :: ls, 0, l, h => by
    simp at h; subst h
    rw [List.eraseIdx_cons_zero, List.flatMap_cons]
  | x :: ls, j + 1, l, h => by
    rw [List.eraseIdx_cons_succ, List.flatMap_cons, List.flatMap_cons]
    have ih := erase_refs (ls := ls) (j := j) (l := l) (by simpa using h)
    refine List.Perm.trans ?_ (ih.append_left _)
    rw [← List.append_assoc, ← List.append_assoc]
    exact List.perm_append_comm.append_right _
def cmdRefs (c : Cmd) (outs : List Out) : List Ref := outRefs outs ++ (if c.kind = 1 then [c.ref] else [])
/-- A command: what is let go, and what is held behind it, is what was held and what came. -/
theorem do_refs (d : DeskM) (stamp : Int) (c : Cmd) (outs : List Out) (hno : c.kind ≠ 1 → outs = []) : ((doM d stamp c outs).refs ++ heldRefs (doM d stamp c outs).d).Perm (heldRefs d ++ cmdRefs c outs) := by
  by_cases k1 : c.kind = 1
  · unfold doM
    rw [if_neg (by omega), if_neg (by omega), if_pos k1]
    unfold publishM cmdRefs
    rw [if_pos k1]
    dsimp only
    have h1 := hits_refs (mergeL (outs.map (·.hits))) ([], d)
    have h2 := loses_refs (outs.flatMap (·.lost)) ((mergeL (outs.map (·.hits))).foldl hitM ([], d)).2
    rw [List.append_assoc]
    refine ((List.perm_append_comm.trans (h2.append_right _)).append_left _).trans ?_
    rw [← List.append_assoc, ← List.append_assoc]
    refine (h1.append_right _).trans ?_
    rw [List.nil_append]
    exact ((merged_refs outs).append_left _).append_right _
  · have e0 : cmdRefs c outs = [] := by
      unfold cmdRefs
      rw [if_neg k1, hno k1]
      rfl
    rw [e0, List.append_nil]
    unfold doM
    split
    · split
      · exact .refl _
      · simp [heldRefs, rowRefs]
    split
    · split
      · exact .refl _
      · rename_i j hj
        obtain ⟨hlt, _⟩ := List.findIdx?_eq_some_iff_getElem.1 hj
        have hl : d.lines[j]? = some d.lines[j] := List.getElem?_eq_getElem hlt
        rw [hl]
        exact erase_refs hl
    split
    · unfold pollM
      split
      · exact .refl _
      split
      · exact .refl _
      split
      · exact .refl _
      · rename_i j hj l hl
        split
        · exact .refl _
        · dsimp only
          have h1 := set_refs (l' := { l with row := l.row.drop (min c.n.toNat l.row.length) }) hl
          have e : rowRefs l = (l.row.take (min c.n.toNat l.row.length)).flatMap (·.refs) ++ rowRefs { l with row := l.row.drop (min c.n.toNat l.row.length) } := by
            unfold rowRefs
            dsimp only
            rw [← List.flatMap_append, List.take_append_drop]
          rw [e, ← List.append_assoc] at h1
          exact List.perm_append_comm.trans ((List.perm_append_right_iff _).1 h1)
    split <;> exact .refl _
/-! ### over a script -/
def cmdAt (script : List ActM) (i : Nat) : Cmd × List Out := match script[i]? with | some s => cmdM s (i + 1 : Nat) | none => (⟨0, 0, 0, ⟨0, 0⟩⟩, [])
def refsAt (script : List ActM) : Nat → List Ref
  | 0 => []
  | i + 1 => refsAt script i ++ cmdRefs (cmdAt script i).1 (cmdAt script i).2
def goneAt (q o : Int) (script : List ActM) : Nat → List Ref
  | 0 => []
  | i + 1 => goneAt q o script i ++ (doM (deskAt q o script i) (i + 1 : Nat) (cmdAt script i).1 (cmdAt script i).2).refs
theorem deskAt_cmd {q o : Int} {script : List ActM} {i : Nat} (h : i < script.length) : deskAt q o script (i + 1) = (doM (deskAt q o script i) (i + 1 : Nat) (cmdAt script i).1 (cmdAt script i).2).d := by
  have hs : script[i]? = some script[i] := List.getElem?_eq_getElem h
  rw [deskAt_succ hs]
  simp only [cmdAt, hs]
theorem cmdAt_good {script : List ActM} {i : Nat} (h : i < script.length) : CmdGood (i + 1 : Nat) (cmdAt script i).1 (cmdAt script i).2 := by
  have hs : script[i]? = some script[i] := List.getElem?_eq_getElem h
  simp only [cmdAt, hs]
  exact cmd_good _ _
/-- What came is what was let go and what is held. -/
theorem holds_perm (q o : Int) (script : List ActM) : ∀ i, i ≤ script.length → (refsAt script i).Perm (goneAt q o script i ++ heldRefs (deskAt q o script i))
  | 0, _ => by simp [refsAt, goneAt, deskAt, heldRefs]
  | i + 1, h => by
    have ih := holds_perm q o script i (by omega)
    have hg := cmdAt_good (script := script) (i := i) (by omega)
    have hd := do_refs (deskAt q o script i) (i + 1 : Nat) (cmdAt script i).1 (cmdAt script i).2 hg.none
    rw [deskAt_cmd (by omega)]
    simp only [refsAt, goneAt]
    refine (ih.append_right _).trans ?_
    rw [List.append_assoc, List.append_assoc]
    exact hd.symm.append_left _
theorem cmdRefs_len {stamp : Int} {c : Cmd} {outs : List Out} (h : CmdGood stamp c outs) : (cmdRefs c outs).length ≤ 13 := by
  unfold cmdRefs
  have h1 := (merged_refs outs).length_eq
  have h2 := h.good.big.2
  have h3 : (hitRefs (mergeL (outs.map (·.hits)))).length = refsOf (mergeL (outs.map (·.hits))) := by
    unfold hitRefs refsOf
    rw [List.length_flatMap]
  rw [List.length_append]
  split <;> simp <;> omega
theorem refsAt_len (script : List ActM) : ∀ i, i ≤ script.length → (refsAt script i).length ≤ 13 * i
  | 0, _ => Nat.le_refl _
  | i + 1, h => by
    have ih := refsAt_len script i (by omega)
    have := cmdRefs_len (cmdAt_good (script := script) (i := i) (by omega))
    simp only [refsAt, List.length_append]
    omega
end Go.AI.Q
