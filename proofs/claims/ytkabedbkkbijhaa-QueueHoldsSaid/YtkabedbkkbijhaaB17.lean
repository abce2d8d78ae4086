/-
  THE QUEUE'S LAWS: acts: what they are. (Own work; steps printed by wip/gen/walk.py.)
-/
import Derived.Test.YtkabedbkkbijhaaB16
namespace Go.AI.Q
open Go Go.AI Go.Proofs
attribute [local irreducible] xOps xw
structure ActM where
  kind : Int
  id : Int
  n : Int
  hits : List Int
  lost : List Int
  shard : Int
def actV (s : ActM) : Value := .agg #[.int .i64 s.kind, .int .i64 s.id, .int .i64 s.n, intsV s.hits, intsV s.lost, .int .i64 s.shard]
def hitOf (stamp : Int) (i : Nat) (x : Int) : Hit :=
  if i % 2 = 1 then ⟨restZ x 12, ⟨[[10 * stamp + i], [1]], [⟨10 * stamp + i, 0⟩, ⟨1, stamp⟩]⟩⟩ else ⟨restZ x 12, ⟨[[10 * stamp + i]], [⟨10 * stamp + i, 0⟩]⟩⟩
def insAt (l : List Hit) (id : Int) : Nat → Nat
  | 0 => 0
  | n + 1 => match l[n]? with | some x => if x.id > id then insAt l id n else n + 1 | none => n + 1
def insM (l : List Hit) (h : Hit) : List Hit := l.take (insAt l h.id l.length) ++ h :: l.drop (insAt l h.id l.length)
def slotOf (s : ActM) (i : Nat) : Nat := (restZ (IntKind.i64.wrap (s.shard + i)) 3).toNat
def hitsTo (s : ActM) (stamp : Int) : Nat → List (List Hit)
  | 0 => [[], [], []]
  | i + 1 => match s.hits[i]? with | some x => (hitsTo s stamp i).modify (slotOf s i) fun l => insM l (hitOf stamp i x) | none => hitsTo s stamp i
def lostOf (s : ActM) (i : Nat) : List Int := if i < 2 then (match s.lost[i]? with | some x => [restZ x 12] | none => []) else []
def outsOf (s : ActM) (stamp : Int) : List Out := (hitsTo s stamp (min 6 s.hits.length)).zipIdx.map fun p => ⟨p.1, lostOf s p.2⟩
def kindOf (s : ActM) : Int := restZ s.kind 8
def cmdM (s : ActM) (stamp : Int) : Cmd × List Out :=
  if kindOf s = 0 then (⟨2, 0, 0, ⟨0, 0⟩⟩, [])
  else if kindOf s = 1 then (⟨3, restZ s.id 12, 0, ⟨0, 0⟩⟩, [])
  else if kindOf s = 2 ∨ kindOf s = 3 then (⟨4, restZ s.id 12, restZ s.n 5 - 1, ⟨0, 0⟩⟩, [])
  else if kindOf s = 4 then (⟨5, 0, 0, ⟨0, 0⟩⟩, [])
  else if kindOf s = 5 then (⟨6 + restZ s.n 9, 0, 0, ⟨0, 0⟩⟩, [])
  else (⟨1, 0, 0, ⟨stamp, 7⟩⟩, outsOf s stamp)
theorem length_hitsTo (s : ActM) (stamp : Int) : ∀ i, (hitsTo s stamp i).length = 3
  | 0 => rfl
  | i + 1 => by
    simp only [hitsTo]
    split
    · rw [List.length_modify]; exact length_hitsTo s stamp i
    · exact length_hitsTo s stamp i
theorem slotOf_lt (s : ActM) (i : Nat) : slotOf s i < 3 := by
  have := restZ_lt (IntKind.i64.wrap (s.shard + i)) 3 (by decide)
  unfold slotOf; omega
theorem insAt_le (l : List Hit) (id : Int) : ∀ n, insAt l id n ≤ n
  | 0 => Nat.le_refl _
  | n + 1 => by
    simp only [insAt]
    split
    · split
      · have := insAt_le l id n; omega
      · exact Nat.le_refl _
    · exact Nat.le_refl _
/-- A hit, its rows its own. -/
theorem hit_rows {id n : Int} {h : AH} {Q : AO → AH → Prop} (hQ : ∀ h' b2 b3, Le h h' → h.n ≤ b2 → h.n ≤ b3 → b2 ≠ b3 → h'.get b2 = some (.row [intsV [n]] true 1) → h'.get b3 = some (.row [.int .i64 n, .int .i64 0] true 2) → Q (.ret (.agg #[.int .i64 id, .slice (some ⟨b2, 0, none⟩) 1 2, .slice (some ⟨b3, 0, none⟩) 1 2])) h') :
    C 23 [.int .i64 id, .int .i64 n] h Q := by
  refine run_23 rfl ?_
  refine w_seq (w_region ?_)
  refine xo_val rfl (a_alloc rfl) ⟨⟩ ?_
  refine xo_nil (t_norm ?_)
  refine w_seq (w_region ?_)
  refine xo_val rfl rfl ⟨⟩ ?_
  refine xo_val rfl rfl ⟨⟩ ?_
  refine xo_val rfl (a_list (l := [_]) rfl rfl rfl rfl rfl) ⟨⟩ ?_
  refine xo_val rfl (a_list (l := [_]) rfl rfl rfl rfl rfl) ⟨⟩ ?_
  refine xo_val rfl rfl ⟨⟩ ?_
  refine xo_val rfl (a_struct (l := [_, _]) rfl rfl rfl rfl) ⟨⟩ ?_
  refine xo_val rfl (a_list (l := [_, _]) rfl rfl rfl rfl rfl) ⟨⟩ ?_
  refine xo_val rfl (a_struct (l := [_, _]) rfl rfl rfl rfl) ⟨⟩ ?_
  refine xo_val rfl (a_struct (l := [_, _, _]) rfl rfl rfl rfl) ⟨⟩ ?_
  refine xo_val rfl (a_store rfl rfl rfl rfl rfl (store_of (by repeat' first | assumption | exact AH.get_push_new _ _ | exact AH.get_push_at (by first | (simp only [AH.n_push, AH.n_set]; done) | (simp only [AH.n_push, AH.n_set]; rfl)) | refine AH.get_push_old ?_ _ | apply get_same | refine get_other ?_ (by first | assumption | omega | (simp only [AH.n_push, AH.n_set]; omega) | (dsimp only; omega) | (dsimp only; simp only [AH.n_push, AH.n_set]; omega)) | refine Le.get (by assumption) ?_) rfl rfl)) ⟨⟩ ?_
  refine xo_nil (t_norm ?_)
  refine w_ret (ret_give (rs_cell rfl rfl rfl (cells_of (get_same (AH.get_push_old (AH.get_push_old (AH.get_push_old (AH.get_push_new _ _) _) _) _)) rfl rfl rfl) rs_nil)
    (Gs.up (b := h.n + 1) (c := h.n + 2) (k := 1) (get_other (AH.get_push_old (AH.get_push_old (AH.get_push_new _ _) _) _) (by first | omega | (simp only [AH.n_push, AH.n_set]; omega) | (dsimp only; omega) | (dsimp only; simp only [AH.n_push, AH.n_set]; omega))) (fun _ => .refl _) (get_other (AH.get_push_old (AH.get_push_new _ _) _) (by first | omega | (simp only [AH.n_push, AH.n_set]; omega) | (dsimp only; omega) | (dsimp only; simp only [AH.n_push, AH.n_set]; omega))) (by first | omega | (simp only [AH.n_push, AH.n_set]; omega) | (dsimp only; omega) | (dsimp only; simp only [AH.n_push, AH.n_set]; omega)) (OFZ.rowL (.cons (FZ.flat (els := [intV n]) (sz_int [n])) .nil)))
    (hQ _ (h.n + 2) (h.n + 3) ?_ (by omega) (by omega) (by omega) ?_ ?_))
  · exact (((((((((Le.refl h).push _).push _).push _).push _).set (Nat.le_refl _) _).set (by first | omega | (simp only [AH.n_push, AH.n_set]; omega) | (dsimp only; omega) | (dsimp only; simp only [AH.n_push, AH.n_set]; omega)) _).set (by first | omega | (simp only [AH.n_push, AH.n_set]; omega) | (dsimp only; omega) | (dsimp only; simp only [AH.n_push, AH.n_set]; omega)) _).push _)
  · exact AH.get_push_old (get_same (get_other (get_other (AH.get_push_old (AH.get_push_new _ _) _) (by first | omega | (simp only [AH.n_push, AH.n_set]; omega) | (dsimp only; omega) | (dsimp only; simp only [AH.n_push, AH.n_set]; omega))) (by first | omega | (simp only [AH.n_push, AH.n_set]; omega) | (dsimp only; omega) | (dsimp only; simp only [AH.n_push, AH.n_set]; omega)))) _
  · exact AH.get_push_old (get_other (get_other (get_other (AH.get_push_new _ _) (by first | omega | (simp only [AH.n_push, AH.n_set]; omega) | (dsimp only; omega) | (dsimp only; simp only [AH.n_push, AH.n_set]; omega))) (by first | omega | (simp only [AH.n_push, AH.n_set]; omega) | (dsimp only; omega) | (dsimp only; simp only [AH.n_push, AH.n_set]; omega))) (by first | omega | (simp only [AH.n_push, AH.n_set]; omega) | (dsimp only; omega) | (dsimp only; simp only [AH.n_push, AH.n_set]; omega))) _
theorem bin_and1 (i : Nat) (hi : i < 6) : aBin tab .and 3 (.int .i64 (i : Int)) (.int .i64 1) = some (.int .i64 ((i % 2 : Nat) : Int)) := by
  have h : i = 0 ∨ i = 1 ∨ i = 2 ∨ i = 3 ∨ i = 4 ∨ i = 5 := by omega
  rcases h with rfl | rfl | rfl | rfl | rfl | rfl <;> rfl
end Go.AI.Q
