/-
  THE QUEUE'S LAWS: what stays within bounds. (Own work.)
-/
import Derived.Test.YtkabedbkkbijhaaB24
namespace Go.AI.Q
open Go Go.AI Go.Proofs
theorem flatten_tail : ∀ (rws : List (List Hit)) (j : Nat) (y : Hit) (r : List Hit), rws[j]? = some (y :: r) → rws.flatten.Perm (y :: (rws.modify j List.tail).flatten)
  | [], j, y, r, h => by simp at h
  | x :: rws, 0, y, r, h => by
    simp at h; subst h
    simp
  | x :: rws, j + 1, y, r, h => by
    have := flatten_tail rws j y r (by simpa using h)
    rw [List.modify_succ_cons, List.flatten_cons, List.flatten_cons]
    exact (this.append_left x).trans List.perm_middle
theorem flatten_nils : ∀ (rws : List (List Hit)), (∀ r ∈ rws, r = []) → rws.flatten = []
  | [], _ => rfl
  | x :: rws, h => by
    rw [List.flatten_cons, h x (List.mem_cons_self ..), flatten_nils rws fun r hr => h r (List.mem_cons_of_mem _ hr)]
    rfl
theorem merge_perm : ∀ (n : Nat) (rws : List (List Hit)), total rws = n → (mergeL rws).Perm rws.flatten := by
  intro n
  induction n with
  | zero =>
    intro rws hn
    cases hb : bestTo rws rws.length with
    | none =>
      rw [mergeL_none hb, flatten_nils rws fun r hr => ?_]
      obtain ⟨i, hi⟩ := List.getElem?_of_mem hr
      exact bestTo_none rws _ hb i r (List.getElem?_eq_some_iff.1 hi).1 hi
    | some p =>
      obtain ⟨_, r, hr⟩ := bestTo_spec rws _ p.1 p.2 hb
      have := total_modify rws p.1 p.2 r hr
      omega
  | succ n ih =>
    intro rws hn
    cases hb : bestTo rws rws.length with
    | none =>
      rw [mergeL_none hb, flatten_nils rws fun r hr => ?_]
      obtain ⟨i, hi⟩ := List.getElem?_of_mem hr
      exact bestTo_none rws _ hb i r (List.getElem?_eq_some_iff.1 hi).1 hi
    | some p =>
      obtain ⟨_, r, hr⟩ := bestTo_spec rws _ p.1 p.2 hb
      have := total_modify rws p.1 p.2 r hr
      rw [mergeL_some hb]
      exact ((ih _ (by omega)).cons p.2).trans (flatten_tail rws _ _ _ hr).symm
theorem mergeL_perm (rws : List (List Hit)) : (mergeL rws).Perm rws.flatten := merge_perm _ rws rfl
def SmallF (f : Found) : Prop := f.refs.length ≤ 2 ∧ f.sets.length ≤ 2 ∧ ∀ s ∈ f.sets, s.length ≤ 1
theorem smallF_ok {f : Found} (h : SmallF f) : Small f.sets := ⟨by have := h.2.1; omega, fun l hl => by have := h.2.2 l hl; omega⟩
theorem hitOf_small (stamp : Int) (i : Nat) (x : Int) : SmallF (hitOf stamp i x).f := by
  unfold hitOf SmallF
  split <;> simp
theorem insM_perm (l : List Hit) (x : Hit) : (insM l x).Perm (x :: l) := by
  unfold insM
  exact List.perm_middle.trans (by rw [List.take_append_drop])
theorem modify_mem {α : Type} (f : α → α) : ∀ (l : List α) (k : Nat) (x : α), x ∈ l.modify k f → x ∈ l ∨ ∃ y ∈ l, x = f y
  | [], k, x, h => by simp at h
  | y :: l, 0, x, h => by
    simp at h
    rcases h with rfl | h
    · exact .inr ⟨y, List.mem_cons_self .., rfl⟩
    · exact .inl (List.mem_cons_of_mem _ h)
  | y :: l, k + 1, x, h => by
    rw [List.modify_succ_cons, List.mem_cons] at h
    rcases h with rfl | h
    · exact .inl (List.mem_cons_self ..)
    · rcases modify_mem f l k x h with h | ⟨z, hz, e⟩
      · exact .inl (List.mem_cons_of_mem _ h)
      · exact .inr ⟨z, List.mem_cons_of_mem _ hz, e⟩
theorem hitsTo_mem (s : ActM) (stamp : Int) : ∀ (i : Nat), ∀ r ∈ hitsTo s stamp i, ∀ x ∈ r, SmallF x.f
  | 0, r, hr, x, hx => by
    simp [hitsTo] at hr
    subst hr; cases hx
  | i + 1, r, hr, x, hx => by
    simp only [hitsTo] at hr
    split at hr
    · rcases modify_mem _ _ _ _ hr with h | ⟨y, hy, rfl⟩
      · exact hitsTo_mem s stamp i r h x hx
      · rcases List.mem_cons.1 ((insM_perm _ _).mem_iff.1 hx) with rfl | h
        · exact hitOf_small ..
        · exact hitsTo_mem s stamp i y hy x h
    · exact hitsTo_mem s stamp i r hr x hx
theorem total_ins (x : Hit) : ∀ (rws : List (List Hit)) (k : Nat), total (rws.modify k fun l => insM l x) ≤ total rws + 1
  | [], k => by simp [total]
  | y :: rws, 0 => by
    have := (insM_perm y x).length_eq
    simp [total, this]; omega
  | y :: rws, k + 1 => by
    have := total_ins x rws k
    simp only [total, List.modify_succ_cons, List.map_cons, List.sum_cons] at this ⊢
    omega
theorem total_hitsTo (s : ActM) (stamp : Int) : ∀ i, total (hitsTo s stamp i) ≤ i
  | 0 => by simp [hitsTo, total]
  | i + 1 => by
    simp only [hitsTo]
    split
    · have := total_ins (hitOf stamp i (by assumption)) (hitsTo s stamp i) (slotOf s i)
      have := total_hitsTo s stamp i
      exact Nat.le_trans (total_ins _ _ _) (by omega)
    · have := total_hitsTo s stamp i; omega
theorem length_flatten' : ∀ (rws : List (List Hit)), rws.flatten.length = total rws := fun rws => by rw [List.length_flatten]; rfl
theorem refsOf_le : ∀ (l : List Hit), (∀ x ∈ l, SmallF x.f) → refsOf l ≤ 2 * l.length
  | [], _ => by simp [refsOf]
  | x :: l, h => by
    have h1 := (h x (List.mem_cons_self ..)).1
    have h2 := refsOf_le l fun y hy => h y (List.mem_cons_of_mem _ hy)
    simp only [refsOf, List.map_cons, List.sum_cons, List.length_cons] at h2 ⊢
    omega
theorem outs_hits (s : ActM) (stamp : Int) : (outsOf s stamp).map (·.hits) = hitsTo s stamp (min 6 s.hits.length) := by
  unfold outsOf
  rw [List.map_map]
  have : ((fun o : Out => o.hits) ∘ fun p : List Hit × Nat => (⟨p.1, lostOf s p.2⟩ : Out)) = Prod.fst := rfl
  rw [this, List.zipIdx_map_fst]
/-- What a told event may be. -/
structure OutsGood (outs : List Out) : Prop where
  len : outs.length ≤ 3
  hit : ∀ o ∈ outs, ∀ x ∈ o.hits, SmallF x.f
  tot : total (outs.map (·.hits)) ≤ 6
  lost : ∀ o ∈ outs, o.lost.length ≤ 1
theorem OutsGood.merged {outs : List Out} (h : OutsGood outs) : ∀ x ∈ mergeL (outs.map (·.hits)), SmallF x.f := fun x hx => by
  have := (mergeL_perm _).mem_iff.1 hx
  obtain ⟨r, hr, hx⟩ := List.mem_flatten.1 this
  obtain ⟨o, ho, rfl⟩ := List.mem_map.1 hr
  exact h.hit o ho x hx
theorem OutsGood.big {outs : List Out} (h : OutsGood outs) : (mergeL (outs.map (·.hits))).length ≤ 6 ∧ refsOf (mergeL (outs.map (·.hits))) ≤ 12 := by
  have h1 := (mergeL_perm (outs.map (·.hits))).length_eq
  rw [length_flatten'] at h1
  have h2 := h.tot
  have h3 := refsOf_le _ h.merged
  omega
theorem OutsGood.ok {outs : List Out} (h : OutsGood outs) {c : Cmd} (hne : c.kind = 1 → outs ≠ []) : OutsOk c outs :=
  ⟨hne, by have := h.len; omega, fun o ho => by have := h.lost o ho; omega, by have := h.big.2; omega⟩
theorem lostOf_le (s : ActM) (i : Nat) : (lostOf s i).length ≤ 1 := by
  unfold lostOf
  split
  · split <;> simp
  · simp
theorem outsOf_len (s : ActM) (stamp : Int) : (outsOf s stamp).length = 3 := by
  unfold outsOf
  rw [List.length_map, List.length_zipIdx, length_hitsTo]
theorem outsOf_good (s : ActM) (stamp : Int) : OutsGood (outsOf s stamp) where
  len := by rw [outsOf_len]; exact Nat.le_refl _
  hit := fun o ho x hx => by
    have : o.hits ∈ (outsOf s stamp).map (·.hits) := List.mem_map.2 ⟨o, ho, rfl⟩
    rw [outs_hits] at this
    exact hitsTo_mem s stamp _ _ this x hx
  tot := by
    rw [outs_hits]
    have := total_hitsTo s stamp (min 6 s.hits.length)
    omega
  lost := fun o ho => by
    obtain ⟨p, _, rfl⟩ := List.mem_map.1 ho
    exact lostOf_le ..
theorem nil_good : OutsGood [] := ⟨by decide, fun o ho => (by cases ho), by decide, fun o ho => (by cases ho)⟩
/-- What a command is. -/
structure CmdGood (stamp : Int) (c : Cmd) (outs : List Out) : Prop where
  good : OutsGood outs
  ne : c.kind = 1 → outs ≠ []
  none : c.kind ≠ 1 → outs = []
  kind : 1 ≤ c.kind ∧ c.kind ≤ 14
  id : 0 ≤ c.id ∧ c.id < 12
  ref : c.ref = ⟨0, 0⟩ ∨ c.ref = ⟨stamp, 7⟩
theorem cmd_good (s : ActM) (stamp : Int) : CmdGood stamp (cmdM s stamp).1 (cmdM s stamp).2 := by
  have h1 := restZ_lt s.id 12 (by decide)
  have h2 := restZ_lt s.n 9 (by decide)
  unfold cmdM
  split
  · exact ⟨nil_good, fun e => (by cases e), fun _ => rfl, (by dsimp only; omega), (by dsimp only; omega), .inl rfl⟩
  split
  · exact ⟨nil_good, fun e => (by cases e), fun _ => rfl, (by dsimp only; omega), h1, .inl rfl⟩
  split
  · exact ⟨nil_good, fun e => (by cases e), fun _ => rfl, (by dsimp only; omega), h1, .inl rfl⟩
  split
  · exact ⟨nil_good, fun e => (by cases e), fun _ => rfl, (by dsimp only; omega), (by dsimp only; omega), .inl rfl⟩
  split
  · exact ⟨nil_good, fun e => (by dsimp only at e; omega), fun _ => rfl, (by dsimp only; omega), (by dsimp only; omega), .inl rfl⟩
  · exact ⟨outsOf_good s stamp, fun _ e => (by have := outsOf_len s stamp; dsimp only at e; rw [e] at this; cases this), fun e => absurd rfl e, (by dsimp only; omega), (by dsimp only; omega), .inr rfl⟩
/-! ### a desk within bounds -/
structure Good (i : Int) (d : DeskM) : Prop where
  q : 1 ≤ d.q ∧ d.q ≤ 4
  o : 1 ≤ d.o ∧ d.o ≤ 6
  len : (d.lines.length : Int) ≤ d.q
  row : ∀ l ∈ d.lines, (l.row.length : Int) ≤ d.o ∧ ∀ f ∈ l.row, SmallF f
  ids : ∀ l ∈ d.lines, 1 ≤ l.id ∧ l.id ≤ i
  nod : NodIds d.lines
theorem sum_refs_le : ∀ (r : List Found), (∀ f ∈ r, SmallF f) → (r.map fun f => f.refs.length).sum ≤ 2 * r.length
  | [], _ => by simp
  | f :: r, h => by
    have h1 := (h f (List.mem_cons_self ..)).1
    have h2 := sum_refs_le r fun y hy => h y (List.mem_cons_of_mem _ hy)
    simp only [List.map_cons, List.sum_cons, List.length_cons]
    omega
theorem Good.cnt {i : Int} {d : DeskM} (G : Good i d) : ∀ l ∈ d.lines, l.row.length ≤ 6 ∧ cnt l ≤ 12 := fun l hl => by
  have h1 := (G.row l hl).1
  have h2 := sum_refs_le l.row (G.row l hl).2
  have h3 := G.o.2
  unfold Q.cnt
  omega
theorem Good.sane {i : Int} {d : DeskM} (G : Good i d) : Sane d := ⟨by have := G.o.2; omega, fun l hl => by have := G.cnt l hl; unfold Q.cnt at this; omega⟩
theorem sum_le_mul : ∀ (l : List Nat) (k : Nat), (∀ x ∈ l, x ≤ k) → l.sum ≤ k * l.length
  | [], k, _ => by simp
  | x :: l, k, h => by
    have h1 := h x (List.mem_cons_self ..)
    have h2 := sum_le_mul l k fun y hy => h y (List.mem_cons_of_mem _ hy)
    rw [List.sum_cons, List.length_cons, Nat.mul_succ]
    omega
theorem Good.held {i : Int} {d : DeskM} (G : Good i d) : heldM d ≤ 48 := by
  have h1 := sum_le_mul (d.lines.map Q.cnt) 12 fun x hx => by
    obtain ⟨l, hl, rfl⟩ := List.mem_map.1 hx
    exact (G.cnt l hl).2
  rw [List.length_map] at h1
  have h2 := G.len
  have h3 := G.q.2
  unfold heldM
  omega
theorem Good.fresh {i stamp : Int} {d : DeskM} (G : Good i d) (h : i < stamp) : findAt d.lines stamp = none := by
  unfold findAt
  refine List.findIdx?_eq_none_iff.2 fun l hl => ?_
  have := (G.ids l hl).2
  simp; omega
def LineOk (o : Int) (l : LineM) : Prop := (l.row.length : Int) ≤ o ∧ ∀ f ∈ l.row, SmallF f
theorem hitL_ok {o : Int} {f : Found} {l : LineM} (hf : SmallF f) (h : LineOk o l) : LineOk o (hitL o f l) := by
  unfold hitL
  split
  · exact h
  · split
    · exact h
    · rename_i hlt
      refine ⟨by simp; omega, fun g hg => ?_⟩
      rcases List.mem_append.1 hg with hg | hg
      · exact h.2 g hg
      · rw [List.mem_singleton.1 hg]; exact hf
theorem hitsL_ok {o : Int} : ∀ (xs : List Hit), (∀ x ∈ xs, SmallF x.f) → ∀ (l : LineM), LineOk o l → LineOk o (hitsL o xs l)
  | [], _, l, h => h
  | x :: xs, hx, l, h => hitsL_ok xs (fun y hy => hx y (List.mem_cons_of_mem _ hy)) _ (by
      show LineOk o (mapAt x.id (hitL o x.f) l)
      unfold mapAt
      split
      · exact hitL_ok (hx x (List.mem_cons_self ..)) h
      · exact h)
theorem lossesL_row : ∀ (ids : List Int) (l : LineM), (lossesL ids l).row = l.row
  | [], l => rfl
  | x :: xs, l => (lossesL_row xs _).trans (by show (mapAt x lossL l).row = l.row; unfold mapAt; split <;> rfl)
/-- A desk stays within bounds. -/
theorem Good.step {i stamp : Int} {d : DeskM} {c : Cmd} {outs : List Out} (G : Good i d) (hs : i < stamp) (h1 : 1 ≤ stamp) (O : OutsGood outs) : Good stamp (doM d stamp c outs).d := by
  have hf := G.fresh hs
  have hmono : ∀ l ∈ d.lines, 1 ≤ l.id ∧ l.id ≤ stamp := fun l hl => ⟨(G.ids l hl).1, by have := (G.ids l hl).2; omega⟩
  have same : ∀ ls : List LineM, ls = d.lines → Good stamp { d with lines := ls } := fun ls e => e ▸ ⟨G.q, G.o, G.len, G.row, hmono, G.nod⟩
  have mapped : ∀ (f : LineM → LineM), (∀ l, (f l).id = l.id) → (∀ l ∈ d.lines, LineOk d.o (f l)) → Good stamp { d with lines := d.lines.map f } := fun f hf hok =>
    ⟨G.q, G.o, by rw [List.length_map]; exact G.len, fun l hl => by obtain ⟨l, hl', rfl⟩ := List.mem_map.1 hl; exact hok l hl', fun l hl => by obtain ⟨l, hl', rfl⟩ := List.mem_map.1 hl; rw [hf]; exact hmono l hl', nod_map f hf G.nod⟩
  rw [do_lines d stamp c outs G.nod]
  split
  · split
    · exact same _ rfl
    · rename_i hlt
      refine ⟨G.q, G.o, by simp; omega, fun l hl => ?_, fun l hl => ?_, nod_app G.nod fun l hl e => ?_⟩
      · rcases List.mem_append.1 hl with hl | hl
        · exact G.row l hl
        · rw [List.mem_singleton.1 hl]
          have := G.o
          exact ⟨by simp; omega, fun f hf => by cases hf⟩
      · rcases List.mem_append.1 hl with hl | hl
        · exact hmono l hl
        · rw [List.mem_singleton.1 hl]; exact ⟨h1, Int.le_refl _⟩
      · have := (G.ids l hl).2
        dsimp only at e
        omega
  split
  · refine ⟨G.q, G.o, ?_, fun l hl => G.row l (List.mem_filter.1 hl).1, fun l hl => hmono l (List.mem_filter.1 hl).1, nod_filter _ G.nod⟩
    have := List.length_filter_le (fun l : LineM => !(c.id == l.id)) d.lines
    have := G.len
    dsimp only
    omega
  split
  · refine mapped _ (fun l => by rw [lossesL_id, hitsL_id]) fun l hl => ?_
    have := hitsL_ok (o := d.o) _ O.merged l (G.row l hl)
    unfold LineOk at *
    rw [lossesL_row]; exact this
  split
  · refine mapped _ (mapAt_id fun _ => rfl) fun l hl => ?_
    unfold mapAt
    split
    · refine ⟨?_, fun f hf => (G.row l hl).2 f (List.mem_of_mem_drop hf)⟩
      have := (G.row l hl).1
      simp only [dropL, List.length_drop]
      omega
    · exact G.row l hl
  · exact same _ rfl
/-! ### the desks of a script -/
def deskAt (q o : Int) (script : List ActM) : Nat → DeskM
  | 0 => ⟨q, o, []⟩
  | i + 1 => match script[i]? with
    | some s => (doM (deskAt q o script i) (i + 1 : Nat) (cmdM s (i + 1 : Nat)).1 (cmdM s (i + 1 : Nat)).2).d
    | none => deskAt q o script i
theorem deskAt_succ {q o : Int} {script : List ActM} {i : Nat} {s : ActM} (h : script[i]? = some s) : deskAt q o script (i + 1) = (doM (deskAt q o script i) (i + 1 : Nat) (cmdM s (i + 1 : Nat)).1 (cmdM s (i + 1 : Nat)).2).d := by
  simp only [deskAt, h]
theorem deskAt_good {q o : Int} {script : List ActM} (hq : 1 ≤ q ∧ q ≤ 4) (ho : 1 ≤ o ∧ o ≤ 6) : ∀ i : Nat, Good i (deskAt q o script i)
  | 0 => ⟨hq, ho, by simp [deskAt]; omega, fun l hl => (by cases hl), fun l hl => (by cases hl), .nil⟩
  | i + 1 => by
    have ih := deskAt_good (script := script) hq ho i
    cases hs : script[i]? with
    | none => simp only [deskAt, hs]; exact ⟨ih.q, ih.o, ih.len, ih.row, fun l hl => ⟨(ih.ids l hl).1, by have := (ih.ids l hl).2; omega⟩, ih.nod⟩
    | some s => rw [deskAt_succ hs]; exact ih.step (by omega) (by omega) (cmd_good s _).good
theorem deskAt_q {q o : Int} {script : List ActM} : ∀ i, (deskAt q o script i).q = q ∧ (deskAt q o script i).o = o
  | 0 => ⟨rfl, rfl⟩
  | i + 1 => by
    have ih := deskAt_q (q := q) (o := o) (script := script) i
    cases hs : script[i]? with
    | none => simp only [deskAt, hs]; exact ih
    | some s =>
      rw [deskAt_succ hs]
      have : ∀ (d : DeskM) (stamp : Int) (c : Cmd) (outs : List Out), (doM d stamp c outs).d.q = d.q ∧ (doM d stamp c outs).d.o = d.o := by
        intro d stamp c outs
        have hl : ∀ (ids : List Int) (d : DeskM), (ids.foldl loseM d).q = d.q ∧ (ids.foldl loseM d).o = d.o := by
          intro ids
          induction ids with
          | nil => exact fun d => ⟨rfl, rfl⟩
          | cons x r ih =>
            intro d
            have h := ih (loseM d x)
            have h2 : (loseM d x).q = d.q ∧ (loseM d x).o = d.o := by unfold loseM; split; exact ⟨rfl, rfl⟩; split <;> exact ⟨rfl, rfl⟩
            exact ⟨h.1.trans h2.1, h.2.trans h2.2⟩
        have hh : ∀ (xs : List Hit) (t : List Ref × DeskM), (xs.foldl hitM t).2.q = t.2.q ∧ (xs.foldl hitM t).2.o = t.2.o := by
          intro xs
          induction xs with
          | nil => exact fun d => ⟨rfl, rfl⟩
          | cons x r ih =>
            intro t
            have h := ih (hitM t x)
            have h2 := hitM_o t x
            exact ⟨h.1.trans h2.2, h.2.trans h2.1⟩
        unfold doM
        split
        · split <;> exact ⟨rfl, rfl⟩
        split
        · split <;> exact ⟨rfl, rfl⟩
        split
        · unfold publishM
          have a := hl (outs.flatMap (·.lost)) ((mergeL (outs.map (·.hits))).foldl hitM ([], d)).2
          have b := hh (mergeL (outs.map (·.hits))) ([], d)
          exact ⟨a.1.trans b.1, a.2.trans b.2⟩
        split
        · unfold pollM
          split
          · exact ⟨rfl, rfl⟩
          split
          · exact ⟨rfl, rfl⟩
          split
          · exact ⟨rfl, rfl⟩
          split <;> exact ⟨rfl, rfl⟩
        split <;> exact ⟨rfl, rfl⟩
      obtain ⟨a, b⟩ := this (deskAt q o script i) (i + 1 : Nat) (cmdM s (i + 1 : Nat)).1 (cmdM s (i + 1 : Nat)).2
      exact ⟨a.trans ih.1, b.trans ih.2⟩
end Go.AI.Q
