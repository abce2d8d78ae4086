/-
  THE QUEUE'S LAWS: what a desk does, by its lines. (Own work.)
-/
import Derived.Test.YtkabedbkkbijhaaB23
namespace Go.AI.Q
open Go Go.AI Go.Proofs
def lineOf (ls : List LineM) (id : Int) : Option LineM := ls.find? fun l => id == l.id
def mapAt (id : Int) (g : LineM → LineM) (l : LineM) : LineM := if id = l.id then g l else l
def NodIds (ls : List LineM) : Prop := (ls.map (·.id)).Nodup
theorem findAt_cons (x : LineM) (ls : List LineM) (id : Int) : findAt (x :: ls) id = if id = x.id then some 0 else (findAt ls id).map (· + 1) := by
  unfold findAt
  rw [List.findIdx?_cons]
  by_cases e : id = x.id
  · rw [if_pos e, if_pos (by simpa using e)]
  · rw [if_neg e, if_neg (by simpa using e)]
theorem lineOf_cons (x : LineM) (ls : List LineM) (id : Int) : lineOf (x :: ls) id = if id = x.id then some x else lineOf ls id := by
  unfold lineOf
  rw [List.find?_cons]
  by_cases e : id = x.id
  · rw [if_pos e, show (id == x.id) = true by simpa using e]
  · rw [if_neg e, show (id == x.id) = false by simpa using e]
theorem line_at : ∀ (ls : List LineM) (id : Int), lineOf ls id = (findAt ls id).bind fun j => ls[j]?
  | [], id => rfl
  | x :: ls, id => by
    rw [findAt_cons, lineOf_cons]
    split
    · rfl
    · rw [line_at ls id]
      cases findAt ls id <;> rfl
theorem line_id {ls : List LineM} {id : Int} {l : LineM} (h : lineOf ls id = some l) : l.id = id ∧ l ∈ ls := by
  unfold lineOf at h
  have := List.find?_some h
  exact ⟨(by simpa using this : id = l.id).symm, List.mem_of_find?_eq_some h⟩
theorem line_none {ls : List LineM} {id : Int} (h : lineOf ls id = none) : ∀ l ∈ ls, id ≠ l.id := fun l hl e => by
  have := List.find?_eq_none.1 h l hl
  simp [e] at this
theorem map_off {ls : List LineM} {id : Int} (g : LineM → LineM) (h : ∀ l ∈ ls, id ≠ l.id) : ls.map (mapAt id g) = ls := by
  refine (List.map_congr_left fun l hl => ?_).trans (List.map_id ls)
  exact if_neg (h l hl)
theorem map_none {ls : List LineM} {id : Int} (g : LineM → LineM) (h : findAt ls id = none) : ls.map (mapAt id g) = ls :=
  map_off g (line_none (by rw [line_at, h]; rfl))
theorem NodIds.tail {x : LineM} {ls : List LineM} (h : NodIds (x :: ls)) : NodIds ls ∧ ∀ l ∈ ls, x.id ≠ l.id := by
  unfold NodIds at h
  rw [List.map_cons, List.nodup_cons] at h
  exact ⟨h.2, fun l hl e => h.1 (List.mem_map.2 ⟨l, hl, e.symm⟩)⟩
theorem set_map : ∀ {ls : List LineM} {id : Int} {j : Nat} {l : LineM} (g : LineM → LineM), NodIds ls → findAt ls id = some j → ls[j]? = some l → ls.set j (g l) = ls.map (mapAt id g)
  | [], id, j, l, g, _, h, _ => by cases h
  | x :: ls, id, j, l, g, hn, h, hl => by
    rw [findAt_cons] at h
    obtain ⟨h1, h2⟩ := hn.tail
    by_cases e : id = x.id
    · rw [if_pos e] at h
      cases h
      cases hl
      rw [List.set_cons_zero, List.map_cons, map_off g (fun l hl => e ▸ h2 l hl)]
      simp only [mapAt, if_pos e]
    · rw [if_neg e] at h
      cases hf : findAt ls id with
      | none => rw [hf] at h; cases h
      | some k =>
        rw [hf] at h; cases h
        rw [List.set_cons_succ, List.map_cons, set_map g h1 hf (by simpa using hl)]
        simp only [mapAt, if_neg e]
theorem erase_filter : ∀ {ls : List LineM} {id : Int} {j : Nat}, NodIds ls → findAt ls id = some j → ls.eraseIdx j = ls.filter fun l => !(id == l.id)
  | [], id, j, _, h => by cases h
  | x :: ls, id, j, hn, h => by
    rw [findAt_cons] at h
    obtain ⟨h1, h2⟩ := hn.tail
    by_cases e : id = x.id
    · rw [if_pos e] at h
      cases h
      rw [List.eraseIdx_cons_zero, List.filter_cons, if_neg (by simp [e])]
      exact (List.filter_eq_self.2 fun l hl => by simpa [e] using h2 l hl).symm
    · rw [if_neg e] at h
      cases hf : findAt ls id with
      | none => rw [hf] at h; cases h
      | some k =>
        rw [hf] at h; cases h
        rw [List.eraseIdx_cons_succ, List.filter_cons, if_pos (by simp [e]), erase_filter h1 hf]
theorem line_map (ls : List LineM) (f : LineM → LineM) (hf : ∀ l, (f l).id = l.id) (id : Int) : lineOf (ls.map f) id = (lineOf ls id).map f := by
  induction ls with
  | nil => rfl
  | cons x ls ih =>
    rw [List.map_cons, lineOf_cons, lineOf_cons, hf, ih]
    split <;> rfl
theorem line_filter (ls : List LineM) (id id' : Int) : lineOf (ls.filter fun l => !(id == l.id)) id' = if id' = id then none else lineOf ls id' := by
  induction ls with
  | nil => simp [lineOf]
  | cons x ls ih =>
    rw [List.filter_cons, lineOf_cons]
    by_cases e : id = x.id
    · rw [if_neg (by simp [e]), ih]
      by_cases e' : id' = id
      · rw [if_pos e', if_pos e']
      · rw [if_neg e', if_neg e', if_neg (by rw [← e]; exact e')]
    · rw [if_pos (by simp [e]), lineOf_cons, ih]
      by_cases e' : id' = id
      · rw [if_pos e', if_pos e', if_neg (by rw [e']; exact e)]
      · rw [if_neg e', if_neg e']
theorem line_app (ls : List LineM) (x : LineM) (id : Int) : lineOf (ls ++ [x]) id = match lineOf ls id with | some l => some l | none => if id = x.id then some x else none := by
  induction ls with
  | nil => rw [List.nil_append, lineOf_cons]; rfl
  | cons y ls ih =>
    rw [List.cons_append, lineOf_cons, lineOf_cons, ih]
    split <;> rfl
theorem nod_map {ls : List LineM} (f : LineM → LineM) (hf : ∀ l, (f l).id = l.id) (h : NodIds ls) : NodIds (ls.map f) := by
  unfold NodIds at *
  rw [List.map_map]
  have : ((fun x : LineM => x.id) ∘ f) = fun x => x.id := funext hf
  rwa [this]
theorem nod_filter {ls : List LineM} (p : LineM → Bool) (h : NodIds ls) : NodIds (ls.filter p) := (List.filter_sublist.map _).nodup h
theorem nod_app {ls : List LineM} {x : LineM} (h : NodIds ls) (hx : ∀ l ∈ ls, l.id ≠ x.id) : NodIds (ls ++ [x]) := by
  unfold NodIds at *
  rw [List.map_append, List.nodup_append]
  exact ⟨h, by simp, fun a ha b hb => by
    obtain ⟨l, hl, rfl⟩ := List.mem_map.1 ha
    simp at hb; subst hb
    exact hx l hl⟩
theorem nodup_line : ∀ {ls : List LineM} {l l' : LineM}, NodIds ls → l ∈ ls → l' ∈ ls → l'.id = l.id → l = l'
  | x :: ls, l, l', hn, h, h', e => by
    obtain ⟨h1, h2⟩ := hn.tail
    rcases List.mem_cons.1 h with k | k
    · rcases List.mem_cons.1 h' with k' | k'
      · rw [k, k']
      · exact absurd (k ▸ e.symm) (h2 _ k')
    · rcases List.mem_cons.1 h' with k' | k'
      · exact absurd (k' ▸ e) (h2 _ k)
      · exact nodup_line h1 k k' e
/-! ### a desk's doings, by lines -/
def hitL (o : Int) (f : Found) (l : LineM) : LineM := if l.lost then l else if (l.row.length : Int) ≥ o then { l with lost := true } else { l with row := l.row ++ [f] }
def hitG (o : Int) (f : Found) (l : Option LineM) : List Ref := match l with | none => f.refs | some l => if l.lost = true ∨ (l.row.length : Int) ≥ o then f.refs else []
def lossL (l : LineM) : LineM := { l with lost := true }
def dropL (n : Int) (l : LineM) : LineM := { l with row := l.row.drop (min n.toNat l.row.length) }
theorem hitL_id (o : Int) (f : Found) (l : LineM) : (hitL o f l).id = l.id := by unfold hitL; split; rfl; split <;> rfl
theorem mapAt_id {id : Int} {g : LineM → LineM} (hg : ∀ l, (g l).id = l.id) (l : LineM) : (mapAt id g l).id = l.id := by unfold mapAt; split; exact hg l; rfl
theorem set_self {ls : List LineM} {j : Nat} {l : LineM} (h : ls[j]? = some l) : ls.set j l = ls := by
  obtain ⟨h1, rfl⟩ := List.getElem?_eq_some_iff.1 h
  exact List.set_getElem_self h1
theorem hitM_eq (s : List Ref × DeskM) (x : Hit) (hn : NodIds s.2.lines) : hitM s x = (s.1 ++ hitG s.2.o x.f (lineOf s.2.lines x.id), { s.2 with lines := s.2.lines.map (mapAt x.id (hitL s.2.o x.f)) }) := by
  unfold hitM
  rw [line_at]
  cases hj : findAt s.2.lines x.id with
  | none => simp only [Option.bind_none, hitG, map_none _ hj]
  | some j =>
    simp only [Option.bind_some]
    obtain ⟨hlt, _⟩ := List.findIdx?_eq_some_iff_getElem.1 hj
    have hl : s.2.lines[j]? = some s.2.lines[j] := List.getElem?_eq_getElem hlt
    rw [hl]
    simp only [hitG]
    rw [← set_map _ hn hj hl]
    unfold hitL DeskM.setAt
    split
    · rename_i e
      rw [if_pos (.inl e), set_self hl]
    · rename_i e
      split
      · rename_i e'
        rw [if_pos (.inr e')]
      · rename_i e'
        rw [if_neg (fun h => h.elim e e'), List.append_nil]
theorem loseM_eq (d : DeskM) (id : Int) (hn : NodIds d.lines) : loseM d id = { d with lines := d.lines.map (mapAt id lossL) } := by
  unfold loseM
  cases hj : findAt d.lines id with
  | none => simp only [map_none _ hj]
  | some j =>
    obtain ⟨hlt, _⟩ := List.findIdx?_eq_some_iff_getElem.1 hj
    have hl : d.lines[j]? = some d.lines[j] := List.getElem?_eq_getElem hlt
    simp only [hl]
    rw [← set_map _ hn hj hl]
    rfl
theorem pollM_eq (d : DeskM) (id n : Int) (hn : NodIds d.lines) : pollM d id n = if n < 1 then ⟨1, [], [], d⟩ else match lineOf d.lines id with
    | none => ⟨15, [], [], d⟩
    | some l => if l.row.length = 0 ∧ l.lost = true then ⟨20, [], [], d⟩ else ⟨0, (l.row.take (min n.toNat l.row.length)).map (·.sets), (l.row.take (min n.toNat l.row.length)).flatMap (·.refs), { d with lines := d.lines.map (mapAt id (dropL n)) }⟩ := by
  unfold pollM
  split
  · rfl
  rw [line_at]
  cases hj : findAt d.lines id with
  | none => rfl
  | some j =>
    obtain ⟨hlt, _⟩ := List.findIdx?_eq_some_iff_getElem.1 hj
    have hl : d.lines[j]? = some d.lines[j] := List.getElem?_eq_getElem hlt
    simp only [hl, Option.bind_some]
    split
    · rfl
    · rw [← set_map _ hn hj hl]; rfl
theorem wait_line (d : DeskM) (id : Int) : waitM d id = ((lineOf d.lines id).map fun l => (l.row.length : Int)).getD 0 := by
  unfold waitM
  rw [line_at]
  cases findAt d.lines id with
  | none => rfl
  | some j => simp only [Option.bind_some]
theorem lost_line (d : DeskM) (id : Int) : lostM d id = ((lineOf d.lines id).map fun l => l.lost).getD false := by
  unfold lostM
  rw [line_at]
  cases findAt d.lines id with
  | none => rfl
  | some j => rfl
/-! ### an event, by lines -/
def hitsL (o : Int) (xs : List Hit) (l : LineM) : LineM := xs.foldl (fun l x => mapAt x.id (hitL o x.f) l) l
def lossesL (ids : List Int) (l : LineM) : LineM := ids.foldl (fun l id => mapAt id lossL l) l
theorem hitsL_id (o : Int) : ∀ (xs : List Hit) (l : LineM), (hitsL o xs l).id = l.id
  | [], l => rfl
  | x :: xs, l => (hitsL_id o xs _).trans (mapAt_id (hitL_id o x.f) l)
theorem lossesL_id : ∀ (ids : List Int) (l : LineM), (lossesL ids l).id = l.id
  | [], l => rfl
  | x :: xs, l => (lossesL_id xs _).trans (mapAt_id (g := lossL) (fun _ => rfl) l)
theorem hits_eq : ∀ (xs : List Hit) (s : List Ref × DeskM), NodIds s.2.lines → (xs.foldl hitM s).2 = { s.2 with lines := s.2.lines.map (hitsL s.2.o xs) }
  | [], s, _ => by rw [show hitsL s.2.o [] = id from rfl, List.map_id]; rfl
  | x :: xs, s, hn => by
    rw [List.foldl_cons, hits_eq xs _ (by rw [hitM_eq s x hn]; exact nod_map _ (mapAt_id (hitL_id _ _)) hn), hitM_eq s x hn]
    simp only [List.map_map]
    rfl
theorem losses_eq : ∀ (ids : List Int) (d : DeskM), NodIds d.lines → ids.foldl loseM d = { d with lines := d.lines.map (lossesL ids) }
  | [], d, _ => by rw [show lossesL [] = id from rfl, List.map_id]; rfl
  | x :: xs, d, hn => by
    rw [List.foldl_cons, losses_eq xs _ (by rw [loseM_eq d x hn]; exact nod_map _ (mapAt_id (g := lossL) fun _ => rfl) hn), loseM_eq d x hn]
    simp only [List.map_map]
    rfl
theorem publish_eq (d : DeskM) (outs : List Out) (ref : Ref) (hn : NodIds d.lines) : (publishM d outs ref).2 = { d with lines := d.lines.map fun l => lossesL (outs.flatMap (·.lost)) (hitsL d.o (mergeL (outs.map (·.hits))) l) } := by
  unfold publishM
  simp only
  rw [losses_eq _ _ (by rw [hits_eq _ _ hn]; exact nod_map _ (hitsL_id _ _) hn), hits_eq _ _ hn]
  simp only [List.map_map]
  rfl
/-- What a command turns, by lines. -/
theorem do_lines (d : DeskM) (stamp : Int) (c : Cmd) (outs : List Out) (hn : NodIds d.lines) : (doM d stamp c outs).d = { d with lines := (
    if c.kind = 2 then (if (d.lines.length : Int) ≥ d.q then d.lines else d.lines ++ [⟨stamp, [], false⟩])
    else if c.kind = 3 then d.lines.filter (fun l => !(c.id == l.id))
    else if c.kind = 1 then d.lines.map (fun l => lossesL (outs.flatMap (·.lost)) (hitsL d.o (mergeL (outs.map (·.hits))) l))
    else if c.kind = 4 ∧ 1 ≤ c.n then d.lines.map (mapAt c.id (dropL c.n))
    else d.lines) } := by
  unfold doM
  split
  · split <;> rfl
  split
  · cases hj : findAt d.lines c.id with
    | none =>
      have : lineOf d.lines c.id = none := by rw [line_at, hj]; rfl
      have h2 := line_none this
      have : (d.lines.filter fun l => !(c.id == l.id)) = d.lines := List.filter_eq_self.2 fun l hl => by simpa using h2 l hl
      rw [this]
    | some j => simp only; rw [erase_filter hn hj]
  split
  · exact publish_eq d outs c.ref hn
  split
  · simp only
    rw [pollM_eq d c.id c.n hn]
    by_cases h1 : c.n < 1
    · rw [if_pos h1, if_neg (by omega)]
    · rw [if_neg h1, if_pos ⟨by assumption, by omega⟩]
      split
      · rename_i hl
        rw [map_off _ (line_none hl)]
      · rename_i l hl
        split
        · rename_i hr
          obtain ⟨i1, i2⟩ := line_id hl
          have : d.lines.map (mapAt c.id (dropL c.n)) = d.lines := by
            refine (List.map_congr_left fun l' hl' => ?_).trans (List.map_id _)
            unfold mapAt
            split
            · rename_i e
              have : l' = l := by
                have h3 : (d.lines.find? fun l => c.id == l.id) = some l := hl
                have := nodup_line hn hl' i2 (by rw [i1, e])
                exact this
              subst this
              unfold dropL
              rw [show l'.row = [] from List.length_eq_zero_iff.1 hr.1]
              show (⟨l'.id, List.drop _ [], l'.lost⟩ : LineM) = l'
              rw [List.drop_nil, ← List.length_eq_zero_iff.1 hr.1]
            · rfl
          rw [this]
        · rfl
  rename_i h4
  rw [if_neg (c := c.kind = 4 ∧ 1 ≤ c.n) (fun h => h4 h.1)]
  split <;> rfl
end Go.AI.Q
