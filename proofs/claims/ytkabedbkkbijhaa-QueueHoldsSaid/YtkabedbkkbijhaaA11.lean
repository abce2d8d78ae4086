/-
  REGIONS THAT DRAW THEIR ORDER: what the interpreter finds in one order holds in all. (Own work.)
-/
import Derived.Test.YtkabedbkkbijhaaA10
import Derived.OrdersIn
namespace Go.AI
open Go.RowKit

/-! ### what an operation looks at -/
section
variable {T : Tab}
theorem ev_congr {fr fr' : Fr} {ops : Array Oper} {o : Oper} (h : ∀ t ∈ looks ops o, fr t = fr' t) : ∀ x ∈ o.op.operands.toList, ev fr x = ev fr' x := by
  intro x hx
  cases x with
  | tmp t =>
    refine h t ?_
    unfold looks
    exact List.mem_append.2 (.inl (List.mem_filterMap.2 ⟨.tmp t, hx, rfl⟩))
  | const v => rfl
  | global g => rfl
  | func f => rfl
theorem map_congr' {xs : List Operand} {fr fr' : Fr} (h : ∀ x ∈ xs, ev fr x = ev fr' x) : xs.map (ev fr) = xs.map (ev fr') := List.map_congr_left h
theorem aOp_congr {fr fr' : Fr} {h : AH} {op : Op} (he : ∀ x ∈ op.operands.toList, ev fr x = ev fr' x) : aOp T fr h op = aOp T fr' h op := by
  cases op with
  | build t parts =>
    simp only [Op.operands] at he
    have : (parts.toList.map fun p => (p.1, ev fr p.2)) = parts.toList.map fun p => (p.1, ev fr' p.2) := List.map_congr_left fun p hp => by rw [he p.2 (by simpa using ⟨p.1, by simpa using hp⟩)]
    simp only [aOp, this]
  | buildSlice t n parts =>
    simp only [Op.operands] at he
    have : (parts.toList.map fun p => (p.1, ev fr p.2)) = parts.toList.map fun p => (p.1, ev fr' p.2) := List.map_congr_left fun p hp => by rw [he p.2 (by simpa using ⟨p.1, by simpa using hp⟩)]
    simp only [aOp, this]
  | makeFunc fn p q =>
    simp only [Op.operands, Array.toList_append, List.mem_append] at he
    have e1 : p.map (ev fr) = p.map (ev fr') := by
      apply Array.ext'
      rw [Array.toList_map, Array.toList_map]
      exact List.map_congr_left fun x hx => he x (.inl hx)
    have e2 : q.map (ev fr) = q.map (ev fr') := by
      apply Array.ext'
      rw [Array.toList_map, Array.toList_map]
      exact List.map_congr_left fun x hx => he x (.inr hx)
    simp only [aOp, e1, e2]
  | call c =>
    simp only [Op.operands, Call.operands, Array.toList_append, List.mem_append] at he
    have e1 : c.args.toList.map (ev fr) = c.args.toList.map (ev fr') := List.map_congr_left fun x hx => he x (.inr hx)
    cases hc : c.callee with
    | value f =>
      rw [hc] at he
      have e2 := he f (.inl (by simp))
      simp only [aOp, hc, e1, e2]
    | builtin b => simp only [aOp, hc, e1]
    | invoke r m => simp only [aOp, hc]
  | slice t x lo hi mx =>
    simp only [Op.operands, Array.toList_append, List.mem_append] at he
    have e1 := he x (.inl (.inl (.inl (by simp))))
    have e2 : lo.map (ev fr) = lo.map (ev fr') := by cases lo with | none => rfl | some y => exact congrArg some (he y (.inl (.inl (.inr (by simp)))))
    have e3 : hi.map (ev fr) = hi.map (ev fr') := by cases hi with | none => rfl | some y => exact congrArg some (he y (.inl (.inr (by simp))))
    have e4 : mx.map (ev fr) = mx.map (ev fr') := by cases mx with | none => rfl | some y => exact congrArg some (he y (.inr (by simp)))
    simp only [aOp, e1, e2, e3, e4]
  | makeMap t r => cases r <;> simp [aOp]
  | _ => simp only [Op.operands, List.mem_cons, List.not_mem_nil, or_false, forall_eq_or_imp, forall_eq] at he <;> simp [aOp, he]
theorem wanted_congr {fr fr' : Fr} {ops : Array Oper} {o : Oper} (h : ∀ t ∈ looks ops o, fr t = fr' t) : wanted fr (guardOf ops o) = wanted fr' (guardOf ops o) := by
  cases hg : guardOf ops o with
  | none => rfl
  | some g =>
    obtain ⟨t, b⟩ := g
    have := h t (by unfold looks; rw [hg]; simp)
    simp only [wanted, this]
/-- A quiet operation leaves the heap. -/
theorem quiet_val {fr : Fr} {h : AH} {op : Op} {r : AR} (hq : effOp op = false) (hl : aOp T fr h op = some r) : ∃ v, r = .val v h := by
  cases op with
  | call c =>
    simp only [effOp] at hq
    simp only [aOp] at hl
    split at hl
    · rename_i f hc; simp [hc] at hq
    · rename_i b hc
      unfold aBuiltin at hl
      split at hl
      · simp [hc] at hq
      · obtain ⟨v, _, rfl⟩ := vv_inv hl; exact ⟨v, rfl⟩
      · simp [hc] at hq
      · obtain ⟨v, _, rfl⟩ := vv_inv hl; exact ⟨v, rfl⟩
      · obtain ⟨v, _, rfl⟩ := vv_inv hl; exact ⟨v, rfl⟩
      · cases hl
    · cases hl
  | pick c x y =>
    simp only [aOp] at hl
    split at hl
    · cases hl; exact ⟨_, rfl⟩
    · cases hl
  | nilCheck x =>
    simp only [aOp] at hl
    split at hl
    · cases hl; exact ⟨_, rfl⟩
    · cases hl; exact ⟨_, rfl⟩
    · cases hp : ppOf (ev fr x) with
      | none => rw [hp] at hl; cases hl
      | some y => rw [hp] at hl; cases hl; exact ⟨_, rfl⟩
  | makeInterface t x =>
    simp only [aOp] at hl
    split at hl
    · split at hl
      · cases hl
      · cases hl; exact ⟨_, rfl⟩
    · cases hl
  | makeFunc fn p q =>
    simp only [aOp] at hl
    split at hl
    · cases hl; exact ⟨_, rfl⟩
    · cases hl
  | extract x i =>
    simp only [aOp] at hl
    split at hl
    · obtain ⟨v, _, rfl⟩ := vv_inv hl; exact ⟨v, rfl⟩
    · cases hl
  | move x => simp only [aOp] at hl; cases hl; exact ⟨_, rfl⟩
  | assign x => simp only [aOp] at hl; cases hl; exact ⟨_, rfl⟩
  | _ => first
    | (simp [effOp] at hq; done)
    | (simp only [aOp] at hl; obtain ⟨v, _, rfl⟩ := vv_inv hl; exact ⟨v, rfl⟩)
/-- What reads no heap is the same in every heap. -/
theorem pure_val {fr : Fr} {h : AH} {op : Op} {v : Value} (hq : effOp op = false) (hr : readOp op = false) (hl : aOp T fr h op = some (.val v h)) (h' : AH) : aOp T fr h' op = some (.val v h') := by
  have key : ∀ (x : Option Value), vv h x = some (.val v h) → vv h' x = some (.val v h') := by
    intro x hx
    cases x with
    | none => cases hx
    | some u => simp only [vv, Option.map_some, Option.some.injEq, AR.val.injEq, and_true] at hx ⊢; exact hx
  cases op with
  | call c =>
    simp only [effOp] at hq
    simp only [readOp] at hr
    simp only [aOp] at hl ⊢
    cases hc : c.callee with
    | value f => simp [hc] at hq
    | invoke r m => rw [hc] at hl; cases hl
    | builtin b =>
      rw [hc] at hl
      dsimp only at hl ⊢
      cases b <;> simp [hc] at hq hr <;> simp only [aBuiltin] at hl ⊢ <;> exact key _ hl
  | pick c x y =>
    simp only [aOp] at hl ⊢
    split at hl
    · simp only [Option.some.injEq, AR.val.injEq, and_true] at hl ⊢; exact hl
    · cases hl
  | nilCheck x =>
    simp only [aOp] at hl ⊢
    split at hl
    · simp only [Option.some.injEq, AR.val.injEq, and_true] at hl ⊢; exact hl
    · simp only [Option.some.injEq, AR.val.injEq, and_true] at hl ⊢; exact hl
    · cases hp : ppOf (ev fr x) with
      | none => rw [hp] at hl; cases hl
      | some y =>
        rw [hp] at hl
        simp only [Option.map_some, Option.some.injEq, AR.val.injEq, and_true] at hl ⊢; exact hl
  | makeInterface t x =>
    simp only [aOp] at hl ⊢
    split at hl
    · split at hl
      · cases hl
      · simp only [Option.some.injEq, AR.val.injEq, and_true] at hl ⊢; exact hl
    · cases hl
  | makeFunc fn p q =>
    simp only [aOp] at hl ⊢
    split at hl
    · simp only [Option.some.injEq, AR.val.injEq, and_true] at hl ⊢; exact hl
    · cases hl
  | extract x i =>
    simp only [aOp] at hl ⊢
    split at hl
    · exact key _ hl
    · cases hl
  | move x => simp only [aOp, Option.some.injEq, AR.val.injEq, and_true] at hl ⊢; exact hl
  | assign x => simp only [aOp, Option.some.injEq, AR.val.injEq, and_true] at hl ⊢; exact hl
  | _ => first
    | (simp [effOp] at hq; done)
    | (simp [readOp] at hr; done)
    | (simp only [aOp] at hl ⊢; exact key _ hl)
end
/-! ### objects that wait for their block -/
section
variable {okc : Nat → Code → XC → Prop} {ρ : Ren} {h : AH} {w : World}
theorem HR.ghost (H : HR okc ρ h w) (o : AObj) : HR okc ρ (h.push o) w ∧ Ext ρ h w ρ (h.push o) w := by
  have hget : ∀ B p e, (h.push o).get B = some p → ρ B = some e → h.get B = some p := fun B p e hB he => by
    have := H.dom B e he
    rw [AH.get_push, if_neg (by omega)] at hB; exact hB
  have hown : ∀ k, Own ρ (h.push o) k → Own ρ h k := by
    rintro k ⟨B, e, p, hB, hp, ho, hf⟩
    exact ⟨B, e, p, hB, hget B p e hp hB, ho, hf⟩
  have E : Ext ρ h w ρ (h.push o) w := ⟨.refl _, by simp, fun _ _ => rfl, Nat.le_refl _, rfl, rfl, rfl, fun k _ hk => ⟨rfl, fun x => hk (hown k x)⟩⟩
  exact ⟨⟨fun B e he => by have := H.dom B e he; simp; omega, H.lt, fun B p e hp he => H.obj B p e (hget B p e hp he) he,
    fun B B' e e' p p' hp hp' ho ho' he he' hb => H.inj B B' e e' p p' (hget _ _ _ hp he) (hget _ _ _ hp' he') ho ho' he he' hb,
    fun B e cs sz hp he hown' => H.ro B e cs sz (hget _ _ _ hp he) he (hown _ hown'), H.frz_ext E fun _ _ x => .inl x⟩, E⟩
theorem HR.real (H : HR okc ρ h w) {B : Nat} (hn : ρ B = none) (hB : B < h.n) (O : Obj) {o : AObj} (e : Ent) (hg : h.get B = some o) (he : e.blk = w.heap.size) (hfz : e.frz = none) (hO : OR okc (ρ.add B e) (w.alloc O) e o) :
    HR okc (ρ.add B e) h (w.alloc O) ∧ Sub ρ (ρ.add B e) ∧ (∀ C, C ≠ B → ρ.add B e C = ρ C) ∧ ∀ k, k < w.heap.size → Own (ρ.add B e) h k → Own ρ h k := by
  have hsub : Sub ρ (ρ.add B e) := fun C f hC => by
    unfold Ren.add
    by_cases x : C = B
    · rw [x, hn] at hC; cases hC
    · rw [if_neg x]; exact hC
  have hcase : ∀ C f, ρ.add B e C = some f → (C = B ∧ f = e) ∨ (C ≠ B ∧ ρ C = some f) := fun C f hC => by
    unfold Ren.add at hC
    by_cases x : C = B
    · rw [if_pos x] at hC; cases hC; exact .inl ⟨x, rfl⟩
    · rw [if_neg x] at hC; exact .inr ⟨x, hC⟩
  have hown : ∀ k, k < w.heap.size → Own (ρ.add B e) h k → Own ρ h k := by
    rintro k hk ⟨C, f, p, hC, hp, ho, hf⟩
    rcases hcase C f hC with ⟨_, rfl⟩ | ⟨_, hC'⟩
    · omega
    · exact ⟨C, f, p, hC', hp, ho, hf⟩
  refine ⟨⟨?_, ?_, ?_, ?_, ?_, ?_⟩, hsub, fun C hC => by unfold Ren.add; rw [if_neg hC], hown⟩
  · intro C f hC
    rcases hcase C f hC with ⟨rfl, _⟩ | ⟨_, z⟩
    · exact hB
    · exact H.dom C f z
  · intro C f hC
    rcases hcase C f hC with ⟨_, rfl⟩ | ⟨_, z⟩
    · rw [he]; simp
    · have := H.lt C f z; simp; omega
  · intro C p f hp hf
    rcases hcase C f hf with ⟨x, rfl⟩ | ⟨_, z⟩
    · rw [x, hg] at hp; cases hp; exact .inr hO
    · exact (H.obj C p f hp z).imp id fun hor => hor.mono hsub (heap_alloc_lt w O (H.lt C f z))
  · intro C C' f f' p p' hp hp' ho ho' hf hf' hbb
    rcases hcase C f hf with ⟨x, rfl⟩ | ⟨_, z⟩ <;> rcases hcase C' f' hf' with ⟨y, rfl⟩ | ⟨_, z'⟩
    · rw [x, y]
    · have := H.lt C' f' z'; omega
    · have := H.lt C f z; omega
    · exact H.inj C C' f f' p p' hp hp' ho ho' z z' hbb
  · intro C f cs sz hp hf hown'
    rcases hcase C f hf with ⟨x, rfl⟩ | ⟨_, z⟩
    · obtain ⟨C', f', p', hC', hp', ho', hf'⟩ := hown'
      rcases hcase C' f' hC' with ⟨y, rfl⟩ | ⟨_, z'⟩
      · rw [y, ← x, hp] at hp'; cases hp'; simp [owned] at ho'
      · have := H.lt C' f' z'; omega
    · exact H.ro C f cs sz hp z (hown f.blk (H.lt C f z) hown')
  · intro C f arr hf hfr
    rcases hcase C f hf with ⟨_, x⟩ | ⟨_, z⟩
    · rw [x, hfz] at hfr; cases hfr
    · obtain ⟨⟨t, fz, hh⟩, ho⟩ := H.frz C f arr z hfr
      exact ⟨⟨t, fz, (heap_alloc_lt w O (H.lt C f z)).trans hh⟩, fun x => ho (hown _ (H.lt C f z) x)⟩
end
end Go.AI
