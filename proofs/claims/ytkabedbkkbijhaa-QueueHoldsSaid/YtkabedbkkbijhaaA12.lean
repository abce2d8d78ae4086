/-
  REGIONS, CODE, CALLS: the interpreter against the model. (Own work.)
-/
import Derived.Test.YtkabedbkkbijhaaA11
namespace Go.AI
open Go.RowKit

def mark (D : Nat) : Deferred := { target := .collected D, args := #[] }
/-- The parts of a state that outlive its frame. -/
structure SW (okc : Nat → Code → XC → Prop) (ng lo : Nat) (ρ : Ren) (h : AH) (a : Act) (w : World) : Prop where
  H : HR okc ρ h w
  glob : Glob ng ρ
  marks : ∃ Ds : List Nat, a.defers = Ds.map mark ∧ Ds.Nodup ∧ ∀ D ∈ Ds, lo ≤ D ∧ w.heap[D]? = some (.deferred (some [])) ∧ ¬ Own ρ h D
structure SR (okc : Nat → Code → XC → Prop) (ng nt lo : Nat) (ρ : Ren) (fr : Fr) (h : AH) (a : Act) (w : World) : Prop extends SW okc ng lo ρ h a w where
  fr : FrR ρ fr a.tmps
  size : a.tmps.size = nt
section
variable {okc : Nat → Code → XC → Prop} {ng nt lo : Nat} {P : Program} {T : Tab} {ρ ρ' : Ren} {h h' : AH} {a : Act} {w w' : World} {fr : Fr}
theorem SW.ext (S : SW okc ng lo ρ h a w) (H : HR okc ρ' h' w') (E : Ext ρ h w ρ' h' w') : SW okc ng lo ρ' h' a w' := by
  refine ⟨H, S.glob.mono E.sub, ?_⟩
  obtain ⟨Ds, h1, hn, h2⟩ := S.marks
  refine ⟨Ds, h1, hn, fun D hD => ?_⟩
  obtain ⟨a1, a2, a3⟩ := h2 D hD
  have hlt : D < w.heap.size := (Array.getElem?_eq_some_iff.1 a2).1
  obtain ⟨k1, k2⟩ := E.keep D hlt a3
  exact ⟨a1, k1.trans a2, k2⟩
theorem SW.act (S : SW okc ng lo ρ h a w) {b : Act} (hb : b.defers = a.defers) : SW okc ng lo ρ h b w := ⟨S.H, S.glob, by rw [hb]; exact S.marks⟩
theorem FrR.put (F : FrR ρ fr a.tmps) (hs : Sub ρ ρ') {d : Option Tmp} (hd : ∀ x, d = some x → x < a.tmps.size) {v v' : Value} (hv : VR ρ' v v') : FrR ρ' (fr.put d v) (a.put d v').tmps := by
  intro t
  cases d with
  | none => exact (F t).mono hs
  | some x =>
    have hx := hd x rfl
    simp only [Fr.put, Act.put]
    by_cases e : t = x
    · subst e
      rw [if_pos rfl]
      simpa [Array.getD_eq_getD_getElem?, hx] using hv
    · rw [if_neg e]
      have := (F t).mono hs
      simpa [Array.getD_eq_getD_getElem?, Array.getElem?_setIfInBounds, Ne.symm e] using this
theorem Act.put_size (a : Act) (d : Option Tmp) (v : Value) : (a.put d v).tmps.size = a.tmps.size := by cases d <;> simp [Act.put]
theorem Act.put_def (a : Act) (d : Option Tmp) (v : Value) : (a.put d v).defers = a.defers := by cases d <;> rfl
theorem wanted_rel {ops : Array Oper} {o : Oper} (F : FrR ρ fr a.tmps) (hs : a.tmps.size = nt) (hg : okGuard ops nt o = true) : Region.wanted o (yielded ops a.tmps) = wanted fr (guardOf ops o) := by
  unfold okGuard at hg
  unfold Region.wanted guardOf
  cases hgu : o.guard with
  | none => rfl
  | some jb =>
    obtain ⟨j, b⟩ := jb
    rw [hgu] at hg
    dsimp only at hg ⊢
    cases hd : (ops[j]?).bind (·.dst) with
    | none => rw [hd] at hg; cases hg
    | some d =>
      rw [hd] at hg
      have hlt : d < a.tmps.size := by rw [hs]; simpa using hg
      have hF := F d
      have e1 : a.tmps.getD d undef = a.tmps[d] := by simp [Array.getD_eq_getD_getElem?, hlt]
      rw [e1] at hF
      simp only [yielded, hd, Option.bind_some, wanted, Option.getD_some, Array.getElem?_eq_getElem hlt]
      revert hF
      generalize a.tmps[d] = v'
      generalize fr d = v
      intro hF
      cases hF <;> first | rfl | (cases b <;> rename_i c <;> cases c <;> rfl)
/-- What a call comes to. -/
inductive OutR (ρ : Ren) : AO → Ending → Prop
  | ret {v v' : Value} (h : VR ρ v v') : OutR ρ (.ret v) (.returned v')
  | panic {v v' : Value} (h : VR ρ v v') : OutR ρ (.panic v) (.panicked [{ v := v', recovered := false }])
def Post (okc : Nat → Code → XC → Prop) (ρ : Ren) (h : AH) (w : World) (Q : AO → AH → Prop) (e : Ending) (w' : World) : Prop :=
  ∃ ρ' h' r, OutR ρ' r e ∧ HR okc ρ' h' w' ∧ Ext ρ h w ρ' h' w' ∧ Q r h'
/-- A function's contract. -/
def AC (okc : Nat → Code → XC → Prop) (ng : Nat) (P : Program) : CT := fun f args h Q =>
  HasBody P f ∧ ∀ ρ w (args' : Array Value), HR okc ρ h w → Glob ng ρ → VL ρ args args'.toList → Calls P f args' w (Post okc ρ h w Q)
/-- yield's. -/
def AY (okc : Nat → Code → XC → Prop) (ng : Nat) (P : Program) : YT := fun l args h Q =>
  ∀ ρ w e (args' : Array Value), HR okc ρ h w → Glob ng ρ → ρ l = some e → VL ρ args args'.toList →
    ∃ fn tmps assign body, (Instr.yield e.blk args').run P w = .ok (.round e.blk fn tmps assign body) w ∧ RoundIn Fence.wide 0 P e.blk fn tmps assign body w (Post okc ρ h w Q)
theorem AC.mono {f : FuncId} {args : List Value} {Q Q' : AO → AH → Prop} (hc : AC okc ng P f args h Q) (hq : ∀ r h', Q r h' → Q' r h') : AC okc ng P f args h Q' :=
  ⟨hc.1, fun ρ w args' H G V => (hc.2 ρ w args' H G V).mono fun _ _ ⟨ρ', h', r, a, b, c, d⟩ => ⟨ρ', h', r, a, b, c, hq _ _ d⟩⟩
def fence (rd : Option Nat) : Fence := { Fence.wide with round := rd }
theorem calls_in {rd : Option Nat} {n : Nat} {f : FuncId} {args : Array Value} {R : Ending → World → Prop} (hc : Calls P f args w R) : CallsIn (fence rd) n P f args w R := callsIn_wide.2 hc
/-- One operation, whose answer is known. -/
theorem one_sound (hT : ∀ t i, T t = some i → tabOf P t = some i) {rd : Option Nat} {ops : Array Oper} {i : Nat} {o : Oper} {Q : Exit → Act → World → Prop} {K' : Act → World → Prop} {r : AR} {K Kp : Value → AH → Prop}
    (ho : ops[i]? = some o) (S : SR okc ng nt lo ρ fr h a w) (hok : okOper ng nt ops o = true) (hw : wanted fr (guardOf ops o) = true) (hr : aOp T fr h o.op = some r)
    (hx : xR (AC okc ng P) (AY okc ng P) h K Kp (some r))
    (hK : ∀ ρ' v v' h' w', VR ρ' v v' → HR okc ρ' h' w' → Ext ρ h w ρ' h' w' → K v h' → K' (a.put o.dst v') w')
    (hP : ∀ ρ' v v' h' w', VR ρ' v v' → HR okc ρ' h' w' → Ext ρ h w ρ' h' w' → Kp v h' → Q (.panic [{ v := v', recovered := false }]) a w')
    : wpOpIn (fence rd) 0 P ops Q i K' a w := by
  unfold okOper at hok
  simp only [Bool.and_eq_true] at hok
  have hwr := wanted_rel (o := o) S.fr S.size hok.2
  have hst := op_sound (o := o) hT S.H S.fr S.glob hok.1.1 hr
  unfold wpOpIn
  rw [ho]
  dsimp only
  rw [hwr, hw, if_pos rfl]
  refine ⟨fun _ _ => trivial, ?_⟩
  have hnd : o.semAt (fence rd).round a.eval = execOp a.eval o := Oper.semAt_eq _ _ _ (by
    intro c hc
    rw [hc] at hr; simp [aOp] at hr)
  rw [hnd]
  generalize (execOp a.eval o).run P w = res at hst ⊢
  cases hst with
  | val hn hv H' E =>
    rename_i n v v' h' ρ' w'
    have hk := hK ρ' v v' h' w' hv H' E hx
    rcases hn with rfl | ⟨rfl, rfl⟩ <;> exact hk
  | any hp hv H' E =>
    rename_i l p v' ρ' w'
    exact hK ρ' p.1 v' p.2 w' hv H' E (hx p hp)
  | call ha hrun =>
    rename_i f args args'
    obtain ⟨hb, hc⟩ := hx
    rw [hrun hb]
    show (_ → _) ∧ CallsIn _ _ _ _ _ _ _
    refine ⟨fun hd => by simp [fence, Fence.wide] at hd, ?_⟩
    refine CallsIn.mono (calls_in (hc ρ w args' S.H S.glob ha)) ?_
    rintro e w' ⟨ρ', h', out, hout, H', E, hq⟩
    cases hout with
    | ret hv => exact hK _ _ _ _ _ hv H' E hq
    | panic hv => exact hP _ _ _ _ _ hv H' E hq
  | panic hv => exact hP ρ _ _ h w hv S.H (.refl _ _ _) hx
  | yield he ha hrun =>
    rename_i l e args args'
    obtain ⟨fn, tmps, assign, body, h1, h2⟩ := hx ρ w e args' S.H S.glob he ha
    rw [hrun, h1]
    show (_ → _) ∧ RoundIn _ _ _ _ _ _ _ _ _ _
    refine ⟨fun hd => by simp [fence, Fence.wide] at hd, ?_⟩
    refine RoundIn.mono (show RoundIn (fence rd) 0 P _ _ _ _ _ _ _ from h2) ?_
    rintro e w' ⟨ρ', h', out, hout, H', E, hq⟩
    cases hout with
    | ret hv => exact hK _ _ _ _ _ hv H' E hq
    | panic hv => exact hP _ _ _ _ _ hv H' E hq
theorem skip_sound {rd : Option Nat} {ops : Array Oper} {i : Nat} {o : Oper} {Q : Exit → Act → World → Prop} {K' : Act → World → Prop}
    (ho : ops[i]? = some o) (S : SR okc ng nt lo ρ fr h a w) (hok : okOper ng nt ops o = true) (hw : wanted fr (guardOf ops o) = false) (hK : K' (a.put o.dst undef) w) : wpOpIn (fence rd) 0 P ops Q i K' a w := by
  unfold okOper at hok
  simp only [Bool.and_eq_true] at hok
  have hwr := wanted_rel (o := o) S.fr S.size hok.2
  unfold wpOpIn
  rw [ho]
  dsimp only
  rw [hwr, hw]
  exact ⟨fun _ _ => trivial, hK⟩
theorem SR.put (S : SR okc ng nt lo ρ fr h a w) (H : HR okc ρ' h' w') (E : Ext ρ h w ρ' h' w') {d : Option Tmp} (hd : ∀ x, d = some x → x < nt) {v v' : Value} (hv : VR ρ' v v') : SR okc ng nt lo ρ' (fr.put d v) h' (a.put d v') w' :=
  { (S.toSW.ext H E).act (Act.put_def a d v') with
    fr := S.fr.put E.sub (fun x hx => by rw [S.size]; exact hd x hx) hv
    size := (Act.put_size a d v').trans S.size }
theorem okOper_dst {ops : Array Oper} {o : Oper} (hok : okOper ng nt ops o = true) : ∀ x, o.dst = some x → x < nt := by
  intro x hx
  unfold okOper at hok
  rw [hx] at hok
  simp only [Bool.and_eq_true, decide_eq_true_eq] at hok
  exact hok.1.2
/-- In the order of the text. -/
theorem text_sound (hT : ∀ t i, T t = some i → tabOf P t = some i) {rd : Option Nat} {ops : Array Oper} {Q : Exit → Act → World → Prop} (hok : ∀ (i : Nat) (o : Oper), ops[i]? = some o → okOper ng nt ops o = true)
    {Kp : Value → AH → Prop} {K : Fr → AH → Prop} {ρ0 : Ren} {h0 : AH} {w0 : World}
    (hK : ∀ ρ fr h a w, SR okc ng nt lo ρ fr h a w → Ext ρ0 h0 w0 ρ h w → K fr h → Q .normal a w)
    (hP : ∀ ρ v v' h a w, VR ρ v v' → SW okc ng lo ρ h a w → Ext ρ0 h0 w0 ρ h w → Kp v h → Q (.panic [{ v := v', recovered := false }]) a w) :
    ∀ (l : List Nat) (ρ : Ren) (fr : Fr) (h : AH) (a : Act) (w : World), (∀ i ∈ l, i < ops.size) → SR okc ng nt lo ρ fr h a w → Ext ρ0 h0 w0 ρ h w →
      xOps T (AC okc ng P) (AY okc ng P) Kp (l.filterMap fun i => xopOf ops i []) fr h K → wpOpsIn (fence rd) 0 P ops Q l a w
  | [], ρ, fr, h, a, w, _, S, E, hx => by
    simp only [List.filterMap_nil, xOps] at hx
    exact hK ρ fr h a w S E hx
  | i :: l, ρ, fr, h, a, w, hl, S, E, hx => by
    have hi : i < ops.size := hl i (List.mem_cons_self ..)
    obtain ⟨o, ho⟩ : ∃ o, ops[i]? = some o := ⟨_, Array.getElem?_eq_getElem hi⟩
    have ih := text_sound hT (rd := rd) hok hK hP l
    rw [wpOpsIn_cons]
    simp only [List.filterMap_cons, xopOf, ho, Option.map_some, List.filterMap_nil, xOps, allP, true_and] at hx
    by_cases hw : wanted fr (guardOf ops o) = true
    · rw [if_pos hw] at hx
      cases hr : aOp T fr h o.op with
      | none => rw [hr] at hx; exact hx.elim
      | some r =>
        rw [hr] at hx
        refine one_sound hT ho S (hok i o ho) hw hr hx ?_ ?_
        · intro ρ' v v' h' w' hv H' E' hk
          exact ih ρ' _ h' _ w' (fun j hj => hl j (List.mem_cons_of_mem _ hj)) (S.put H' E' (okOper_dst (hok i o ho)) hv) (E.trans E') hk
        · intro ρ' v v' h' w' hv H' E' hk
          exact hP ρ' v v' h' a w' hv (S.toSW.ext H' E') (E.trans E') hk
    · rw [if_neg hw] at hx
      refine skip_sound ho S (hok i o ho) (by simpa using hw) ?_
      exact ih ρ _ h _ w (fun j hj => hl j (List.mem_cons_of_mem _ hj)) (S.put S.H (.refl _ _ _) (okOper_dst (hok i o ho)) (VR.tuple_iff.2 .nil)) E hx
end
end Go.AI
