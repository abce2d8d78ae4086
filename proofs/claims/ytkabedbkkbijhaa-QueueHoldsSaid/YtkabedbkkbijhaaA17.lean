/-
  THE INTERPRETER IN USE: rules for stepping. (Own work.)
-/
import Derived.Test.YtkabedbkkbijhaaA16
namespace Go.AI
open Go.RowKit

section
variable (T : Tab) (k : IntKind) (t : TypeId) (a b : Int)
theorem bin_add : aBin T .add t (.int k a) (.int k b) = some (.int k (k.wrap (a + b))) := by cases k <;> rfl
theorem bin_sub : aBin T .sub t (.int k a) (.int k b) = some (.int k (k.wrap (a - b))) := by cases k <;> rfl
theorem bin_mul : aBin T .mul t (.int k a) (.int k b) = some (.int k (k.wrap (a * b))) := by cases k <;> rfl
theorem bin_lss : aBin T .lss t (.int k a) (.int k b) = some (.bool (decide (a < b))) := by cases k <;> rfl
theorem bin_leq : aBin T .leq t (.int k a) (.int k b) = some (.bool (decide (a ≤ b))) := by cases k <;> rfl
theorem bin_gtr : aBin T .gtr t (.int k a) (.int k b) = some (.bool (decide (a > b))) := by cases k <;> rfl
theorem bin_geq : aBin T .geq t (.int k a) (.int k b) = some (.bool (decide (a ≥ b))) := by cases k <;> rfl
theorem bin_eql : aBin T .eql t (.int k a) (.int k b) = some (.bool (a == b)) := by cases k <;> rfl
theorem bin_neq : aBin T .neq t (.int k a) (.int k b) = some (.bool (a != b)) := by cases k <;> rfl
theorem bin_rem (h : b ≠ 0) : aBin T .rem t (.int k a) (.int k b) = some (.int k (a.tmod b)) := by
  cases k <;> simp [aBin, pureV, binOp, Op.intDiv, h] <;> rfl
theorem bin_quo (h : b ≠ 0) : aBin T .quo t (.int k a) (.int k b) = some (.int k (k.wrap (a.tdiv b))) := by
  cases k <;> simp [aBin, pureV, binOp, Op.intDiv, h] <;> rfl
end
theorem wrap64 {x : Int} (h : -9223372036854775808 ≤ x) (h' : x < 9223372036854775808) : IntKind.i64.wrap x = x := by
  simp only [IntKind.wrap, IntKind.signed, IntKind.bits]
  simp
  omega
/-- A function's contract from its code. -/
theorem fn_ok {ng : Nat} {P : Program} {T : Tab} {h : AH} (hT : ∀ t i, T t = some i → tabOf P t = some i) (hm : P.follows .mixedOrders = true) {f : FuncId} {fn : Func} {x : XC} {rs : List ResultVar} {args : List Value} {Q : AO → AH → Prop}
    (hf : P.funcs[f]? = some fn) (hx : fn.body.map xOf = some x) (hok : fn.body.map (fun c => okCode ng fn.ntmps c && rok true c) = some true) (hn : (fn.name == "runtime.NumGoroutine") = false) (hrs : fn.results.toList = rs) (hlen : decide (args.length ≤ fn.ntmps) = true)
    (hw : xw T (AC (okcOf ng) ng P) (AY (okcOf ng) ng P) x (frOf args) h (retQ T rs Q)) : AC (okcOf ng) ng P f args h Q := by
  cases hb : fn.body with
  | none => rw [hb] at hx; cases hx
  | some c =>
    rw [hb] at hx hok
    cases hx
    simp only [Option.map_some, Option.some.injEq, Bool.and_eq_true] at hok
    subst hrs
    exact func_sound hT hm hf hb (by simpa using hn) hok.1 hok.2 (of_decide_eq_true hlen) hw
theorem put_at (fr : Fr) (d : Tmp) (v : Value) (i : Tmp) : Fr.put fr (some d) v i = if i = d then v else fr i := rfl
theorem put_none (fr : Fr) (v : Value) : Fr.put fr none v = fr := rfl
theorem fr_fix {fr : Fr} {t : Tmp} {v : Value} (e : fr t = v) : fr.put (some t) v = fr := by
  funext i
  rw [put_at]
  by_cases x : i = t
  · rw [if_pos x, x, e]
  · rw [if_neg x]
/-! ### weaker is weaker -/
structure Mono (C : CT) (Y : YT) : Prop where
  c : ∀ {f args h Q Q'}, C f args h Q → (∀ r h', Q r h' → Q' r h') → C f args h Q'
  y : ∀ {l args h Q Q'}, Y l args h Q → (∀ r h', Q r h' → Q' r h') → Y l args h Q'
theorem AY.mono {okc : Nat → Code → XC → Prop} {ng : Nat} {P : Program} {l : Nat} {args : List Value} {h : AH} {Q Q' : AO → AH → Prop} (hc : AY okc ng P l args h Q) (hq : ∀ r h', Q r h' → Q' r h') : AY okc ng P l args h Q' := by
  intro ρ w e args' H G he V
  obtain ⟨fn, tmps, assign, body, h1, h2⟩ := hc ρ w e args' H G he V
  refine ⟨fn, tmps, assign, body, h1, RoundIn.mono h2 ?_⟩
  rintro e w' ⟨ρ', h', r, a, b, c, d⟩
  exact ⟨ρ', h', r, a, b, c, hq _ _ d⟩
theorem mono_ac {okc : Nat → Code → XC → Prop} {ng : Nat} {P : Program} : Mono (AC okc ng P) (AY okc ng P) := ⟨fun h k => AC.mono h k, fun h k => AY.mono h k⟩
section
variable {T : Tab} {C : CT} {Y : YT} (hM : Mono C Y)
theorem outK_mono {K K' Kp Kp' : Value → AH → Prop} (hk : ∀ v h, K v h → K' v h) (hp : ∀ v h, Kp v h → Kp' v h) : ∀ r h, outK K Kp r h → outK K' Kp' r h
  | .ret v, h, x => hk v h x
  | .panic v, h, x => hp v h x
include hM in
theorem xR_mono {h : AH} {K K' Kp Kp' : Value → AH → Prop} (hk : ∀ v h, K v h → K' v h) (hp : ∀ v h, Kp v h → Kp' v h) : ∀ {r : Option AR}, xR C Y h K Kp r → xR C Y h K' Kp' r
  | some (.val v h'), x => hk v h' x
  | some (.call f args), x => hM.c x (outK_mono hk hp)
  | some (.yield l args), x => hM.y x (outK_mono hk hp)
  | some (.panic v), x => hp v h x
  | some (.any l), x => fun p k => hk _ _ (x p k)
  | none, x => x
include hM in
theorem xOps_mono {Kp Kp' : Value → AH → Prop} {K K' : Fr → AH → Prop} (hk : ∀ fr h, K fr h → K' fr h) (hp : ∀ v h, Kp v h → Kp' v h) : ∀ {ops : List XOp} {fr : Fr} {h : AH}, xOps T C Y Kp ops fr h K → xOps T C Y Kp' ops fr h K'
  | [], fr, h, x => hk fr h x
  | o :: r, fr, h, x => by
    unfold xOps at x ⊢
    by_cases e : wanted fr o.guard = true
    · rw [if_pos e] at x ⊢
      exact xR_mono hM (fun v h' y => ⟨y.1, xOps_mono hk hp y.2⟩) hp x
    · rw [if_neg e] at x ⊢
      exact xOps_mono hk hp x
include hM in
theorem xw_mono : ∀ {x : XC} {fr : Fr} {h : AH} {Q Q' : XQ}, (∀ e fr h, Q e fr h → Q' e fr h) → xw T C Y x fr h Q → xw T C Y x fr h Q' := by
  intro x
  induction x with
  | skip => exact fun hq k => hq _ _ _ k
  | exit id => exact fun hq k => hq _ _ _ k
  | ret => exact fun hq k => hq _ _ _ k
  | region ops => exact fun hq k => xOps_mono hM (fun fr h => hq _ fr h) (fun v h => hq _ _ h) k
  | seq a b iha ihb =>
    intro fr h Q Q' hq ⟨fr0, h0, hg, k⟩
    refine ⟨fr0, h0, hg, iha ?_ k⟩
    intro e fr h k
    cases e with
    | norm => exact ihb hq k
    | exit id => exact hq _ _ _ k
    | ret => exact hq _ _ _ k
    | panic v => exact hq _ _ _ k
  | cond c a b iha ihb =>
    intro fr h Q Q' hq k
    simp only [xw] at k ⊢
    split
    · rename_i t e
      rw [e] at k
      exact ⟨fun x => iha hq (k.1 x), fun x => ihb hq (k.2 x)⟩
    · rename_i e
      split at k
      · rename_i t e'; exact (e t e').elim
      · exact k
  | block id b ih =>
    intro fr h Q Q' hq k
    refine ih ?_ k
    intro e fr h k
    cases e with
    | norm => exact hq _ _ _ k
    | ret => exact hq _ _ _ k
    | panic v => exact hq _ _ _ k
    | exit j =>
      simp only [blockQ] at k ⊢
      by_cases e : j = id
      · rw [if_pos e] at k ⊢; exact hq _ _ _ k
      · rw [if_neg e] at k ⊢; exact hq _ _ _ k
  | loop b ih =>
    intro fr h Q Q' hq ⟨I, hn, hI⟩
    refine ⟨I, hn, fun n fr h hi => ih ?_ (hI n fr h hi)⟩
    intro e fr h k
    cases e with
    | norm => exact k
    | exit id => exact hq _ _ _ k
    | ret => exact hq _ _ _ k
    | panic v => exact hq _ _ _ k
  | range g ps a b _ _ =>
    intro fr h Q Q' hq k
    simp only [xw] at k ⊢
    split
    · rename_i f p q e
      rw [e] at k
      refine hM.c k ?_
      intro r h' k
      cases r with
      | ret v =>
        simp only [endRange, loopAt] at k ⊢
        split
        · rename_i r e'
          rw [e'] at k
          refine ⟨k.1, ?_⟩
          have k2 := k.2
          split
          · rename_i e2; rw [e2] at k2; exact hq _ _ _ k2
          · rename_i e2; rw [e2] at k2; exact hq _ _ _ k2
        · rename_i e'
          split at k
          · rename_i r e2; exact (e' r e2).elim
          · exact k
      | panic v => exact hq _ _ _ k
    · rename_i e
      split at k
      · rename_i f p q e'; exact (e f p q e').elim
      · exact k
end
/-! ### one step at a time -/
section
variable {T : Tab} {C : CT} {Y : YT} {Kp : Value → AH → Prop} {o : XOp} {r : List XOp} {fr : Fr} {h h' : AH} {K : Fr → AH → Prop} {v : Value} {Q : XQ}
theorem xo_nil (hk : K fr h) : xOps T C Y Kp [] fr h K := hk
theorem xo_val (hw : wanted fr o.guard = true) (hr : aOp T fr h o.op = some (.val v h')) (hc : allP (stays T fr h') o.chk) (hk : xOps T C Y Kp r (fr.put o.dst v) h' K) : xOps T C Y Kp (o :: r) fr h K := by
  unfold xOps
  rw [if_pos hw, hr]
  exact ⟨hc, hk⟩
theorem xo_skip (hw : wanted fr o.guard = false) (hk : xOps T C Y Kp r (fr.put o.dst undef) h K) : xOps T C Y Kp (o :: r) fr h K := by
  unfold xOps
  rw [if_neg (by simp [hw])]
  exact hk
theorem xo_call {f : FuncId} {args : List Value} (hw : wanted fr o.guard = true) (hr : aOp T fr h o.op = some (.call f args)) (hk : C f args h (outK (fun v h' => allP (stays T fr h') o.chk ∧ xOps T C Y Kp r (fr.put o.dst v) h' K) Kp)) : xOps T C Y Kp (o :: r) fr h K := by
  unfold xOps
  rw [if_pos hw, hr]
  exact hk
theorem xo_yield {l : Nat} {args : List Value} (hw : wanted fr o.guard = true) (hr : aOp T fr h o.op = some (.yield l args)) (hk : Y l args h (outK (fun v h' => allP (stays T fr h') o.chk ∧ xOps T C Y Kp r (fr.put o.dst v) h' K) Kp)) : xOps T C Y Kp (o :: r) fr h K := by
  unfold xOps
  rw [if_pos hw, hr]
  exact hk
theorem xo_any {l : List (Value × AH)} (hw : wanted fr o.guard = true) (hr : aOp T fr h o.op = some (.any l)) (hk : ∀ p ∈ l, allP (stays T fr p.2) o.chk ∧ xOps T C Y Kp r (fr.put o.dst p.1) p.2 K) : xOps T C Y Kp (o :: r) fr h K := by
  unfold xOps
  rw [if_pos hw, hr]
  exact hk
theorem want_if {t : Tmp} {b c : Bool} (e : fr t = .bool c) (hc : c = b) : wanted fr (some (t, b)) = true := by
  unfold wanted
  simp [e, hc]
theorem want_no {t : Tmp} {b c : Bool} (e : fr t = .bool c) (hc : c = !b) : wanted fr (some (t, b)) = false := by
  unfold wanted
  simp [e, hc]
theorem t_norm {B : Fr → AH → XQ → Prop} (hx : B fr h Q) : thenQ B Q .norm fr h := hx
theorem t_ret {B : Fr → AH → XQ → Prop} (hx : Q .ret fr h) : thenQ B Q .ret fr h := hx
theorem t_exit {B : Fr → AH → XQ → Prop} {id : Nat} (hx : Q (.exit id) fr h) : thenQ B Q (.exit id) fr h := hx
theorem b_norm {id : Nat} (hx : Q .norm fr h) : blockQ id Q .norm fr h := hx
theorem b_ret {id : Nat} (hx : Q .ret fr h) : blockQ id Q .ret fr h := hx
theorem b_here {id : Nat} (hx : Q .norm fr h) : blockQ id Q (.exit id) fr h := by simp only [blockQ, if_true]; exact hx
theorem b_far {id j : Nat} (hx : Q (.exit j) fr h) (hj : (j == id) = false := by rfl) : blockQ id Q (.exit j) fr h := by
  have hne : ¬ j = id := by simpa using hj
  simp only [blockQ, hne, if_false]; exact hx
theorem w_skip (hx : Q .norm fr h) : xw T C Y .skip fr h Q := hx
theorem w_ret (hx : Q .ret fr h) : xw T C Y .ret fr h Q := hx
theorem w_exit {id : Nat} (hx : Q (.exit id) fr h) : xw T C Y (.exit id) fr h Q := hx
theorem w_seq {a b : XC} (hx : xw T C Y a fr h (thenQ (xw T C Y b) Q)) : xw T C Y (.seq a b) fr h Q := ⟨fr, h, .refl _ _, hx⟩
/-- Rows are given up. -/
theorem w_give {a b : XC} {fr' : Fr} {h' : AH} (hg : Gs fr h fr' h') (hx : xw T C Y (.seq a b) fr' h' Q) : xw T C Y (.seq a b) fr h Q := by
  obtain ⟨fr2, h2, hg2, hx⟩ := hx
  refine ⟨fr2, h2, ?_, hx⟩
  clear hx
  induction hg with
  | refl => exact hg2
  | conv hb hf hn ho _ ih => exact .conv hb hf hn ho (ih hg2)
  | step hb hf hn ho hd hd2 _ ih => exact .step hb hf hn ho hd hd2 (ih hg2)
theorem ret_of {rs : List ResultVar} {vs : List Value} {Q : AO → AH → Prop} (hv : aRess T h fr rs = some vs) (hq : Q (.ret (oneV vs)) h) : retQ T rs Q .ret fr h := ⟨vs, hv, _, _, .refl _ _, hq⟩
theorem end_of {rs : List ResultVar} {vs : List Value} {Q : AO → AH → Prop} (hv : aRess T h fr rs = some vs) (hq : Q (.ret (oneV vs)) h) : retQ T rs Q .norm fr h := ⟨vs, hv, _, _, .refl _ _, hq⟩
theorem ret_give {rs : List ResultVar} {vs : List Value} {v' : Value} {h' : AH} {Q : AO → AH → Prop} (hv : aRess T h fr rs = some vs) (hg : Gs (fun _ => oneV vs) h (fun _ => v') h') (hq : Q (.ret v') h') : retQ T rs Q .ret fr h := ⟨vs, hv, _, _, hg, hq⟩
theorem end_give {rs : List ResultVar} {vs : List Value} {v' : Value} {h' : AH} {Q : AO → AH → Prop} (hv : aRess T h fr rs = some vs) (hg : Gs (fun _ => oneV vs) h (fun _ => v') h') (hq : Q (.ret v') h') : retQ T rs Q .norm fr h := ⟨vs, hv, _, _, hg, hq⟩
theorem w_region {ops : List XOp} (hx : xOps T C Y (fun v h' => Q (.panic v) fr h') ops fr h fun fr' h' => Q .norm fr' h') : xw T C Y (.region ops) fr h Q := hx
theorem w_cond {c : Operand} {a b : XC} {t : Bool} (e : ev fr c = .bool t) (h1 : t = true → xw T C Y a fr h Q) (h2 : t = false → xw T C Y b fr h Q) : xw T C Y (.cond c a b) fr h Q := by
  simp only [xw, e]
  exact ⟨h1, h2⟩
theorem w_block {id : Nat} {b : XC} (hx : xw T C Y b fr h (blockQ id Q)) : xw T C Y (.block id b) fr h Q := hx
theorem w_range {g : Operand} {ps : List Tmp} {assign body : XC} {f : FuncId} {p q : Array Value} (e : ev fr g = .func (.func f) p q) (hc : C f (p.toList ++ [.func (.yield h.n) #[] #[]] ++ q.toList) (h.push (.loop ⟨.ready, none, fr, ps, assign, body⟩)) (endRange Q fr h.n)) : xw T C Y (.range g ps assign body) fr h Q := by
  simp only [xw, e]
  exact hc
theorem loopAt_of {l : Nat} {K : ALoop → Prop} {r : ALoop} (e : h.get l = some (.loop r)) (k : K r) : loopAt h l K := by
  unfold loopAt
  rw [e]; exact k
def loopQ (I : Nat → Fr → AH → Prop) (n : Nat) (Q : XQ) : XQ
  | .norm, fr', h' => ∃ m, m < n ∧ I m fr' h'
  | e, fr', h' => Q e fr' h'
theorem w_loop {b : XC} (I : Nat → Fr → AH → Prop) (n : Nat) (h0 : I n fr h) (hb : ∀ n fr h, I n fr h → xw T C Y b fr h (loopQ I n Q)) : xw T C Y (.loop b) fr h Q := by
  refine ⟨I, ⟨n, h0⟩, fun n fr h hi => ?_⟩
  have := hb n fr h hi
  exact this
def normQ (M : Fr → AH → Prop) (Q : XQ) : XQ
  | .norm, fr, h => M fr h
  | e, fr, h => Q e fr h
/-- A place to meet: what holds there is all that is known behind it. -/
theorem w_cut (hM : Mono C Y) {a b : XC} (M : Fr → AH → Prop) (ha : xw T C Y a fr h (normQ M Q)) (hb : ∀ fr h, M fr h → xw T C Y b fr h Q) : xw T C Y (.seq a b) fr h Q := by
  refine w_seq (xw_mono hM ?_ ha)
  intro e fr h k
  cases e with
  | norm => exact hb fr h k
  | exit id => exact k
  | ret => exact k
  | panic v => exact k
theorem xo_cut (hM : Mono C Y) {M : Fr → AH → Prop} (hk : ∀ fr h, M fr h → K fr h) (hx : xOps T C Y Kp r fr h M) : xOps T C Y Kp r fr h K := xOps_mono hM hk (fun _ _ x => x) hx
/-! ### what each operation answers -/
theorem a_move {x : Operand} (e : ev fr x = v) : aOp T fr h (.move x) = some (.val v h) := by rw [← e]; rfl
theorem a_assign {x : Operand} (e : ev fr x = v) : aOp T fr h (.assign x) = some (.val v h) := by rw [← e]; rfl
theorem a_bin {op : BinOp} {t t' : TypeId} {x y : Operand} {vx vy : Value} (e : ev fr x = vx) (e' : ev fr y = vy) (hv : aBin T op t vx vy = some v) : aOp T fr h (.binOp op t x y t') = some (.val v h) := by
  rw [← e, ← e'] at hv
  simp only [aOp, hv, vv, Option.map_some]
theorem a_pick_t {c a b : Operand} {t : Bool} (e : ev fr c = .bool t) (ht : t = true) (e' : ev fr a = v) : aOp T fr h (.pick c a b) = some (.val v h) := by
  simp only [aOp, e, ht, if_true, e']
theorem a_pick_f {c a b : Operand} {t : Bool} (e : ev fr c = .bool t) (ht : t = false) (e' : ev fr b = v) : aOp T fr h (.pick c a b) = some (.val v h) := by
  simp only [aOp, e, ht, e']
  simp
theorem a_alloc {t : TypeId} {ti : TI} (ht : T t = some ti) : aOp T fr h (.alloc t) = some (.val (.pointer (some ⟨h.n, 0, none⟩)) (h.push (.row ti.zero.cells.toList true 0))) := by
  simp only [aOp, ht, Option.map_some]
theorem a_box {t : TypeId} {x : Operand} (e : ev fr x = v) (hn : notTup v = true) : aOp T fr h (.box t x) = some (.val (.pointer (some ⟨h.n, 0, none⟩)) (h.push (.row v.cells.toList true 0))) := by
  simp only [aOp, e, hn, if_true]
theorem a_load {t : TypeId} {ti : TI} {x : Operand} {a : Addr} (ht : T t = some ti) (hg : ti.ud.agg = false) (e : ev fr x = .pointer (some a)) (hv : h.cell a = some v) : aOp T fr h (.load t x) = some (.val v h) := by
  simp only [aOp, aLoad, ht, e, hg, hv, vv]
  simp
theorem a_load_pp {t : TypeId} {ti : TI} {x : Operand} {u : Value} (ht : T t = some ti) (e : ev fr x = PP u) (ha : ti.ud.agg = false) (ho : oneCellV u = true) : aOp T fr h (.load t x) = some (.val u h) := by
  have : aLoad T h t (PP u) = some u := by
    have hu : ∀ cs, u ≠ .agg cs := fun cs e => by rw [e] at ho; cases ho
    simp only [aLoad, ht, PP, ppOf]
    cases u <;> simp_all
  simp only [aOp, e, this, vv, Option.map_some]
theorem a_loads_pp {t : TypeId} {ti : TI} {x : Operand} {cs : Array Value} (ht : T t = some ti) (e : ev fr x = PP (.agg cs)) (ha : ti.ud.agg = true) (hs : (cs.size == ti.size) = true) : aOp T fr h (.load t x) = some (.val (.agg cs) h) := by
  have hs : cs.size = ti.size := by simpa using hs
  have : aLoad T h t (PP (.agg cs)) = some (.agg cs) := by
    simp only [aLoad, ht, PP, ppOf]
    simp [ha, hs]
  simp only [aOp, e, this, vv, Option.map_some]
theorem a_nil_pp {x : Operand} {u : Value} (e : ev fr x = PP u) : aOp T fr h (.nilCheck x) = some (.val (PP u) h) := by
  simp only [aOp, e, PP, ppOf]
  rfl
theorem a_field_pp {t : TypeId} {x : Operand} {f : Nat} {ti g : TI} {fs : List (Nat × TypeId × Bool)} {cs : Array Value} {y : Nat × TypeId × Bool} {u : Value} (ht : T t = some ti) (hu : ti.ud = .struct fs) (e : ev fr x = PP (.agg cs)) (hf : fs[f]? = some y) (hg : T y.2.1 = some g)
    (hs : (g.size != 0 && Nat.ble (y.1 + g.size) cs.size) = true) (hp : partOf g cs y.1 = some u) : aOp T fr h (.fieldAddr t x f) = some (.val (PP u) h) := by
  simp only [Bool.and_eq_true, bne_iff_ne, Nat.ble_eq] at hs
  have : aFieldAddr T t (PP (.agg cs)) f = some (PP u) := by
    simp only [aFieldAddr, ht, PP, ppOf, hu]
    simp [hf, hg, hp, hs.1, PP]
    omega
  simp only [aOp, e, this, vv, Option.map_some]
theorem a_ix_ps {t e : TypeId} {ti g : TI} {x i : Operand} {els : List Value} {k : IntKind} {n : Int} {u : Value} {sz : Nat} (ht : T t = some ti) (hu : ti.ud = .slice e) (hg : T e = some g) (e1 : ev fr x = PS sz els) (e2 : ev fr i = .int k n) (hk : (sz == g.size) = true) (hn : 0 ≤ n) (hv : els[n.toNat]? = some u) :
    aOp T fr h (.indexAddr t x i) = some (.val (PP u) h) := by
  have hk : sz = g.size := by simpa using hk
  have hl : n < els.length := by have := (List.getElem?_eq_some_iff.1 hv).1; omega
  have : aIndexAddr T t (PS sz els) (.int k n) = some (PP u) := by
    simp only [aIndexAddr, ht, hu]
    rw [show (PS sz els) = .func (.yield 0) #[.int .i64 sz] els.toArray from rfl]
    simp only [psOf, hg, Int.toNat_natCast]
    simp [hn, hk, hl, hv]
    exact congrArg PP (List.getElem?_eq_some_iff.1 hv).2
  simp only [aOp, e1, e2, this, vv, Option.map_some]
theorem a_drop_ps {t e : TypeId} {ti g : TI} {x lo : Operand} {els : List Value} {k : IntKind} {n : Int} {sz : Nat} (ht : T t = some ti) (hu : ti.ud = .slice e) (hg : T e = some g) (e1 : ev fr x = PS sz els) (e2 : ev fr lo = .int k n) (hk : (sz == g.size) = true) (hn : 0 ≤ n ∧ n ≤ els.length) :
    aOp T fr h (.slice t x (some lo) none none) = some (.val (PS sz (els.drop n.toNat)) h) := by
  have hk : sz = g.size := by simpa using hk
  have : aSlice T h t (PS sz els) (some (.int k n)) none none = some (PS sz (els.drop n.toNat)) := by
    simp only [aSlice, ht, PS, psOf, Int.toNat_natCast, hu, optBound, boundV, hg]
    rw [if_pos ⟨hn.1, hn.2, Int.le_refl _, hk⟩]
    simp [PS]
  simp only [aOp, e1, e2, this, vv, Option.map_some, Option.map_none]
theorem a_take_ps {t e : TypeId} {ti g : TI} {x hi : Operand} {els : List Value} {k : IntKind} {n : Int} {sz : Nat} (ht : T t = some ti) (hu : ti.ud = .slice e) (hg : T e = some g) (e1 : ev fr x = PS sz els) (e2 : ev fr hi = .int k n) (hk : (sz == g.size) = true) (hn : 0 ≤ n ∧ n ≤ els.length) :
    aOp T fr h (.slice t x none (some hi) none) = some (.val (PS sz (els.take n.toNat)) h) := by
  have hk : sz = g.size := by simpa using hk
  have : aSlice T h t (PS sz els) none (some (.int k n)) none = some (PS sz (els.take n.toNat)) := by
    simp only [aSlice, ht, PS, psOf, Int.toNat_natCast, hu, optBound, boundV, hg]
    rw [if_pos ⟨Int.le_refl _, hn.1, hn.2, hk⟩]
    simp [PS]
  simp only [aOp, e1, e2, this, vv, Option.map_some, Option.map_none]
theorem a_len_ps {c : Call} {t e : TypeId} {ti : TI} {x : Operand} {els : List Value} {k : Nat} (hc : c.callee = .builtin .len) (ht : c.argTypes.toList = [t]) (hx : c.args.toList = [x]) (hti : T t = some ti) (hu : ti.ud = .slice e) (e1 : ev fr x = PS k els) : aOp T fr h (.call c) = some (.val (.int .i64 els.length) h) := by
  have : aLen T h t (PS k els) = some (.int .i64 els.length) := by
    simp only [aLen, hti, hu]
    rfl
  simp only [aOp, hc, aBuiltin, ht, hx, List.map_cons, List.map_nil, e1, this, vv, Option.map_some]
theorem a_loads {t : TypeId} {ti : TI} {x : Operand} {a : Addr} {l : List Value} (ht : T t = some ti) (hg : ti.ud.agg = true) (e : ev fr x = .pointer (some a)) (hv : h.cells a ti.size = some l) : aOp T fr h (.load t x) = some (.val (.agg l.toArray) h) := by
  simp only [aOp, aLoad, ht, e, hg, hv, vv]
  simp
theorem a_store {t : TypeId} {ti : TI} {x y : Operand} {a : Addr} {u : Value} (ht : T t = some ti) (e : ev fr x = .pointer (some a)) (e' : ev fr y = u) (hs : u.cells.size = ti.size) (hn : notTup u = true) (hv : h.store a u.cells.toList = some h') : aOp T fr h (.store t x y) = some (.val undef h') := by
  simp only [aOp, aStore, ht, e, e', hs, hn, hv, uh]
  simp
theorem a_nil {x : Operand} {a : Addr} (e : ev fr x = .pointer (some a)) : aOp T fr h (.nilCheck x) = some (.val (.pointer (some a)) h) := by
  simp only [aOp, e]
theorem a_call {c : Call} {f : Operand} {g : FuncId} {p q : Array Value} (hc : c.callee = .value f) (e : ev fr f = .func (.func g) p q) : aOp T fr h (.call c) = some (.call g (p.toList ++ c.args.toList.map (ev fr) ++ q.toList)) := by
  simp only [aOp, hc, e, callV]
theorem a_len {c : Call} {t : TypeId} {x : Operand} {u : Value} (hc : c.callee = .builtin .len) (ht : c.argTypes.toList = [t]) (hx : c.args.toList = [x]) (e : ev fr x = u) (hv : aLen T h t u = some v) : aOp T fr h (.call c) = some (.val v h) := by
  simp only [aOp, hc, aBuiltin, ht, hx, List.map_cons, List.map_nil, e, hv, vv, Option.map_some]
theorem a_append {c : Call} {t xt : TypeId} {x y : Operand} {u z : Value} {p : Value × AH} (hc : c.callee = .builtin .append) (ht : c.argTypes.toList = [t, xt]) (hx : c.args.toList = [x, y]) (e : ev fr x = u) (e' : ev fr y = z) (hv : aAppend T h t xt u z = some p) : aOp T fr h (.call c) = some (.val p.1 p.2) := by
  simp only [aOp, hc, aBuiltin, ht, hx, List.map_cons, List.map_nil, e, e', hv, vh, Option.map_some]
theorem a_fieldAddr {t : TypeId} {x : Operand} {f : Nat} {u : Value} (e : ev fr x = u) (hv : aFieldAddr T t u f = some v) : aOp T fr h (.fieldAddr t x f) = some (.val v h) := by
  simp only [aOp, e, hv, vv, Option.map_some]
theorem a_field {t : TypeId} {x : Operand} {f : Nat} {u : Value} (e : ev fr x = u) (hv : aField T t u f = some v) : aOp T fr h (.field t x f) = some (.val v h) := by
  simp only [aOp, e, hv, vv, Option.map_some]
theorem a_indexAddr {t : TypeId} {x i : Operand} {u z : Value} (e : ev fr x = u) (e' : ev fr i = z) (hv : aIndexAddr T t u z = some v) : aOp T fr h (.indexAddr t x i) = some (.val v h) := by
  simp only [aOp, e, e', hv, vv, Option.map_some]
theorem a_ixs {t e : TypeId} {ti g : TI} {x i : Operand} {a : Addr} {len c : Nat} {k : IntKind} {n : Int} (ht : T t = some ti) (hu : ti.ud = .slice e) (hg : T e = some g) (e1 : ev fr x = .slice (some a) len c) (e2 : ev fr i = .int k n) (hn : 0 ≤ n ∧ n < len) :
    aOp T fr h (.indexAddr t x i) = some (.val (.pointer (some (a.add (n.toNat * g.size)))) h) := by
  simp only [aOp, aIndexAddr, ht, e1, e2, hu, hg, Option.bind_some, hn, vv]
  simp
theorem a_ixa {t e : TypeId} {ti g : TI} {x i : Operand} {a : Addr} {len : Nat} {k : IntKind} {n : Int} (ht : T t = some ti) (hu : ti.ud = .array len e) (hg : T e = some g) (e1 : ev fr x = .pointer (some a)) (e2 : ev fr i = .int k n) (hn : 0 ≤ n ∧ n < len) :
    aOp T fr h (.indexAddr t x i) = some (.val (.pointer (some (a.add (n.toNat * g.size)))) h) := by
  simp only [aOp, aIndexAddr, ht, e1, e2, hu, hg, Option.bind_some, hn, vv]
  simp
theorem a_build {t : TypeId} {parts : Array (Nat × Operand)} (hv : aBuild T t (parts.toList.map fun p => (p.1, ev fr p.2)) = some v) : aOp T fr h (.build t parts) = some (.val v h) := by
  simp only [aOp, hv, vv, Option.map_some]
theorem a_buildSlice {t : TypeId} {n : Nat} {parts : Array (Nat × Operand)} {p : Value × AH} (hv : aBuildSlice T h t n (parts.toList.map fun p => (p.1, ev fr p.2)) = some p) : aOp T fr h (.buildSlice t n parts) = some (.val p.1 p.2) := by
  simp only [aOp, hv, vh, Option.map_some]
theorem a_makeSlice {t : TypeId} {g : TI} {x y : Operand} {n : Nat} (hg : elemOfSlice T t = some g) (e1 : ev fr x = .int .i64 n) (e2 : ev fr y = .int .i64 n) (hn : n * g.bytes ≤ 70368744177664) (hn2 : n ≤ 70368744177664) :
    aOp T fr h (.makeSlice t x y) = some (.val (.slice (some ⟨h.n, 0, none⟩) n (n + 1)) (h.push (.row (zeros g.zero.cells.toList n) true g.size))) := by
  have : aMakeSlice T h t (.int .i64 n) (.int .i64 n) = some (.slice (some ⟨h.n, 0, none⟩) n (n + 1), h.push (.row (zeros g.zero.cells.toList n) true g.size)) := by
    simp only [aMakeSlice, hg]
    rw [if_pos ⟨by omega, Int.le_refl _, by rw [← Int.natCast_mul]; generalize n * g.bytes = z at hn; omega, by omega⟩]
    simp [newRowV]
  simp only [aOp, e1, e2, this, vh, Option.map_some]
theorem a_makeMap {t : TypeId} : aOp T fr h (.makeMap t none) = some (.val (.map (some h.n)) (h.push (.map [] [] 0))) := rfl
theorem a_extract {x : Operand} {i : Nat} {vs : Array Value} (e : ev fr x = .tuple vs) (hv : vs[i]? = some v) : aOp T fr h (.extract x i) = some (.val v h) := by
  simp only [aOp, e, hv, vv, Option.map_some]
/-! ### building, by lists -/
def cellsL : Value → List Value
  | .agg cs => cs.toList
  | v => [v]
theorem cellsL_eq (v : Value) (h : notTup v = true) : v.cells.toList = cellsL v := by
  cases v <;> first | rfl | simp [notTup] at h
def fillL (place : Nat → Option (Nat × Nat)) : List Value → List (Nat × Value) → Option (List Value)
  | cs, [] => some cs
  | cs, (i, v) :: rest =>
    match place i with
    | none => none
    | some (off, size) => bif notTup v && Nat.beq (cellsL v).length size && Nat.ble (off + (cellsL v).length) cs.length then fillL place (putAt cs off (cellsL v)) rest else none
theorem fold_put (off : Nat) : ∀ (vs : List Value) (k : Nat) (cs : Array Value), ((vs.zipIdx k).foldl (fun cs (x : Value × Nat) => cs.setIfInBounds (off + x.2) x.1) cs).toList = putAt cs.toList (off + k) vs
  | [], k, cs => rfl
  | v :: vs, k, cs => by
    simp only [List.zipIdx_cons, List.foldl_cons, putAt]
    rw [fold_put off vs (k + 1), Array.toList_setIfInBounds]
    rfl
theorem fill_list {place : Nat → Option (Nat × Nat)} : ∀ {parts : List (Nat × Value)} {cs : Array Value} {l : List Value}, fillL place cs.toList parts = some l → Instr.fill place cs parts = some l.toArray ∧ (parts.all fun p => notTup p.2) = true
  | [], cs, l, hf => by cases hf; simp [Instr.fill]
  | (i, v) :: rest, cs, l, hf => by
    simp only [fillL] at hf
    simp only [Instr.fill, List.all_cons]
    cases hp : place i with
    | none => rw [hp] at hf; cases hf
    | some os =>
      obtain ⟨off, size⟩ := os
      rw [hp] at hf
      dsimp only at hf ⊢
      cases hc : (notTup v && Nat.beq (cellsL v).length size && Nat.ble (off + (cellsL v).length) cs.toList.length) with
      | false => rw [hc] at hf; cases hf
      | true =>
        rw [hc] at hf
        simp only [cond_true] at hf
        simp only [Bool.and_eq_true, Nat.ble_eq] at hc
        obtain ⟨⟨h1, h2⟩, h3⟩ := hc
        have h2 := Nat.eq_of_beq_eq_true h2
        have hce := cellsL_eq v h1
        have hsz : v.cells.size = size := by rw [← h2, ← hce]; simp
        have hle : ¬ (off + v.cells.size > cs.size) := by
          rw [← hce] at h3; simp at h3; omega
        rw [if_neg (by simp [hsz, hle]; rw [hsz] at hle; omega)]
        have e1 : ∀ (a b : Array Value), Array.foldl (fun cs (x : Value × Nat) => match x with | (c, j) => cs.setIfInBounds (off + j) c) b a.zipIdx = a.toList.zipIdx.foldl (fun cs (x : Value × Nat) => cs.setIfInBounds (off + x.2) x.1) b := by
          intro a b
          rw [← Array.foldl_toList, Array.toList_zipIdx]
        rw [e1]
        have e2 := fold_put off v.cells.toList 0 cs
        rw [Nat.add_zero, hce] at e2
        rw [hce]
        rw [← e2] at hf
        have := fill_list (parts := rest) hf
        exact ⟨this.1, by simp [h1, this.2]⟩
def placeOf (fs : List (Nat × TypeId × Bool)) (j : Nat) : Option (Nat × Nat) := (fs[j]?).bind fun f => (T f.2.1).map fun g => (f.1, g.size)
theorem a_struct {t : TypeId} {ti : TI} {fs : List (Nat × TypeId × Bool)} {parts : Array (Nat × Operand)} {l : List Value} (ht : T t = some ti) (hu : ti.ud = .struct fs) (hs : (fs.all fun f => (T f.2.1).isSome) = true)
    (hf : fillL (placeOf (T := T) fs) ti.zero.cells.toList (parts.toList.map fun p => (p.1, ev fr p.2)) = some l) : aOp T fr h (.build t parts) = some (.val (.agg l.toArray) h) := by
  obtain ⟨h1, h2⟩ := fill_list hf
  refine a_build ?_
  unfold placeOf at h1
  simp only [aBuild, h2, ht, hu, hs, h1, if_true, Option.map_some]
theorem a_list {t e : TypeId} {ti g : TI} {n : Nat} {parts : Array (Nat × Operand)} {l : List Value} (ht : T t = some ti) (hu : ti.ud = .slice e) (hg : T e = some g) (hn : decide (n * g.size ≤ 16777216) = true)
    (hf : fillL (fun j => some (j * g.size, g.size)) (zeros g.zero.cells.toList n) (parts.toList.map fun p => (p.1, ev fr p.2)) = some l) :
    aOp T fr h (.buildSlice t n parts) = some (.val (.slice (some ⟨h.n, 0, none⟩) n (n + 1)) (h.push (.row l true g.size))) := by
  have hf' : fillL (fun j => some (j * g.size, g.size)) (zeros g.zero.cells.toList n).toArray.toList (parts.toList.map fun p => (p.1, ev fr p.2)) = some l := hf
  obtain ⟨h1, h2⟩ := fill_list hf'
  have hn' := of_decide_eq_true hn
  refine a_buildSlice (p := (.slice (some ⟨h.n, 0, none⟩) n (n + 1), h.push (.row l true g.size))) ?_
  simp only [aBuildSlice, ht, hu, hg, h2, h1]
  rw [if_neg (by simp; omega)]
  simp [newRowV]
/-! ### results -/
theorem rs_nil : aRess T h fr [] = some [] := rfl
theorem rs_tmp {t : Tmp} {rs : List ResultVar} {vs : List Value} (e : fr t = v) (hr : aRess T h fr rs = some vs) : aRess T h fr (.tmp t :: rs) = some (v :: vs) := by
  subst e
  simp only [aRess, aRes, hr, Option.bind_some, Option.map_some]
theorem rs_cell {a : Tmp} {t : TypeId} {ti : TI} {p : Addr} {rs : List ResultVar} {vs l : List Value} (ht : T t = some ti) (hg : ti.ud.agg = true) (e : fr a = .pointer (some p)) (hl : h.cells p ti.size = some l) (hr : aRess T h fr rs = some vs) :
    aRess T h fr (.cell a t :: rs) = some (.agg l.toArray :: vs) := by
  simp only [aRess, aRes, hr, aLoad, ht, e, hg, hl, if_true, Option.bind_some, Option.map_some]
/-! ### the heap's cells -/
theorem cell_of {a : Addr} {cs : List Value} {rw : Bool} {sz : Nat} (hg : h.get a.block = some (.row cs rw sz)) (hs : a.spot = none) (hv : cs[a.off]? = some v) : h.cell a = some v := by
  simp [AH.cell, AH.row, hg, hs, hv]
theorem cells_of {a : Addr} {cs l : List Value} {rw : Bool} {sz n : Nat} (hg : h.get a.block = some (.row cs rw sz)) (hs : a.spot = none) (hn : decide (a.off + n ≤ cs.length) = true) (hv : (cs.drop a.off).take n = l) : h.cells a n = some l := by
  simp [AH.cells, AH.row, hg, hs, of_decide_eq_true hn, hv]
theorem add_block (a : Addr) (n : Nat) : (a.add n).block = a.block := by unfold Addr.add; split <;> rfl
theorem add_spot {a : Addr} (n : Nat) (hs : a.spot = none) : (a.add n).spot = none := by unfold Addr.add; split <;> simp [hs]
theorem add_off {a : Addr} (n : Nat) (hs : a.spot = none) : (a.add n).off = a.off + n := by unfold Addr.add; split <;> simp_all
theorem cells_at {a : Addr} {cs l : List Value} {rw : Bool} {sz n k : Nat} (hg : h.get a.block = some (.row cs rw sz)) (hs : a.spot = none) (hn : a.off + n + k ≤ cs.length) (hv : (cs.drop (a.off + n)).take k = l) : h.cells (a.add n) k = some l :=
  cells_of (by rw [add_block]; exact hg) (add_spot n hs) (by rw [add_off n hs]; simpa using hn) (by rw [add_off n hs]; exact hv)
theorem cell_at {a : Addr} {cs : List Value} {rw : Bool} {sz n : Nat} {v : Value} (hg : h.get a.block = some (.row cs rw sz)) (hs : a.spot = none) (hv : cs[a.off + n]? = some v) : h.cell (a.add n) = some v :=
  cell_of (by rw [add_block]; exact hg) (add_spot n hs) (by rw [add_off n hs]; exact hv)
theorem store_of {a : Addr} {cs vs : List Value} {sz : Nat} (hg : h.get a.block = some (.row cs true sz)) (hs : a.spot = none) (hn : decide (a.off + vs.length ≤ cs.length) = true) : h.store a vs = some (h.set a.block (.row (putAt cs a.off vs) true sz)) := by
  simp [AH.store, hg, hs, of_decide_eq_true hn]
theorem store_at {a : Addr} {cs vs : List Value} {sz n : Nat} (hg : h.get a.block = some (.row cs true sz)) (hs : a.spot = none) (hn : a.off + n + vs.length ≤ cs.length) : h.store (a.add n) vs = some (h.set a.block (.row (putAt cs (a.off + n) vs) true sz)) := by
  have := store_of (h := h) (a := a.add n) (vs := vs) (by rw [add_block]; exact hg) (add_spot n hs) (by rw [add_off n hs]; simpa using hn)
  rw [add_block, add_off n hs] at this
  exact this
theorem AH.get_push_at {o : AObj} {b : Nat} (e : b = h.n) : (h.push o).get b = some o := by rw [e]; exact AH.get_push_new h o
theorem get_same {b : Nat} {o p : AObj} (e : h.get b = some o) : (h.set b p).get b = some p := by rw [AH.get_set e, if_pos rfl]
theorem get_other {b c : Nat} {p q : AObj} (hc : h.get c = some q) (hne : c ≠ b) : (h.set b p).get c = some q := by
  unfold AH.get AH.set at *
  by_cases hb : b < h.n
  · rw [if_pos hb]
    dsimp only
    by_cases hcn : c < h.n
    · rw [if_pos hcn] at hc ⊢
      rw [List.getElem?_set_ne (by omega)]; exact hc
    · rw [if_neg hcn] at hc; cases hc
  · rw [if_neg hb]; exact hc
end
def TabChk (P : Program) : Nat → List (Option TI) → Prop
  | _, [] => True
  | n, x :: r => (x = none ∨ tabOf P n = x) ∧ TabChk P (n + 1) r
theorem tab_chk_at {P : Program} : ∀ {L : List (Option TI)} {n t : Nat} {i : TI}, TabChk P n L → (L[t]?).join = some i → tabOf P (n + t) = some i
  | [], n, t, i, _, h => by simp at h
  | x :: r, n, 0, i, hc, h => by
    simp at h
    subst h
    rcases hc.1 with e | e
    · cases e
    · exact e
  | x :: r, n, t + 1, i, hc, h => by
    rw [List.getElem?_cons_succ] at h
    have := tab_chk_at hc.2 h
    rw [show n + (t + 1) = n + 1 + t by omega]; exact this
theorem tab_chk {P : Program} {L : List (Option TI)} (hc : TabChk P 0 L) : ∀ t i, (L[t]?).join = some i → tabOf P t = some i := fun t i h => by
  have := tab_chk_at hc h
  rw [Nat.zero_add] at this; exact this
theorem bin_add64 (T : Tab) (t : TypeId) (a b : Int) (hb : -9223372036854775808 ≤ a + b ∧ a + b < 9223372036854775808) : aBin T .add t (.int .i64 a) (.int .i64 b) = some (.int .i64 (a + b)) := by
  rw [bin_add, wrap64 hb.1 hb.2]
theorem bin_sub64 (T : Tab) (t : TypeId) (a b : Int) (hb : -9223372036854775808 ≤ a - b ∧ a - b < 9223372036854775808) : aBin T .sub t (.int .i64 a) (.int .i64 b) = some (.int .i64 (a - b)) := by
  rw [bin_sub, wrap64 hb.1 hb.2]
theorem bin_mul64 (T : Tab) (t : TypeId) (a b : Int) (hb : -9223372036854775808 ≤ a * b ∧ a * b < 9223372036854775808) : aBin T .mul t (.int .i64 a) (.int .i64 b) = some (.int .i64 (a * b)) := by
  rw [bin_mul, wrap64 hb.1 hb.2]
end Go.AI
