/-
  REGIONS THAT DRAW THEIR ORDER: the walk in one order serves for all. (Own work.)
-/
import Derived.Test.YtkabedbkkbijhaaA12
namespace Go.AI
open Go.RowKit

section
variable {T : Tab} {C : CT} {Y : YT} {Kp : Value → AH → Prop} {ops : Array Oper} {bs : List (List Nat)} {effs : List Nat}
abbrev X (ops : Array Oper) (R : List (Nat × List Nat)) : List XOp := R.filterMap fun p => xopOf ops p.1 p.2
def PO (ops : Array Oper) (bs : List (List Nat)) (effs : List Nat) (x y : Nat × List Nat) : Prop := x.1 ≠ y.1 ∧ pairOk ops bs effs x y = true
theorem notIn_spec {d : Option Tmp} {l : List Tmp} (h : notIn d l = true) {t : Tmp} (hd : d = some t) : t ∉ l := by
  subst hd; simpa [notIn] using h
theorem unlike_spec {a b : Option Tmp} (h : unlike a b = true) {t : Tmp} (ha : a = some t) : b ≠ some t := by
  subst ha; intro hb; subst hb; simp [unlike] at h
theorem pair_spec {x y : Nat × List Nat} {i j : Oper} (hi : ops[x.1]? = some i) (hj : ops[y.1]? = some j) (h : pairOk ops bs effs x y = true) :
    y.1 ∉ bs.getD x.1 [] ∧ unlike i.dst j.dst = true ∧
    ((x.1 ∈ bs.getD y.1 [] ∧ (notIn j.dst (looks ops i) = true ∨ effAt j = true ∨ ∀ e ∈ effs, e = y.1 ∨ e ∈ bs.getD y.1 [])) ∨
      (effAt i = false ∧ ((readOp i.op = false ∧ freeAlloc i = false) ∨ effAt j = false ∨ x.1 ∈ y.2) ∧ notIn i.dst (looks ops j) = true ∧ notIn j.dst (looks ops i) = true)) := by
  unfold pairOk at h
  rw [hi, hj] at h
  simp only [Bool.and_eq_true, Bool.or_eq_true, Bool.not_eq_true', List.all_eq_true, beq_iff_eq, List.contains_iff_mem, Bool.or_eq_false_iff] at h
  obtain ⟨⟨h1, h2⟩, h3⟩ := h
  refine ⟨?_, h2, ?_⟩
  · intro hm
    have := List.contains_iff_mem.2 hm
    rw [h1] at this; cases this
  · rcases h3 with ⟨a, b⟩ | ⟨⟨⟨a, b⟩, c⟩, d⟩
    · refine .inl ⟨a, ?_⟩
      rcases b with (b | b) | b
      · exact .inl b
      · exact .inr (.inl b)
      · exact .inr (.inr b)
    · refine .inr ⟨a, ?_, c, d⟩
      rcases b with (b | b) | b
      · exact .inl b
      · exact .inr (.inl b)
      · exact .inr (.inr b)
theorem put_app (fr : Fr) (d : Option Tmp) (v : Value) (t : Tmp) : (fr.put d v) t = if d = some t then v else fr t := by
  cases d with
  | none => rfl
  | some x =>
    show (if t = x then v else fr t) = _
    by_cases e : t = x
    · rw [if_pos e, if_pos (by rw [e])]
    · rw [if_neg e, if_neg (by simpa using Ne.symm e)]
theorem put_comm {fr : Fr} {d e : Option Tmp} {v u : Value} (h : unlike d e = true) : (fr.put d v).put e u = (fr.put e u).put d v := by
  funext t
  simp only [put_app]
  by_cases h1 : d = some t
  · rw [if_pos h1, if_neg (unlike_spec h h1), if_pos h1]
  · rw [if_neg h1, if_neg h1]
theorem unlike_symm {a b : Option Tmp} (h : unlike a b = true) : unlike b a = true := by
  cases a <;> cases b <;> simp_all [unlike, Ne.symm]
/-- Quiet operations, one behind the other. -/
def QR (T : Tab) (ops : Array Oper) : List (Nat × List Nat) → Fr → AH → Fr → Prop
  | [], fr, _, fp => fp = fr
  | p :: r, fr, h, fp => ∃ o v, ops[p.1]? = some o ∧ ((wanted fr (guardOf ops o) = true ∧ aOp T fr h o.op = some (.val v h)) ∨ (wanted fr (guardOf ops o) = false ∧ v = undef)) ∧ QR T ops r (fr.put o.dst v) h fp
theorem qr_split {K : Fr → AH → Prop} : ∀ (p r : List (Nat × List Nat)) (fr : Fr) (h : AH), (∀ q ∈ p, q.1 < ops.size) → (∀ q ∈ p, ∀ o, ops[q.1]? = some o → effOp o.op = false ∧ q.2 = []) →
    xOps T C Y Kp (X ops (p ++ r)) fr h K → ∃ fp, QR T ops p fr h fp ∧ xOps T C Y Kp (X ops r) fp h K
  | [], r, fr, h, _, _, hx => ⟨fr, rfl, hx⟩
  | q :: p, r, fr, h, hin, hq, hx => by
    have hlt := hin q (List.mem_cons_self ..)
    obtain ⟨o, ho⟩ : ∃ o, ops[q.1]? = some o := ⟨_, Array.getElem?_eq_getElem hlt⟩
    obtain ⟨hqo, hck⟩ := hq q (List.mem_cons_self ..) o ho
    have ih := fun fr => qr_split (K := K) p r fr h (fun x hx => hin x (List.mem_cons_of_mem _ hx)) (fun x hx => hq x (List.mem_cons_of_mem _ hx))
    simp only [X, List.cons_append, List.filterMap_cons, xopOf, ho, Option.map_some, hck, List.filterMap_nil, xOps, allP, true_and] at hx
    by_cases hw : wanted fr (guardOf ops o) = true
    · rw [if_pos hw] at hx
      cases hr : aOp T fr h o.op with
      | none => rw [hr] at hx; exact hx.elim
      | some a =>
        obtain ⟨v, rfl⟩ := quiet_val hqo hr
        rw [hr] at hx
        obtain ⟨fp, h1, h2⟩ := ih _ hx
        exact ⟨fp, ⟨o, v, ho, .inl ⟨hw, hr⟩, h1⟩, h2⟩
    · rw [if_neg hw] at hx
      obtain ⟨fp, h1, h2⟩ := ih _ hx
      exact ⟨fp, ⟨o, undef, ho, .inr ⟨by simpa using hw, rfl⟩, h1⟩, h2⟩
theorem qr_join {K : Fr → AH → Prop} : ∀ (p r : List (Nat × List Nat)) (fr fp : Fr) (h : AH), (∀ q ∈ p, ∀ o, ops[q.1]? = some o → q.2 = []) →
    QR T ops p fr h fp → xOps T C Y Kp (X ops r) fp h K → xOps T C Y Kp (X ops (p ++ r)) fr h K
  | [], r, fr, fp, h, _, hq, hx => by cases hq; exact hx
  | q :: p, r, fr, fp, h, hck, hq, hx => by
    obtain ⟨o, v, ho, hv, hr⟩ := hq
    have ih := qr_join (K := K) p r _ fp h (fun x hx => hck x (List.mem_cons_of_mem _ hx)) hr hx
    have hc := hck q (List.mem_cons_self ..) o ho
    simp only [X, List.cons_append, List.filterMap_cons, xopOf, ho, Option.map_some, hc, List.filterMap_nil, xOps, allP, true_and]
    rcases hv with ⟨hw, ha⟩ | ⟨hw, rfl⟩
    · rw [if_pos hw, ha]; exact ih
    · rw [if_neg (by simp [hw])]; exact ih
theorem qr_agree : ∀ (p : List (Nat × List Nat)) (fr fp : Fr) (h : AH), QR T ops p fr h fp → ∀ t, (∀ q ∈ p, ∀ o, ops[q.1]? = some o → o.dst ≠ some t) → fp t = fr t
  | [], fr, fp, h, hq, t, _ => by cases hq; rfl
  | q :: p, fr, fp, h, hq, t, ht => by
    obtain ⟨o, v, ho, hv, hr⟩ := hq
    rw [qr_agree p _ fp h hr t (fun x hx => ht x (List.mem_cons_of_mem _ hx)), put_app, if_neg (ht q (List.mem_cons_self ..) o ho)]
theorem stays_read {fr : Fr} {h : AH} {d : Option Tmp} {op : Op} {g : Option (Tmp × Bool)} (hq : effOp op = false) (hs : stays T fr h (d, op, g)) : ∃ x, d = some x ∧ (wanted fr g = true → aOp T fr h op = some (.val (fr x) h)) := by
  unfold stays at hs
  cases d with
  | none => exact hs.elim
  | some x =>
    refine ⟨x, rfl, ?_⟩
    cases op <;> first | exact hs | (simp [effOp] at hq; done)
/-- They are the same behind another operation. -/
theorem qr_put {dx : Option Tmp} {vx : Value} {h h' : AH} : ∀ (p : List (Nat × List Nat)) (fr fp : Fr), p.Pairwise (fun q q' => ∀ o o', ops[q.1]? = some o → ops[q'.1]? = some o' → unlike o.dst o'.dst = true ∧ (h' = h ∨ notIn o'.dst (looks ops o) = true)) →
    (∀ q ∈ p, ∀ o, ops[q.1]? = some o → effOp o.op = false ∧ notIn dx (looks ops o) = true ∧ unlike o.dst dx = true ∧ notIn o.dst (looks ops o) = true ∧
      (h' = h ∨ readOp o.op = false ∨ stays T fp h' (o.dst, o.op, guardOf ops o))) →
    QR T ops p fr h fp → QR T ops p (fr.put dx vx) h' (fp.put dx vx)
  | [], fr, fp, _, _, hq => by cases hq; rfl
  | q :: p, fr, fp, hp, hc, hq => by
    obtain ⟨o, v, ho, hv, hr⟩ := hq
    obtain ⟨c1, c2, c3, c4, c5⟩ := hc q (List.mem_cons_self ..) o ho
    rw [List.pairwise_cons] at hp
    have ih := qr_put (dx := dx) (vx := vx) (h' := h') p _ fp hp.2 (fun x hx => hc x (List.mem_cons_of_mem _ hx)) hr
    have hagree : ∀ t ∈ looks ops o, (fr.put dx vx) t = fr t := by
      intro t ht
      rw [put_app, if_neg]
      intro e
      exact notIn_spec c2 e ht
    have hw : wanted (fr.put dx vx) (guardOf ops o) = wanted fr (guardOf ops o) := wanted_congr hagree
    have ha : aOp T (fr.put dx vx) h' o.op = aOp T fr h' o.op := aOp_congr (ev_congr hagree)
    refine ⟨o, v, ho, ?_, ?_⟩
    · rcases hv with ⟨w1, w2⟩ | ⟨w1, w2⟩
      · refine .inl ⟨hw.trans w1, ?_⟩
        rw [ha]
        rcases c5 with rfl | c5 | c5
        · exact w2
        · exact pure_val c1 c5 w2 h'
        · obtain ⟨x, hx, hst⟩ := stays_read c1 c5
          by_cases hh : h' = h
          · subst hh; exact w2
          have hpt : ∀ t ∈ looks ops o, fp t = fr t := by
            intro t ht
            rw [qr_agree p _ fp h hr t, put_app, if_neg]
            · intro e; exact notIn_spec c4 e ht
            · intro q' hq' o' ho' e
              rcases (hp.1 q' hq' o o' ho ho').2 with k | k
              · exact hh k
              · exact notIn_spec k e ht
          have hfx : fp x = v := by
            rw [qr_agree p _ fp h hr x, put_app, if_pos hx]
            intro q' hq' o' ho'
            exact unlike_spec (hp.1 q' hq' o o' ho ho').1 hx
          have := hst ((wanted_congr hpt).trans w1)
          rw [hfx, aOp_congr (ev_congr hpt)] at this
          exact this
      · exact .inr ⟨hw.trans w1, w2⟩
    · rw [put_comm (unlike_symm c3)]; exact ih
end
end Go.AI
