/-
  FROM A LAW'S INPUTS TO THE INTERPRETER'S: what came in is data that no one turns; what the law leaves. (Own work.)
-/
import Derived.Test.YtkabedbkkbijhaaA19
import Derived.Below
namespace Go.AI
open Go.RowKit
/-- A world as it stands ahead of the call: nothing in it is the callee's own; its rows stay. -/
def world0 (w : World) : AH := ⟨w.heap.size, List.replicate w.heap.size .dead⟩
def ren0 (w : World) : Ren := fun B => match w.heap[B]? with
  | some (.cells arr _ _) => some ⟨B, 0, arr.size, 0, false, some arr⟩
  | _ => none
theorem ren0_at {w : World} {B : Nat} {e : Ent} (h : ren0 w B = some e) : ∃ arr t fz, w.heap[B]? = some (.cells arr t fz) ∧ e = ⟨B, 0, arr.size, 0, false, some arr⟩ := by
  unfold ren0 at h
  split at h
  · rename_i arr t fz hB
    cases h
    exact ⟨arr, t, fz, hB, rfl⟩
  · cases h
theorem ren0_of {w : World} {B : Nat} {arr : Array Value} {t : TypeId} {fz : Nat × Nat} (h : w.heap[B]? = some (.cells arr t fz)) : ren0 w B = some ⟨B, 0, arr.size, 0, false, some arr⟩ := by
  unfold ren0
  rw [h]
theorem world0_get {w : World} {B : Nat} {o : AObj} (h : (world0 w).get B = some o) : o = .dead := by
  unfold AH.get world0 at h
  split at h
  · rw [List.getElem?_replicate] at h
    split at h
    · cases h; rfl
    · cases h
  · cases h
theorem not_own0 (w : World) (k : Nat) : ¬ Own (ren0 w) (world0 w) k := by
  rintro ⟨B, e, o, _, h, ho, _⟩
  rw [world0_get h] at ho
  cases ho
theorem hr0 (okc : Nat → Code → XC → Prop) (w : World) : HR okc (ren0 w) (world0 w) w where
  dom := fun B e h => by
    obtain ⟨arr, t, fz, hB, _⟩ := ren0_at h
    exact (Array.getElem?_eq_some_iff.1 hB).1
  lt := fun B e h => by
    obtain ⟨arr, t, fz, hB, rfl⟩ := ren0_at h
    exact (Array.getElem?_eq_some_iff.1 hB).1
  obj := fun B o e h _ => .inl (world0_get h)
  inj := fun B B' e e' o o' h _ ho _ _ _ _ => by rw [world0_get h] at ho; cases ho
  ro := fun B e cs sz h _ => by cases world0_get h
  frz := fun B e arr h hf => by
    obtain ⟨arr', t, fz, hB, rfl⟩ := ren0_at h
    cases hf
    exact ⟨⟨t, fz, hB⟩, not_own0 w _⟩
theorem glob0 (ρ : Ren) : Glob 0 ρ := fun g hg => by omega
theorem below0 {w w' : World} {ρ' : Ren} {h' : AH} (E : Ext (ren0 w) (world0 w) w ρ' h' w') : Below w.heap.size w w' :=
  ⟨E.os, E.tape, E.output, E.size, fun k hk => (E.keep k hk (not_own0 w k)).1⟩
/-- A law that the interpreter shows to answer b. -/
theorem calls0 {okc : Nat → Code → XC → Prop} {P : Program} {f : FuncId} {args : List Value} {args' : Array Value} {w : World} {b : Bool} (hc : AC okc 0 P f args (world0 w) fun r _ => r = .ret (.bool b)) (V : VL (ren0 w) args args'.toList) :
    Calls P f args' w fun e w' => e = .returned (.bool b) ∧ Below w.heap.size w w' :=
  (hc.2 (ren0 w) w args' (hr0 okc w) (glob0 _) V).mono fun e w' ⟨ρ', h', r, ho, _, E, hr⟩ => by
    subst hr
    refine ⟨?_, below0 E⟩
    cases ho with
    | ret h => cases h; rfl
/-! ### readings -/
theorem mapM_at {α β : Type} {f : α → Option β} : ∀ {l : List α} {r : List β}, l.mapM f = some r → l.length = r.length ∧ ∀ (i : Nat) (x : α), l[i]? = some x → ∃ y, f x = some y ∧ r[i]? = some y
  | [], r, h => by
    rw [List.mapM_nil] at h
    cases h
    exact ⟨rfl, fun i x hx => by simp at hx⟩
  | a :: l, r, h => by
    rw [List.mapM_cons] at h
    cases ha : f a with
    | none => rw [ha] at h; cases h
    | some y =>
      cases hl : l.mapM f with
      | none => rw [ha, hl] at h; cases h
      | some ys =>
        rw [ha, hl] at h
        cases h
        obtain ⟨h1, h2⟩ := mapM_at hl
        refine ⟨by simp [h1], fun i x hx => ?_⟩
        cases i with
        | zero => simp at hx; subst hx; exact ⟨y, ha, rfl⟩
        | succ i => exact h2 i x (by simpa using hx)
theorem list_of {α : Type} {p : Nat → α → Prop} : ∀ (n : Nat), (∀ i, i < n → ∃ x, p i x) → ∃ l : List α, l.length = n ∧ ∀ (i : Nat) (x : α), l[i]? = some x → p i x
  | 0, _ => ⟨[], rfl, fun i x hx => by simp at hx⟩
  | n + 1, h => by
    obtain ⟨l, h1, h2⟩ := list_of n fun i hi => h i (by omega)
    obtain ⟨x, hx⟩ := h n (by omega)
    refine ⟨l ++ [x], by simp [h1], fun i y hy => ?_⟩
    rw [List.getElem?_append] at hy
    split at hy
    · exact h2 i y hy
    · rename_i hi
      have : i - l.length = 0 := by
        have := (List.getElem?_eq_some_iff.1 hy).1
        simp at this; omega
      rw [this] at hy
      cases hy
      have : i = n := by omega
      subst this; exact hx
section
variable {P : Program} {w : World}
/-- What is read at a type: k cells, data. -/
def Reads (P : Program) (w : World) {α : Type} (t : TypeId) (k : Nat) (φ : α → Value) : Prop :=
  (∀ a, (φ a).cells.size = k ∧ notTup (φ a) = true) ∧ ∀ (H : Type) (enc : TypeId × Value → H) (n : Nat) (cs : List Value) (x : DataW H × List MemPlace), DataW.trod enc P w 0 (fun _ => true) true n t cs = some x → cs.length = k → ∃ a, CL (ren0 w) (φ a).cells.toList cs
theorem reads_int {t : TypeId} {k : IntKind} (ht : P.underlying t = some (.int k)) : Reads P w t 1 (fun n : Int => .int k n) := by
  refine ⟨fun a => ⟨rfl, rfl⟩, fun H enc n cs x h hl => ?_⟩
  obtain ⟨c, rfl⟩ := List.length_eq_one_iff.1 hl
  cases n with
  | zero => cases h
  | succ n =>
    cases c <;> simp [DataW.trod, ht] at h
    obtain ⟨⟨rfl, _⟩, _⟩ := h
    exact ⟨_, L2.cons ⟨.int _ _, rfl⟩ .nil⟩
theorem trod_struct {H : Type} {enc : TypeId × Value → H} {n : Nat} {t : TypeId} {fs : Array Field} {cs : List Value} {x : DataW H × List MemPlace} (ht : P.underlying t = some (.struct fs)) (h : DataW.trod enc P w 0 (fun _ => true) true n t cs = some x) :
    ∃ m, ∀ f ∈ fs.toList, ∃ y, DataW.trod enc P w 0 (fun _ => true) true m f.type ((cs.drop f.offset).take (P.cellsOf f.type)) = some y := by
  cases n with
  | zero => cases h
  | succ n =>
    refine ⟨n, fun f hf => ?_⟩
    simp only [DataW.trod, ht] at h
    split at h
    · obtain ⟨r, hr, _⟩ := Option.map_eq_some_iff.1 h
      obtain ⟨i, hi⟩ := List.getElem?_of_mem hf
      obtain ⟨y, hy, _⟩ := (mapM_at hr).2 i f hi
      exact ⟨y, hy⟩
    · cases h
theorem trod_array {H : Type} {enc : TypeId × Value → H} {n m : Nat} {t e : TypeId} {cs : List Value} {x : DataW H × List MemPlace} (ht : P.underlying t = some (.array m e)) (h : DataW.trod enc P w 0 (fun _ => true) true n t cs = some x) :
    ∃ n', ∀ i, i < m → ∃ y, DataW.trod enc P w 0 (fun _ => true) true n' e ((cs.drop (i * P.cellsOf e)).take (P.cellsOf e)) = some y := by
  cases n with
  | zero => cases h
  | succ n =>
    refine ⟨n, fun i hi => ?_⟩
    simp only [DataW.trod, ht] at h
    split at h
    · obtain ⟨r, hr, _⟩ := Option.map_eq_some_iff.1 h
      obtain ⟨y, hy, _⟩ := (mapM_at hr).2 i i (by rw [List.getElem?_range hi])
      exact ⟨y, hy⟩
    · cases h
theorem cell_spot {a : Addr} {c : Value} (h : w.cell? a = some c) : a.spot = none := by
  unfold World.cell? at h
  split at h
  · split at h
    · cases h
    · rename_i hs
      cases hq : a.spot with
      | none => rfl
      | some v => exfalso; apply hs; rw [hq]; rfl
  · cases h
theorem cells_read {a : Addr} {k : Nat} {cs : List Value} (h : w.cells? 0 a k = some cs) : cs.length = k ∧ ∀ j, j < k → ∃ arr t fz c, w.heap[a.block]? = some (.cells arr t fz) ∧ a.spot = none ∧ arr[a.off + j]? = some c ∧ cs[j]? = some c := by
  unfold World.cells? at h
  rw [if_pos (Nat.zero_le _)] at h
  obtain ⟨h1, h2⟩ := mapM_at h
  refine ⟨by simpa using h1.symm, fun j hj => ?_⟩
  obtain ⟨c0, hc0, _⟩ := h2 0 0 (by rw [List.getElem?_range (by omega)])
  have hsp : a.spot = none := by
    have := cell_spot hc0
    unfold Addr.add at this
    rwa [if_pos rfl] at this
  obtain ⟨c, hc, hr⟩ := h2 j j (by rw [List.getElem?_range hj])
  unfold World.cell? at hc
  rw [add_block] at hc
  split at hc
  · rename_i arr t fz hB
    split at hc
    · cases hc
    · rw [add_off j hsp] at hc
      exact ⟨arr, t, fz, c, hB, hsp, hc, hr⟩
  · cases hc
theorem reads_slice {α : Type} {t e : TypeId} {k : Nat} {φ : α → Value} (ht : P.underlying t = some (.slice e)) (hk : P.cellsOf e = k) (hk0 : 0 < k) (R : Reads P w e k φ) : Reads P w t 1 (fun l : List α => PS k (l.map φ)) := by
  refine ⟨fun a => ⟨rfl, rfl⟩, fun H enc n cs x h hl => ?_⟩
  obtain ⟨c, rfl⟩ := List.length_eq_one_iff.1 hl
  cases n with
  | zero => cases h
  | succ n =>
    cases c with
    | slice a len cap =>
      cases a with
      | none =>
        have : len = 0 ∧ cap = 0 := by
          cases len <;> cases cap <;> simp [DataW.trod, ht] at h ⊢
        obtain ⟨rfl, rfl⟩ := this
        exact ⟨[], L2.cons ⟨.ps0 0 k, rfl⟩ .nil⟩
      | some a =>
        simp only [DataW.trod, ht] at h
        split at h
        · rename_i hc
          obtain ⟨elems, he, _⟩ := Option.bind_eq_some_iff.1 h
          obtain ⟨_, h2⟩ := mapM_at he
          have hx : ∀ i, i < len → ∃ x : α, ∃ csi, w.cells? 0 (a.add (i * k)) k = some csi ∧ CL (ren0 w) (φ x).cells.toList csi := by
            intro i hi
            obtain ⟨y, hy, _⟩ := h2 i i (by rw [List.getElem?_range hi])
            obtain ⟨csi, h3, h4⟩ := Option.bind_eq_some_iff.1 hy
            rw [hk] at h3
            obtain ⟨x, hx⟩ := R.2 H enc n csi y h4 (cells_read h3).1
            exact ⟨x, csi, h3, hx⟩
          obtain ⟨l, hll, hl2⟩ := list_of len hx
          refine ⟨l, L2.cons ⟨?_, rfl⟩ .nil⟩
          by_cases h0 : len = 0
          · have : l = [] := List.length_eq_zero_iff.1 (by omega)
            subst this
            subst h0
            exact .ps1 0 k a cap (fun e => by cases e)
          · have hsp : a.spot = none := by
              obtain ⟨x, csi, h3, _⟩ := hx 0 (by omega)
              obtain ⟨_, _, _, _, _, k2, _⟩ := (cells_read h3).2 0 hk0
              unfold Addr.add at k2
              rwa [if_pos (by simp)] at k2
            have cell : ∀ (i j : Nat), i < len → j < k → ∃ arr t fz c x csi, w.heap[a.block]? = some (.cells arr t fz) ∧ a.spot = none ∧ arr[a.off + i * k + j]? = some c ∧ l[i]? = some x ∧ csi[j]? = some c ∧ CL (ren0 w) (φ x).cells.toList csi := by
              intro i j hi hj
              have hlx : l[i]? = some l[i] := List.getElem?_eq_getElem (by omega)
              obtain ⟨csi, h3, h4⟩ := hl2 i _ hlx
              obtain ⟨arr, t', fz, c, k1, k2, k3, k4⟩ := (cells_read h3).2 j hj
              rw [add_block] at k1
              rw [add_off _ hsp] at k3
              exact ⟨arr, t', fz, c, _, csi, k1, hsp, k3, hlx, k4, h4⟩
            obtain ⟨arr, t', fz, _, _, _, hB, _, _⟩ := cell 0 0 (by omega) hk0
            have hρ := ren0_of hB
            have one : ∀ (i j : Nat), i < len → j < k → ∃ c x csi, arr[a.off + i * k + j]? = some c ∧ l[i]? = some x ∧ csi[j]? = some c ∧ CL (ren0 w) (φ x).cells.toList csi := by
              intro i j hi hj
              obtain ⟨arr2, t2, fz2, c, x, csi, k1, _, k3, k4, k5, k6⟩ := cell i j hi hj
              rw [hB] at k1
              cases k1
              exact ⟨c, x, csi, k3, k4, k5, k6⟩
            have key : ∀ (i j : Nat) (v c c' : Value), (l.map φ)[i]? = some v → v.cells[j]? = some c → arr[a.off + i * k + j]? = some c' → VC (ren0 w) c c' := by
              intro i j v c c' hv hc' hcc
              rw [List.getElem?_map] at hv
              obtain ⟨x, hx1, rfl⟩ := Option.map_eq_some_iff.1 hv
              have hi : i < len := by rw [← hll]; exact (List.getElem?_eq_some_iff.1 hx1).1
              have hj : j < k := by rw [← (R.1 x).1]; exact (Array.getElem?_eq_some_iff.1 hc').1
              obtain ⟨c2, x2, csi, k3, k4, k5, k6⟩ := one i j hi hj
              rw [hcc] at k3; cases k3
              rw [hx1] at k4; cases k4
              exact k6.2 j c c' (by rw [Array.getElem?_toList]; exact hc') k5
            have hsz : (l.map φ).toArray.size = len := by simp [hll]
            obtain ⟨ab, ao, as⟩ := a
            dsimp only at hsp hB hρ
            subst hsp
            have := VR.ps (l := 0) (B := ab) (off := ao) (k := k) (ccap := cap) (arr := arr) (els := (l.map φ).toArray) (fun e => by cases e) hρ rfl (by rw [hsz]; exact hc.2.1) (by
                rw [hsz]
                obtain ⟨c, _, _, k3, _⟩ := one (len - 1) (k - 1) (by omega) (by omega)
                have := (Array.getElem?_eq_some_iff.1 k3).1
                dsimp only at this
                have e1 : len * k = (len - 1) * k + k := by
                  rw [← Nat.succ_mul]; congr 1; omega
                omega)
              (fun i v hv => by
                have hv' : (l.map φ)[i]? = some v := by simpa using hv
                rw [List.getElem?_map] at hv'
                obtain ⟨x, _, rfl⟩ := Option.map_eq_some_iff.1 hv'
                exact R.1 x)
              (fun i j v c c' hv hc1 hc2 => (key i j v c c' (by simpa using hv) hc1 hc2).1)
              (fun i j v c c' hv hc1 hc2 => (key i j v c c' (by simpa using hv) hc1 hc2).2)
            rw [hsz] at this
            exact this
        · cases h
    | _ => simp [DataW.trod, ht] at h
end
end Go.AI
