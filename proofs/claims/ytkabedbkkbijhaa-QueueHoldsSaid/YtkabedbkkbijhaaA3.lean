/-
  THE INTERPRETER'S HEAP AGAINST THE MODEL'S: the relation, and what keeps it. (Own work.)
-/
import Derived.Test.YtkabedbkkbijhaaA2
namespace Go.AI
open Go.RowKit

structure Ent where
  blk : Nat
  off : Nat
  tot : Nat
  sz : Nat
  rw : Bool
  /-- the cells that no one turns any more -/
  frz : Option (Array Value) := none
abbrev Ren := Nat → Option Ent

inductive VR (ρ : Ren) : Value → Value → Prop
  | bool (b : Bool) : VR ρ (.bool b) (.bool b)
  | int (k : IntKind) (n : Int) : VR ρ (.int k n) (.int k n)
  | float (k : FloatKind) (n : Nat) : VR ρ (.float k n) (.float k n)
  | complex (k : FloatKind) (a b : Nat) : VR ρ (.complex k a b) (.complex k a b)
  | string (s : ByteArray) : VR ρ (.string s) (.string s)
  | ptr0 : VR ρ (.pointer none) (.pointer none)
  | ptr {B off : Nat} {e : Ent} (h : ρ B = some e) : VR ρ (.pointer (some ⟨B, off, none⟩)) (.pointer (some ⟨e.blk, e.off + off, none⟩))
  | sl0 : VR ρ (.slice none 0 0) (.slice none 0 0)
  | sl {B off len c ccap : Nat} {ca : Addr} {e : Ent} (h : ρ B = some e) (hl : len ≤ ccap) (hc : c ≠ 0 → ccap = c - 1)
      (ha : ccap = 0 ∨ ca = ⟨e.blk, e.off + off, none⟩) (hb : e.rw = true → e.off + off + ccap * e.sz ≤ e.tot) :
      VR ρ (.slice (some ⟨B, off, none⟩) len c) (.slice (some ca) len ccap)
  | map0 : VR ρ (.map none) (.map none)
  | map {B : Nat} {e : Ent} (h : ρ B = some e) : VR ρ (.map (some B)) (.map (some e.blk))
  | chan0 : VR ρ (.chan none) (.chan none)
  | nilFunc : VR ρ .nilFunc .nilFunc
  | func (f : FuncId) (p p' q q' : Array Value) (hp : p.size = p'.size) (hq : q.size = q'.size)
      (hp' : ∀ (i : Nat) (v v' : Value), p[i]? = some v → p'[i]? = some v' → VR ρ v v') (hq' : ∀ (i : Nat) (v v' : Value), q[i]? = some v → q'[i]? = some v' → VR ρ v v') :
      VR ρ (.func (.func f) p q) (.func (.func f) p' q')
  | yield {l : Nat} {e : Ent} (h : ρ l = some e) : VR ρ (.func (.yield l) #[] #[]) (.func (.yield e.blk) #[] #[])
  | iface (t : TypeId) (v v' : Value) (h : VR ρ v v') : VR ρ (.iface t v) (.iface t v')
  | nilIface : VR ρ .nilIface .nilIface
  | agg (p p' : Array Value) (hp : p.size = p'.size) (hp' : ∀ (i : Nat) (v v' : Value), p[i]? = some v → p'[i]? = some v' → VR ρ v v')
      (h1 : ∀ (i : Nat) (v' : Value), p'[i]? = some v' → v'.oneCell' = true) : VR ρ (.agg p) (.agg p')
  | tuple (p p' : Array Value) (hp : p.size = p'.size) (hp' : ∀ (i : Nat) (v v' : Value), p[i]? = some v → p'[i]? = some v' → VR ρ v v') : VR ρ (.tuple p) (.tuple p')
  | ps {l B off k ccap : Nat} {e : Ent} {arr els : Array Value} (hcl : l = 1 → ccap = els.size) (h : ρ B = some e) (hf : e.frz = some arr) (hc : els.size ≤ ccap) (hb : off + els.size * k ≤ arr.size)
      (hk : ∀ (i : Nat) (v : Value), els[i]? = some v → v.cells.size = k ∧ notTup v = true)
      (hv : ∀ (i j : Nat) (v c c' : Value), els[i]? = some v → v.cells[j]? = some c → arr[off + i * k + j]? = some c' → VR ρ c c')
      (h1 : ∀ (i j : Nat) (v c c' : Value), els[i]? = some v → v.cells[j]? = some c → arr[off + i * k + j]? = some c' → c'.oneCell' = true) :
      VR ρ (.func (.yield l) #[.int .i64 k] els) (.slice (some ⟨e.blk, off, none⟩) els.size ccap)
  | ps0 (l k : Nat) : VR ρ (.func (.yield l) #[.int .i64 k] #[]) (.slice none 0 0)
  | ps1 (l k : Nat) (a : Addr) (ccap : Nat) (hcl : l = 1 → ccap = 0) : VR ρ (.func (.yield l) #[.int .i64 k] #[]) (.slice (some a) 0 ccap)
  | pp {B off : Nat} {e : Ent} {arr : Array Value} {v : Value} (h : ρ B = some e) (hf : e.frz = some arr) (hb : off + v.cells.size ≤ arr.size) (ht : notTup v = true)
      (hv : ∀ (j : Nat) (c c' : Value), v.cells[j]? = some c → arr[off + j]? = some c' → VR ρ c c') (h1 : ∀ (j : Nat) (c c' : Value), v.cells[j]? = some c → arr[off + j]? = some c' → c'.oneCell' = true) :
      VR ρ (.func (.yield 0) #[.int .i64 1, v] #[]) (.pointer (some ⟨e.blk, off, none⟩))

def Sub (ρ ρ' : Ren) : Prop := ∀ B e, ρ B = some e → ρ' B = some e
theorem Sub.refl (ρ : Ren) : Sub ρ ρ := fun _ _ h => h
theorem Sub.trans {a b c : Ren} (h : Sub a b) (k : Sub b c) : Sub a c := fun B e x => k B e (h B e x)

theorem VR.mono {ρ ρ' : Ren} (hs : Sub ρ ρ') {v v' : Value} (h : VR ρ v v') : VR ρ' v v' := by
  induction h with
  | bool b => exact .bool b
  | int k n => exact .int k n
  | float k n => exact .float k n
  | complex k a b => exact .complex k a b
  | string s => exact .string s
  | ptr0 => exact .ptr0
  | ptr h => exact .ptr (hs _ _ h)
  | sl0 => exact .sl0
  | sl h hl hc ha hb => exact .sl (hs _ _ h) hl hc ha hb
  | map0 => exact .map0
  | map h => exact .map (hs _ _ h)
  | chan0 => exact .chan0
  | nilFunc => exact .nilFunc
  | func f p p' q q' hp hq _ _ ih1 ih2 => exact .func f p p' q q' hp hq ih1 ih2
  | yield h => exact .yield (hs _ _ h)
  | iface t v v' _ ih => exact .iface t v v' ih
  | nilIface => exact .nilIface
  | agg p p' hp _ h1 ih => exact .agg p p' hp ih h1
  | tuple p p' hp _ ih => exact .tuple p p' hp ih
  | ps hcl h hf hc hb hk _ h1 ih => exact .ps hcl (hs _ _ h) hf hc hb hk ih h1
  | ps0 l k => exact .ps0 l k
  | ps1 l k a c hcl => exact .ps1 l k a c hcl
  | pp h hf hb ht _ h1 ih => exact .pp (hs _ _ h) hf hb ht ih h1

/-- Two lists, cell by cell. -/
def L2 {α β : Type} (R : α → β → Prop) (xs : List α) (ys : List β) : Prop := xs.length = ys.length ∧ ∀ (i : Nat) (x : α) (y : β), xs[i]? = some x → ys[i]? = some y → R x y
section
variable {α β : Type} {R R' : α → β → Prop}
theorem L2.nil : L2 R [] [] := ⟨rfl, fun i x y h => by simp at h⟩
theorem L2.cons {x : α} {y : β} {xs : List α} {ys : List β} (h : R x y) (k : L2 R xs ys) : L2 R (x :: xs) (y :: ys) :=
  ⟨by simp [k.1], fun i a b ha hb => by
    cases i with
    | zero => simp at ha hb; subst ha; subst hb; exact h
    | succ i => simp at ha hb; exact k.2 i a b ha hb⟩
theorem L2.mono {xs : List α} {ys : List β} (h : L2 R xs ys) (hR : ∀ x y, R x y → R' x y) : L2 R' xs ys := ⟨h.1, fun i x y a b => hR _ _ (h.2 i x y a b)⟩
theorem L2.head {x : α} {y : β} {xs : List α} {ys : List β} (h : L2 R (x :: xs) (y :: ys)) : R x y := h.2 0 x y rfl rfl
theorem L2.tail {x : α} {y : β} {xs : List α} {ys : List β} (h : L2 R (x :: xs) (y :: ys)) : L2 R xs ys := ⟨by have := h.1; simp at this; exact this, fun i a b ha hb => h.2 (i + 1) a b (by simpa using ha) (by simpa using hb)⟩
theorem L2.nil_left {ys : List β} (h : L2 R ([] : List α) ys) : ys = [] := by
  have := h.1
  exact List.eq_nil_of_length_eq_zero (by simpa using this.symm)
theorem L2.cons_left {x : α} {xs : List α} {ys : List β} (h : L2 R (x :: xs) ys) : ∃ y ys', ys = y :: ys' ∧ R x y ∧ L2 R xs ys' := by
  cases ys with
  | nil => have := h.1; simp at this
  | cons y ys => exact ⟨y, ys, rfl, h.head, h.tail⟩
theorem L2.get {xs : List α} {ys : List β} (h : L2 R xs ys) {i : Nat} {x : α} (hx : xs[i]? = some x) : ∃ y, ys[i]? = some y ∧ R x y := by
  have hi : i < xs.length := (List.getElem?_eq_some_iff.1 hx).1
  have hy : ys[i]? = some (ys[i]'(by rw [← h.1]; exact hi)) := List.getElem?_eq_getElem _
  exact ⟨_, hy, h.2 i _ _ hx hy⟩
theorem L2.get_none {xs : List α} {ys : List β} (h : L2 R xs ys) {i : Nat} (hx : xs[i]? = none) : ys[i]? = none := by
  rw [List.getElem?_eq_none_iff] at hx ⊢
  rw [← h.1]; exact hx
theorem L2.append {a c : List α} {b d : List β} (h : L2 R a b) (k : L2 R c d) : L2 R (a ++ c) (b ++ d) := by
  refine ⟨by simp [h.1, k.1], fun i x y hx hy => ?_⟩
  by_cases hi : i < a.length
  · rw [List.getElem?_append_left hi] at hx
    rw [List.getElem?_append_left (by rw [← h.1]; exact hi)] at hy
    exact h.2 i x y hx hy
  · rw [List.getElem?_append_right (by omega)] at hx
    rw [List.getElem?_append_right (by rw [← h.1]; omega), ← h.1] at hy
    exact k.2 _ x y hx hy
theorem L2.take {a : List α} {b : List β} (h : L2 R a b) (n : Nat) : L2 R (a.take n) (b.take n) := by
  refine ⟨by simp [h.1], fun i x y hx hy => ?_⟩
  rw [List.getElem?_take] at hx hy
  by_cases hi : i < n
  · rw [if_pos hi] at hx hy; exact h.2 i x y hx hy
  · rw [if_neg hi] at hx; cases hx
theorem L2.drop {a : List α} {b : List β} (h : L2 R a b) (n : Nat) : L2 R (a.drop n) (b.drop n) := by
  refine ⟨by simp [h.1], fun i x y hx hy => ?_⟩
  rw [List.getElem?_drop] at hx hy
  exact h.2 _ x y hx hy
theorem L2.set {a : List α} {b : List β} (h : L2 R a b) (n : Nat) {x : α} {y : β} (hxy : R x y) : L2 R (a.set n x) (b.set n y) := by
  refine ⟨by simp [h.1], fun i u v hu hv => ?_⟩
  rw [List.getElem?_set] at hu hv
  by_cases e : n = i
  · rw [if_pos e] at hu hv
    split at hu
    · split at hv
      · cases hu; cases hv; exact hxy
      · cases hv
    · cases hu
  · rw [if_neg e] at hu hv; exact h.2 i u v hu hv
theorem L2.map {γ δ : Type} {S : γ → δ → Prop} {f : α → γ} {g : β → δ} {a : List α} {b : List β} (h : L2 R a b) (hf : ∀ x y, R x y → S (f x) (g y)) : L2 S (a.map f) (b.map g) := by
  refine ⟨by simp [h.1], fun i u v hu hv => ?_⟩
  rw [List.getElem?_map] at hu hv
  cases ha : a[i]? with
  | none => rw [ha] at hu; cases hu
  | some x =>
    cases hb : b[i]? with
    | none => rw [hb] at hv; cases hv
    | some y => rw [ha] at hu; rw [hb] at hv; cases hu; cases hv; exact hf _ _ (h.2 i x y ha hb)
end
abbrev VL (ρ : Ren) : List Value → List Value → Prop := L2 (VR ρ)
theorem vl_arr {ρ : Ren} {p p' : Array Value} : VL ρ p.toList p'.toList ↔ p.size = p'.size ∧ ∀ (i : Nat) (v v' : Value), p[i]? = some v → p'[i]? = some v' → VR ρ v v' := by
  unfold VL L2
  simp [Array.getElem?_toList]
/-- Cells: related, and each of one cell. -/
def VC (ρ : Ren) (v v' : Value) : Prop := VR ρ v v' ∧ v'.oneCell' = true
abbrev CL (ρ : Ren) : List Value → List Value → Prop := L2 (VC ρ)
theorem VC.mono {ρ ρ' : Ren} (hs : Sub ρ ρ') {v v' : Value} (h : VC ρ v v') : VC ρ' v v' := ⟨h.1.mono hs, h.2⟩
theorem cl_arr {ρ : Ren} {p p' : Array Value} : CL ρ p.toList p'.toList ↔ p.size = p'.size ∧ (∀ (i : Nat) (v v' : Value), p[i]? = some v → p'[i]? = some v' → VR ρ v v') ∧ ∀ (i : Nat) (v' : Value), p'[i]? = some v' → v'.oneCell' = true := by
  unfold CL L2 VC
  simp only [Array.length_toList, Array.getElem?_toList]
  constructor
  · rintro ⟨a, b⟩
    refine ⟨a, fun i v v' h h' => (b i v v' h h').1, fun i v' h' => ?_⟩
    have hi : i < p.size := by rw [a]; exact (Array.getElem?_eq_some_iff.1 h').1
    exact (b i _ v' (Array.getElem?_eq_getElem hi) h').2
  · rintro ⟨a, b, c⟩
    exact ⟨a, fun i v v' h h' => ⟨b i v v' h h', c i v' h'⟩⟩
theorem VR.agg_iff {ρ : Ren} {p p' : Array Value} : VR ρ (.agg p) (.agg p') ↔ CL ρ p.toList p'.toList := by
  rw [cl_arr]
  constructor
  · intro h; cases h with | agg _ _ a b c => exact ⟨a, b, c⟩
  · rintro ⟨a, b, c⟩; exact .agg _ _ a b c
theorem VR.tuple_iff {ρ : Ren} {p p' : Array Value} : VR ρ (.tuple p) (.tuple p') ↔ VL ρ p.toList p'.toList := by
  rw [vl_arr]
  constructor
  · intro h; cases h with | tuple _ _ a b => exact ⟨a, b⟩
  · rintro ⟨a, b⟩; exact .tuple _ _ a b
theorem VR.cells {ρ : Ren} {v v' : Value} (h : VR ρ v v') (ht : notTup v = true) : CL ρ v.cells.toList v'.cells.toList := by
  cases h with
  | agg p p' a b c => exact cl_arr.2 ⟨a, b, c⟩
  | tuple p p' a b => simp [notTup] at ht
  | bool b => exact .cons ⟨.bool b, rfl⟩ .nil
  | int k n => exact .cons ⟨.int k n, rfl⟩ .nil
  | float k n => exact .cons ⟨.float k n, rfl⟩ .nil
  | complex k a b => exact .cons ⟨.complex k a b, rfl⟩ .nil
  | string s => exact .cons ⟨.string s, rfl⟩ .nil
  | ptr0 => exact .cons ⟨.ptr0, rfl⟩ .nil
  | ptr h => exact .cons ⟨.ptr h, rfl⟩ .nil
  | sl0 => exact .cons ⟨.sl0, rfl⟩ .nil
  | sl h hl hc ha hb => exact .cons ⟨.sl h hl hc ha hb, rfl⟩ .nil
  | map0 => exact .cons ⟨.map0, rfl⟩ .nil
  | map h => exact .cons ⟨.map h, rfl⟩ .nil
  | chan0 => exact .cons ⟨.chan0, rfl⟩ .nil
  | nilFunc => exact .cons ⟨.nilFunc, rfl⟩ .nil
  | func f p p' q q' a b c d => exact .cons ⟨.func f p p' q q' a b c d, rfl⟩ .nil
  | yield h => exact .cons ⟨.yield h, rfl⟩ .nil
  | iface t v v' h => exact .cons ⟨.iface t v v' h, rfl⟩ .nil
  | nilIface => exact .cons ⟨.nilIface, rfl⟩ .nil
  | ps hcl h hf hc hb hk hv h1 => exact .cons ⟨.ps hcl h hf hc hb hk hv h1, rfl⟩ .nil
  | ps0 l k => exact .cons ⟨.ps0 l k, rfl⟩ .nil
  | ps1 l k a c hcl => exact .cons ⟨.ps1 l k a c hcl, rfl⟩ .nil
  | pp h hf hb ht' hv h1 => exact .cons ⟨.pp h hf hb ht' hv h1, rfl⟩ .nil
theorem VR.cells_size {ρ : Ren} {v v' : Value} (h : VR ρ v v') : v.cells.size = v'.cells.size := by
  by_cases ht : notTup v = true
  · have := (h.cells ht).1
    simpa using this
  · cases h <;> first | rfl | simp [notTup] at ht
theorem VR.one {ρ : Ren} {v v' : Value} (h : VR ρ v v') : v.oneCell' = v'.oneCell' := by cases h <;> rfl
theorem VR.notTup {ρ : Ren} {v v' : Value} (h : VR ρ v v') : notTup v = notTup v' := by cases h <;> rfl
theorem VR.simple {ρ : Ren} {v : Value} (h : simpleV v = true) : VR ρ v v := by
  unfold simpleV at h
  split at h <;> first | constructor | cases h
theorem VR.flat {ρ : Ren} {v : Value} (h : flatV v = true) : VR ρ v v := by
  unfold flatV at h
  split at h
  · rename_i cs
    rw [List.all_eq_true] at h
    refine .agg _ _ rfl (fun i v v' hv hv' => ?_) (fun i v' hv' => ?_)
    · rw [hv] at hv'; cases hv'
      exact .simple (h v (by simpa using Array.mem_of_getElem? hv))
    · have := h v' (by simpa using Array.mem_of_getElem? hv')
      unfold simpleV at this
      split at this <;> first | rfl | cases this
  · exact .simple h

/-! ### heaps -/
def owned : AObj → Bool
  | .row _ rw _ => rw
  | .map _ _ _ => true
  | .iter _ _ _ _ => true
  | .loop _ => true
  | .dead => false
def Own (ρ : Ren) (h : AH) (k : Nat) : Prop := ∃ B e o, ρ B = some e ∧ h.get B = some o ∧ owned o = true ∧ e.blk = k
def FrR (ρ : Ren) (fr : Fr) (tmps : Array Value) : Prop := ∀ t, VR ρ (fr t) (tmps.getD t undef)
def jumpCode : AX → Option Code
  | .ret => some .ret
  | .exit id => some (.exit id)
  | _ => none
structure LoopR (okc : Nat → Code → XC → Prop) (ρ : Ren) (r : ALoop) (L : Loop) : Prop where
  st : L.state = r.st
  pend : L.pending = r.pend.bind jumpCode
  pok : ∀ e, r.pend = some e → (jumpCode e).isSome = true
  fr : FrR ρ r.fr L.tmps
  len : ∀ p ∈ r.ps, p < L.tmps.size
  ps : L.params.toList = r.ps
  assign : okc L.tmps.size L.assign r.assign
  body : okc L.tmps.size L.body r.body
/-- The objects of one entry. -/
def OR (okc : Nat → Code → XC → Prop) (ρ : Ren) (w : World) (e : Ent) : AObj → Prop
  | .row cs rw sz => e.rw = rw ∧ e.sz = sz ∧ ∃ arr t fz, w.heap[e.blk]? = some (.cells arr t fz) ∧ arr.size = e.tot ∧ (rw = true → fz = (0, 0)) ∧
      CL ρ cs ((arr.toList.drop e.off).take cs.length) ∧ e.off + cs.length ≤ arr.size
  | .map es bs clk => e.rw = true ∧ ∃ ces, w.heap[e.blk]? = some (.map ces clk) ∧ L2 (fun x (y : MapEntry) => VR ρ x.1 y.key ∧ VR ρ x.2 y.val) es ces.toList ∧
      ces.toList.map (·.born) = bs ∧ bs.Nodup ∧ ∀ b ∈ bs, b < clk
  | .iter m si se st => e.rw = true ∧ e.off = 0 ∧ ∃ m', w.heap[e.blk]? = some (.mapIter m' si se.toArray st) ∧
      (match m with | none => m' = none | some b => ∃ e', ρ b = some e' ∧ m' = some e'.blk)
  | .loop r => e.rw = true ∧ ∃ L, w.heap[e.blk]? = some (.loop L) ∧ LoopR okc ρ r L
  | .dead => True
structure HR (okc : Nat → Code → XC → Prop) (ρ : Ren) (h : AH) (w : World) : Prop where
  dom : ∀ B e, ρ B = some e → B < h.n
  lt : ∀ B e, ρ B = some e → e.blk < w.heap.size
  obj : ∀ B o e, h.get B = some o → ρ B = some e → o = .dead ∨ OR okc ρ w e o
  inj : ∀ B B' e e' o o', h.get B = some o → h.get B' = some o' → owned o = true → owned o' = true → ρ B = some e → ρ B' = some e' → e.blk = e'.blk → B = B'
  ro : ∀ B e cs sz, h.get B = some (.row cs false sz) → ρ B = some e → ¬ Own ρ h e.blk
  frz : ∀ B e arr, ρ B = some e → e.frz = some arr → (∃ t fz, w.heap[e.blk]? = some (.cells arr t fz)) ∧ ¬ Own ρ h e.blk
structure Ext (ρ : Ren) (h : AH) (w : World) (ρ' : Ren) (h' : AH) (w' : World) : Prop where
  sub : Sub ρ ρ'
  n : h.n ≤ h'.n
  old : ∀ B, B < h.n → ρ' B = ρ B
  size : w.heap.size ≤ w'.heap.size
  os : w'.os = w.os
  tape : w'.tape = w.tape
  output : w'.output = w.output
  keep : ∀ k, k < w.heap.size → ¬ Own ρ h k → w'.heap[k]? = w.heap[k]? ∧ ¬ Own ρ' h' k
theorem Ext.refl (ρ : Ren) (h : AH) (w : World) : Ext ρ h w ρ h w := ⟨.refl _, Nat.le_refl _, fun _ _ => rfl, Nat.le_refl _, rfl, rfl, rfl, fun _ _ hk => ⟨rfl, hk⟩⟩
theorem Ext.trans {ρ ρ' ρ'' : Ren} {h h' h'' : AH} {w w' w'' : World} (a : Ext ρ h w ρ' h' w') (b : Ext ρ' h' w' ρ'' h'' w'') : Ext ρ h w ρ'' h'' w'' :=
  ⟨a.sub.trans b.sub, Nat.le_trans a.n b.n, fun B hB => (b.old B (Nat.lt_of_lt_of_le hB a.n)).trans (a.old B hB), Nat.le_trans a.size b.size, b.os.trans a.os, b.tape.trans a.tape, b.output.trans a.output, fun k hk ho =>
    let ⟨x, y⟩ := a.keep k hk ho
    let ⟨x', y'⟩ := b.keep k (Nat.lt_of_lt_of_le hk a.size) y
    ⟨x'.trans x, y'⟩⟩
/-- What no one turns stays so. -/
theorem HR.frz_ext {okc : Nat → Code → XC → Prop} {ρ ρ' : Ren} {h h' : AH} {w w' : World} (H : HR okc ρ h w) (E : Ext ρ h w ρ' h' w') (hn : ∀ B e, ρ' B = some e → ρ B = some e ∨ e.frz = none) :
    ∀ B e arr, ρ' B = some e → e.frz = some arr → (∃ t fz, w'.heap[e.blk]? = some (.cells arr t fz)) ∧ ¬ Own ρ' h' e.blk := by
  intro B e arr he hf
  rcases hn B e he with x | x
  · obtain ⟨⟨t, fz, hh⟩, ho⟩ := H.frz B e arr x hf
    obtain ⟨k1, k2⟩ := E.keep e.blk (H.lt B e x) ho
    exact ⟨⟨t, fz, k1.trans hh⟩, k2⟩
  · rw [x] at hf; cases hf
theorem OR.mono {okc : Nat → Code → XC → Prop} {ρ ρ' : Ren} (hs : Sub ρ ρ') {w w' : World} {e : Ent} {o : AObj} (hw : w'.heap[e.blk]? = w.heap[e.blk]?) (h : OR okc ρ w e o) : OR okc ρ' w' e o := by
  cases o with
  | row cs rw sz =>
    obtain ⟨h1, h2, arr, t, fz, hh, ht, hf, hv, hl⟩ := h
    exact ⟨h1, h2, arr, t, fz, hw.trans hh, ht, hf, hv.mono fun _ _ x => x.mono hs, hl⟩
  | map es bs clk =>
    obtain ⟨h1, ces, hh, hv, hn⟩ := h
    exact ⟨h1, ces, hw.trans hh, hv.mono fun _ _ x => ⟨x.1.mono hs, x.2.mono hs⟩, hn⟩
  | iter m si se st =>
    obtain ⟨h1, h2, m', hh, hm⟩ := h
    refine ⟨h1, h2, m', hw.trans hh, ?_⟩
    cases m with
    | none => exact hm
    | some b => obtain ⟨e', a, c⟩ := hm; exact ⟨e', hs _ _ a, c⟩
  | loop r =>
    obtain ⟨h1, L, hh, hL⟩ := h
    exact ⟨h1, L, hw.trans hh, ⟨hL.st, hL.pend, hL.pok, fun t => (hL.fr t).mono hs, hL.len, hL.ps, hL.assign, hL.body⟩⟩
  | dead => trivial

/-- A new block, a new object. -/
def Ren.add (ρ : Ren) (B : Nat) (e : Ent) : Ren := fun C => if C = B then some e else ρ C
theorem Ren.add_new (ρ : Ren) (B : Nat) (e : Ent) : ρ.add B e B = some e := if_pos rfl
theorem HR.sub_add {okc : Nat → Code → XC → Prop} {ρ : Ren} {h : AH} {w : World} (H : HR okc ρ h w) (e : Ent) : Sub ρ (ρ.add h.n e) := fun B f hB => by
  have := H.dom B f hB
  unfold Ren.add; rw [if_neg (by omega)]; exact hB
theorem heap_alloc_lt (w : World) (o : Obj) {k : Nat} (h : k < w.heap.size) : (w.alloc o).heap[k]? = w.heap[k]? := Below.heap_alloc w o k h
theorem heap_alloc_at (w : World) (o : Obj) : (w.alloc o).heap[w.heap.size]? = some o := by
  show (w.heap.push o)[w.heap.size]? = _
  simp
theorem HR.push {okc : Nat → Code → XC → Prop} {ρ : Ren} {h : AH} {w : World} (H : HR okc ρ h w) (O : Obj) (o : AObj) (e : Ent) (he : e.blk = w.heap.size) (hfz : e.frz = none)
    (hO : OR okc (ρ.add h.n e) (w.alloc O) e o) : HR okc (ρ.add h.n e) (h.push o) (w.alloc O) ∧ Ext ρ h w (ρ.add h.n e) (h.push o) (w.alloc O) := by
  have hsub := H.sub_add e
  have hcase : ∀ B f, ρ.add h.n e B = some f → (B = h.n ∧ f = e) ∨ (B ≠ h.n ∧ ρ B = some f) := fun B f hB => by
    unfold Ren.add at hB
    by_cases x : B = h.n
    · rw [if_pos x] at hB; cases hB; exact .inl ⟨x, rfl⟩
    · rw [if_neg x] at hB; exact .inr ⟨x, hB⟩
  have hget : ∀ B p, (h.push o).get B = some p → (B = h.n ∧ p = o) ∨ (B ≠ h.n ∧ h.get B = some p) := fun B p hB => by
    rw [AH.get_push] at hB
    by_cases x : B = h.n
    · rw [if_pos x] at hB; cases hB; exact .inl ⟨x, rfl⟩
    · rw [if_neg x] at hB; exact .inr ⟨x, hB⟩
  have hown : ∀ k, k < w.heap.size → Own (ρ.add h.n e) (h.push o) k → Own ρ h k := by
    rintro k hk ⟨B, f, p, hB, hp, ho, hf⟩
    rcases hcase B f hB with ⟨_, rfl⟩ | ⟨hne, hB'⟩
    · omega
    · rcases hget B p hp with ⟨x, _⟩ | ⟨_, hp'⟩
      · exact absurd x hne
      · exact ⟨B, f, p, hB', hp', ho, hf⟩
  have E : Ext ρ h w (ρ.add h.n e) (h.push o) (w.alloc O) := ⟨hsub, by simp, fun B hB => by unfold Ren.add; rw [if_neg (by omega)], by simp, rfl, rfl, rfl, fun k hk ho => ⟨heap_alloc_lt w O hk, fun x => ho (hown k hk x)⟩⟩
  refine ⟨⟨?_, ?_, ?_, ?_, ?_, H.frz_ext E fun B f hB => (hcase B f hB).symm.imp (fun x => x.2) (fun x => by rw [x.2]; exact hfz)⟩, E⟩
  · intro B f hB
    rcases hcase B f hB with ⟨rfl, _⟩ | ⟨_, hB'⟩
    · simp
    · have := H.dom B f hB'; simp; omega
  · intro B f hB
    rcases hcase B f hB with ⟨_, rfl⟩ | ⟨_, hB'⟩
    · rw [he]; simp
    · have := H.lt B f hB'; simp; omega
  · intro B p f hp hf
    rcases hget B p hp with ⟨x, rfl⟩ | ⟨x, hp'⟩
    · rcases hcase B f hf with ⟨_, rfl⟩ | ⟨z, _⟩
      · exact .inr hO
      · exact absurd x z
    · rcases hcase B f hf with ⟨z, _⟩ | ⟨_, hf'⟩
      · exact absurd z x
      · exact (H.obj B p f hp' hf').imp id fun hor => hor.mono hsub (heap_alloc_lt w O (H.lt B f hf'))
  · intro B B' f f' p p' hp hp' ho ho' hf hf' hbb
    rcases hget B p hp with ⟨x, _⟩ | ⟨x, hp1⟩ <;> rcases hget B' p' hp' with ⟨y, _⟩ | ⟨y, hp2⟩
    · rw [x, y]
    · rcases hcase B f hf with ⟨_, rfl⟩ | ⟨z, _⟩
      · rcases hcase B' f' hf' with ⟨z, _⟩ | ⟨_, z⟩
        · exact absurd z y
        · have := H.lt B' f' z; omega
      · exact absurd x z
    · rcases hcase B' f' hf' with ⟨_, rfl⟩ | ⟨z, _⟩
      · rcases hcase B f hf with ⟨z, _⟩ | ⟨_, z⟩
        · exact absurd z x
        · have := H.lt B f z; omega
      · exact absurd y z
    · rcases hcase B f hf with ⟨z, _⟩ | ⟨_, z⟩
      · exact absurd z x
      · rcases hcase B' f' hf' with ⟨z', _⟩ | ⟨_, z'⟩
        · exact absurd z' y
        · exact H.inj B B' f f' p p' hp1 hp2 ho ho' z z' hbb
  · intro B f cs sz hp hf hown'
    rcases hget B _ hp with ⟨x, y⟩ | ⟨x, hp1⟩
    · rcases hcase B f hf with ⟨_, rfl⟩ | ⟨z, _⟩
      · obtain ⟨B', f', p', hB', hp', ho', hf'⟩ := hown'
        rcases hcase B' f' hB' with ⟨z, _⟩ | ⟨_, z⟩
        · rcases hget B' p' hp' with ⟨_, w1⟩ | ⟨w1, _⟩
          · rw [w1, ← y] at ho'; simp [owned] at ho'
          · exact w1 z
        · have := H.lt B' f' z; omega
      · exact z x
    · rcases hcase B f hf with ⟨z, _⟩ | ⟨_, z⟩
      · exact x z
      · exact H.ro B f cs sz hp1 z (hown f.blk (H.lt B f z) hown')

/-- One owned object turns; one block turns with it. -/
theorem HR.upd {okc : Nat → Code → XC → Prop} {ρ : Ren} {h : AH} {w w' : World} (H : HR okc ρ h w) {B : Nat} {e : Ent} {o o' : AObj} (hB : h.get B = some o) (ho : owned o = true) (he : ρ B = some e)
    (ho' : owned o' = true) (hsz : w'.heap.size = w.heap.size) (hos : w'.os = w.os) (htp : w'.tape = w.tape) (hout : w'.output = w.output)
    (hne : ∀ k, k ≠ e.blk → w'.heap[k]? = w.heap[k]?) (hO : OR okc ρ w' e o') : HR okc ρ (h.set B o') w' ∧ Ext ρ h w ρ (h.set B o') w' := by
  have hg := AH.get_set hB o'
  have hget : ∀ C p, (h.set B o').get C = some p → (C = B ∧ p = o') ∨ (C ≠ B ∧ h.get C = some p) := fun C p hC => by
    rw [hg] at hC
    by_cases x : C = B
    · rw [if_pos x] at hC; cases hC; exact .inl ⟨x, rfl⟩
    · rw [if_neg x] at hC; exact .inr ⟨x, hC⟩
  have hown : ∀ k, Own ρ (h.set B o') k → Own ρ h k := by
    rintro k ⟨C, f, p, hC, hp, hop, hf⟩
    rcases hget C p hp with ⟨rfl, _⟩ | ⟨_, hp'⟩
    · exact ⟨C, f, o, hC, hB, ho, hf⟩
    · exact ⟨C, f, p, hC, hp', hop, hf⟩
  have E : Ext ρ h w ρ (h.set B o') w' := ⟨.refl _, by simp, fun _ _ => rfl, by omega, hos, htp, hout, fun k _ hk => ⟨hne k (fun x => hk ⟨B, e, o, he, hB, ho, x.symm⟩), fun x => hk (hown k x)⟩⟩
  refine ⟨⟨fun C f hC => by rw [AH.n_set]; exact H.dom C f hC, fun C f hC => by rw [hsz]; exact H.lt C f hC, ?_, ?_, ?_, H.frz_ext E fun _ _ x => .inl x⟩, E⟩
  · intro C p f hp hf
    rcases hget C p hp with ⟨rfl, rfl⟩ | ⟨x, hp'⟩
    · rw [he] at hf; cases hf; exact .inr hO
    · rcases H.obj C p f hp' hf with y | hor
      · exact .inl y
      · by_cases hown1 : owned p = true
        · exact .inr (hor.mono (.refl _) (hne _ fun y => x (H.inj C B f e p o hp' hB hown1 ho hf he y)))
        · cases p with
          | row cs rw sz =>
            simp [owned] at hown1
            subst hown1
            exact .inr (hor.mono (.refl _) (hne _ fun y => H.ro C f cs sz hp' hf ⟨B, e, o, he, hB, ho, y.symm⟩))
          | map es bs clk => simp [owned] at hown1
          | iter m si se st => simp [owned] at hown1
          | loop r => simp [owned] at hown1
          | dead => exact .inl rfl
  · intro C C' f f' p p' hp hp' hop hop' hf hf' hbb
    rcases hget C p hp with ⟨x, _⟩ | ⟨x, hp1⟩ <;> rcases hget C' p' hp' with ⟨y, _⟩ | ⟨y, hp2⟩
    · rw [x, y]
    · exact H.inj C C' f f' o p' (by rw [x]; exact hB) hp2 ho hop' hf hf' hbb
    · exact H.inj C C' f f' p o hp1 (by rw [y]; exact hB) hop ho hf hf' hbb
    · exact H.inj C C' f f' p p' hp1 hp2 hop hop' hf hf' hbb
  · intro C f cs sz hp hf hown'
    rcases hget C _ hp with ⟨_, y⟩ | ⟨x, hp1⟩
    · rw [← y] at ho'; simp [owned] at ho'
    · exact H.ro C f cs sz hp1 hf (hown _ hown')

/-- An owned row is taken over by a new object in the same block. -/
theorem HR.take {okc : Nat → Code → XC → Prop} {ρ : Ren} {h : AH} {w w' : World} (H : HR okc ρ h w) {B : Nat} {e e' : Ent} {o o' : AObj} (hB : h.get B = some o) (ho : owned o = true) (he : ρ B = some e)
    (ho' : owned o' = true) (hbl : e'.blk = e.blk) (hfz : e'.frz = none) (hsz : w'.heap.size = w.heap.size) (hos : w'.os = w.os) (htp : w'.tape = w.tape) (hout : w'.output = w.output)
    (hne : ∀ k, k ≠ e.blk → w'.heap[k]? = w.heap[k]?) (hO : OR okc (ρ.add h.n e') w' e' o') :
    HR okc (ρ.add h.n e') ((h.set B .dead).push o') w' ∧ Ext ρ h w (ρ.add h.n e') ((h.set B .dead).push o') w' := by
  have hsub := H.sub_add e'
  have hg := AH.get_set hB .dead
  have hBn := H.dom B e he
  have hcase : ∀ C f, ρ.add h.n e' C = some f → (C = h.n ∧ f = e') ∨ (C ≠ h.n ∧ ρ C = some f) := fun C f hC => by
    unfold Ren.add at hC
    by_cases x : C = h.n
    · rw [if_pos x] at hC; cases hC; exact .inl ⟨x, rfl⟩
    · rw [if_neg x] at hC; exact .inr ⟨x, hC⟩
  have hget : ∀ C p, ((h.set B .dead).push o').get C = some p → (C = h.n ∧ p = o') ∨ (C = B ∧ p = .dead) ∨ (C ≠ h.n ∧ C ≠ B ∧ h.get C = some p) := fun C p hC => by
    rw [AH.get_push, AH.n_set, hg] at hC
    by_cases x : C = h.n
    · rw [if_pos x] at hC; cases hC; exact .inl ⟨x, rfl⟩
    · rw [if_neg x] at hC
      by_cases y : C = B
      · rw [if_pos y] at hC; cases hC; exact .inr (.inl ⟨y, rfl⟩)
      · rw [if_neg y] at hC; exact .inr (.inr ⟨x, y, hC⟩)
  have hown : ∀ k, Own (ρ.add h.n e') ((h.set B .dead).push o') k → Own ρ h k := by
    rintro k ⟨C, f, p, hC, hp, hop, hf⟩
    rcases hget C p hp with ⟨rfl, _⟩ | ⟨_, y⟩ | ⟨x, _, hp'⟩
    · rcases hcase _ f hC with ⟨_, rfl⟩ | ⟨z, _⟩
      · exact ⟨B, e, o, he, hB, ho, hbl.symm.trans hf⟩
      · exact absurd rfl z
    · rw [y] at hop; simp [owned] at hop
    · rcases hcase C f hC with ⟨z, _⟩ | ⟨_, z⟩
      · exact absurd z x
      · exact ⟨C, f, p, z, hp', hop, hf⟩
  have E : Ext ρ h w (ρ.add h.n e') ((h.set B .dead).push o') w' := ⟨hsub, by simp, fun C hC => by unfold Ren.add; rw [if_neg (by omega)], by omega, hos, htp, hout, fun k _ hk => ⟨hne k (fun x => hk ⟨B, e, o, he, hB, ho, x.symm⟩), fun x => hk (hown k x)⟩⟩
  refine ⟨⟨?_, ?_, ?_, ?_, ?_, H.frz_ext E fun C f hC => (hcase C f hC).symm.imp (fun x => x.2) (fun x => by rw [x.2]; exact hfz)⟩, E⟩
  · intro C f hC
    rcases hcase C f hC with ⟨rfl, _⟩ | ⟨_, z⟩
    · simp
    · have := H.dom C f z; simp; omega
  · intro C f hC
    rw [hsz]
    rcases hcase C f hC with ⟨_, rfl⟩ | ⟨_, z⟩
    · rw [hbl]; exact H.lt B e he
    · exact H.lt C f z
  · intro C p f hp hf
    rcases hget C p hp with ⟨x, rfl⟩ | ⟨_, y⟩ | ⟨x, y, hp'⟩
    · rcases hcase C f hf with ⟨_, rfl⟩ | ⟨z, _⟩
      · exact .inr hO
      · exact absurd x z
    · exact .inl y
    · rcases hcase C f hf with ⟨z, _⟩ | ⟨_, hf'⟩
      · exact absurd z x
      rcases H.obj C p f hp' hf' with z | hor
      · exact .inl z
      · by_cases hown1 : owned p = true
        · exact .inr (hor.mono hsub (hne _ fun z => y (H.inj C B f e p o hp' hB hown1 ho hf' he z)))
        · cases p with
          | row cs rw sz =>
            simp [owned] at hown1
            subst hown1
            exact .inr (hor.mono hsub (hne _ fun z => H.ro C f cs sz hp' hf' ⟨B, e, o, he, hB, ho, z.symm⟩))
          | map es bs clk => simp [owned] at hown1
          | iter m si se st => simp [owned] at hown1
          | loop r => simp [owned] at hown1
          | dead => exact .inl rfl
  · intro C C' f f' p p' hp hp' hop hop' hf hf' hbb
    have key : ∀ C f p, ((h.set B .dead).push o').get C = some p → owned p = true → ρ.add h.n e' C = some f → (C = h.n ∧ f = e') ∨ (C ≠ B ∧ C ≠ h.n ∧ h.get C = some p ∧ ρ C = some f) := by
      intro C f p hp hop hf
      rcases hget C p hp with ⟨x, _⟩ | ⟨_, y⟩ | ⟨x, y, hp1⟩
      · rcases hcase C f hf with z | ⟨z, _⟩
        · exact .inl z
        · exact absurd x z
      · rw [y] at hop; simp [owned] at hop
      · rcases hcase C f hf with ⟨z, _⟩ | ⟨_, z⟩
        · exact absurd z x
        · exact .inr ⟨y, x, hp1, z⟩
    rcases key C f p hp hop hf with ⟨x, rfl⟩ | ⟨x, _, hp1, hf1⟩ <;> rcases key C' f' p' hp' hop' hf' with ⟨y, rfl⟩ | ⟨y, _, hp2, hf2⟩
    · rw [x, y]
    · exact absurd (H.inj C' B f' e p' o hp2 hB hop' ho hf2 he (hbb.symm.trans hbl)) y
    · exact absurd (H.inj C B f e p o hp1 hB hop ho hf1 he (hbb.trans hbl)) x
    · exact H.inj C C' f f' p p' hp1 hp2 hop hop' hf1 hf2 hbb
  · intro C f cs sz hp hf hown'
    rcases hget C _ hp with ⟨_, y⟩ | ⟨_, y⟩ | ⟨x, y, hp1⟩
    · rw [← y] at ho'; simp [owned] at ho'
    · cases y
    · rcases hcase C f hf with ⟨z, _⟩ | ⟨_, z⟩
      · exact absurd z x
      · exact H.ro C f cs sz hp1 z (hown _ hown')
end Go.AI
