/-
  THE QUEUE'S LAWS: what a law is asked, and what the interpreter shows. (Own work.)
-/
import Derived.Test.YtkabedbkkbijhaaB26
import Derived.Test.YtkabedbkkbijhaaA20
import Derived.KernelRfl
namespace Go.AI.Q
open Go Go.AI Go.Proofs
set_option maxRecDepth 100000
theorem c3 : Try.prog.cellsOf 3 = 1 := by kernel_rfl
theorem c43 : Try.prog.cellsOf 43 = 1 := by kernel_rfl
theorem c45 : Try.prog.cellsOf 45 = 6 := by kernel_rfl
theorem c22 : Try.prog.cellsOf 22 = 2 := by kernel_rfl
theorem reads3 (w : World) : Reads Try.prog w 3 1 intV := reads_int Try.underlying3
theorem reads43 (w : World) : Reads Try.prog w 43 1 intsV := reads_slice Try.underlying43 c3 (by decide) (reads3 w)
theorem cl_one {ρ : Ren} {v c : Value} (h : CL ρ v.cells.toList [c]) (hv : v.cells = #[v]) : VC ρ v c := by
  rw [hv] at h
  exact h.2 0 v c rfl rfl
theorem reads45 (w : World) : Reads Try.prog w 45 6 actV := by
  refine ⟨fun a => ⟨rfl, rfl⟩, fun H enc n cs x h hl => ?_⟩
  obtain ⟨m, hm⟩ := trod_struct Try.underlying45 h
  match cs, hl with
  | [c0, c1, c2, c3', c4, c5], _ =>
    obtain ⟨y0, h0⟩ := hm _ (List.mem_of_getElem? (i := 0) rfl)
    obtain ⟨y1, h1⟩ := hm _ (List.mem_of_getElem? (i := 1) rfl)
    obtain ⟨y2, h2⟩ := hm _ (List.mem_of_getElem? (i := 2) rfl)
    obtain ⟨y3, h3⟩ := hm _ (List.mem_of_getElem? (i := 3) rfl)
    obtain ⟨y4, h4⟩ := hm _ (List.mem_of_getElem? (i := 4) rfl)
    obtain ⟨y5, h5⟩ := hm _ (List.mem_of_getElem? (i := 5) rfl)
    simp only [c3, c43, List.drop_zero, List.drop_succ_cons, List.take_succ_cons, List.take_zero] at h0 h1 h2 h3 h4 h5
    obtain ⟨a0, r0⟩ := (reads3 w).2 H enc m _ _ h0 rfl
    obtain ⟨a1, r1⟩ := (reads3 w).2 H enc m _ _ h1 rfl
    obtain ⟨a2, r2⟩ := (reads3 w).2 H enc m _ _ h2 rfl
    obtain ⟨a3, r3⟩ := (reads43 w).2 H enc m _ _ h3 rfl
    obtain ⟨a4, r4⟩ := (reads43 w).2 H enc m _ _ h4 rfl
    obtain ⟨a5, r5⟩ := (reads3 w).2 H enc m _ _ h5 rfl
    exact ⟨⟨a0, a1, a2, a3, a4, a5⟩, .cons (cl_one r0 rfl) (.cons (cl_one r1 rfl) (.cons (cl_one r2 rfl) (.cons (cl_one r3 rfl) (.cons (cl_one r4 rfl) (.cons (cl_one r5 rfl) .nil)))))⟩
theorem reads23 (w : World) : Reads Try.prog w 23 1 actsV := reads_slice Try.underlying23 c45 (by decide) (reads45 w)
theorem reads22 (w : World) : Reads Try.prog w 22 2 fun p : Int × Int => .agg #[.int .i64 p.1, .int .i64 p.2] := by
  refine ⟨fun a => ⟨rfl, rfl⟩, fun H enc n cs x h hl => ?_⟩
  obtain ⟨m, hm⟩ := trod_array Try.underlying22 h
  match cs, hl with
  | [c0, c1], _ =>
    obtain ⟨y0, h0⟩ := hm 0 (by decide)
    obtain ⟨y1, h1⟩ := hm 1 (by decide)
    simp only [c3, Nat.zero_mul, Nat.one_mul, List.drop_zero, List.drop_succ_cons, List.take_succ_cons, List.take_zero] at h0 h1
    obtain ⟨a0, r0⟩ := (reads3 w).2 H enc m _ _ h0 rfl
    obtain ⟨a1, r1⟩ := (reads3 w).2 H enc m _ _ h1 rfl
    exact ⟨(a0, a1), .cons (cl_one r0 rfl) (.cons (cl_one r1 rfl) .nil)⟩
/-- What the interpreter shows of a law is what the law is asked. -/
theorem law_calls {f : FuncId} (hf : ∀ (a b : Int) (script : List ActM), Pure f [.agg #[.int .i64 a, .int .i64 b], actsV script] (.bool true)) {W : World} {v0 v1 : Value} {H : Type} {enc : TypeId × Value → H} {d0 d1 : DataW H} {p0 p1 : List MemPlace} {r : Reach} {b0 : Nat}
    (h0 : DataW.Trod enc Try.prog W 0 (fun _ => true) true 22 v0 d0 p0) (h1 : DataW.Trod enc Try.prog W 0 (fun _ => true) true 23 v1 d1 p1) (k0 : Value.okWide Try.prog W r b0 22 v0) (k1 : Value.okWide Try.prog W r b0 23 v1) :
    Calls Try.prog f #[v0, v1] W fun e W' => e = .returned (.bool true) ∧ Go.RowKit.Below W.heap.size W W' := by
  obtain ⟨n0, t0⟩ := h0
  obtain ⟨n1, t1⟩ := h1
  have a0 : ∃ cs, v0 = .agg cs ∧ cs.size = 2 := by
    unfold Value.okWide at k0
    rw [Try.underlying22] at k0
    obtain ⟨cs, e, hs, _⟩ := k0
    exact ⟨cs, e, hs.trans c22⟩
  obtain ⟨cs, rfl, hcs⟩ := a0
  obtain ⟨s, len, cap, rfl⟩ := Go.WideShapes.okWide_slice Try.underlying23 k1
  obtain ⟨⟨a, b⟩, r0⟩ := (reads22 W).2 H enc n0 _ _ t0 (by rw [Array.length_toList]; exact hcs)
  obtain ⟨script, r1⟩ := (reads23 W).2 H enc n1 _ _ t1 rfl
  refine calls0 (okc := okcOf 0) (args := [.agg #[.int .i64 a, .int .i64 b], actsV script]) (hf a b script (world0 W) _ fun h' _ => rfl) ?_
  exact .cons (VR.agg_iff.2 r0) (.cons (cl_one r1 rfl).1 .nil)
end Go.AI.Q
