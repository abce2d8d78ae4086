/-
  EACH FUNCTION OF THE SEAT, RUN BY THE INTERPRETER. (Printed by wip/gen/b2.py.)
-/
import Derived.Test.YtkabedbkkbijhaaB1
namespace Go.AI.Q
open Go Go.AI Go.Proofs
set_option maxRecDepth 100000
theorem hM : Try.prog.follows .mixedOrders = true := by kernel_rfl
abbrev C : CT := AC (okcOf 0) 0 Try.prog
abbrev Y : YT := AY (okcOf 0) 0 Try.prog
theorem run_3 {args : List Value} {h : AH} {Q : AO → AH → Prop} (hl : decide (args.length ≤ Try.f3.ntmps) = true) (hw : xw tab C Y x3 (frOf args) h (retQ tab [ResultVar.tmp 4] Q)) : C 3 args h Q :=
  fn_ok hT hM (fn := Try.f3) (by kernel_rfl) xeq_3 (by kernel_rfl) (by kernel_rfl) (by kernel_rfl) hl hw
theorem run_4 {args : List Value} {h : AH} {Q : AO → AH → Prop} (hl : decide (args.length ≤ Try.f4.ntmps) = true) (hw : xw tab C Y x4 (frOf args) h (retQ tab [ResultVar.tmp 4] Q)) : C 4 args h Q :=
  fn_ok hT hM (fn := Try.f4) (by kernel_rfl) xeq_4 (by kernel_rfl) (by kernel_rfl) (by kernel_rfl) hl hw
theorem run_5 {args : List Value} {h : AH} {Q : AO → AH → Prop} (hl : decide (args.length ≤ Try.f5.ntmps) = true) (hw : xw tab C Y x5 (frOf args) h (retQ tab [ResultVar.tmp 4] Q)) : C 5 args h Q :=
  fn_ok hT hM (fn := Try.f5) (by kernel_rfl) xeq_5 (by kernel_rfl) (by kernel_rfl) (by kernel_rfl) hl hw
theorem run_6 {args : List Value} {h : AH} {Q : AO → AH → Prop} (hl : decide (args.length ≤ Try.f6.ntmps) = true) (hw : xw tab C Y x6 (frOf args) h (retQ tab [ResultVar.tmp 4] Q)) : C 6 args h Q :=
  fn_ok hT hM (fn := Try.f6) (by kernel_rfl) xeq_6 (by kernel_rfl) (by kernel_rfl) (by kernel_rfl) hl hw
theorem run_7 {args : List Value} {h : AH} {Q : AO → AH → Prop} (hl : decide (args.length ≤ Try.f7.ntmps) = true) (hw : xw tab C Y x7 (frOf args) h (retQ tab [ResultVar.tmp 0] Q)) : C 7 args h Q :=
  fn_ok hT hM (fn := Try.f7) (by kernel_rfl) xeq_7 (by kernel_rfl) (by kernel_rfl) (by kernel_rfl) hl hw
theorem run_8 {args : List Value} {h : AH} {Q : AO → AH → Prop} (hl : decide (args.length ≤ Try.f8.ntmps) = true) (hw : xw tab C Y x8 (frOf args) h (retQ tab [ResultVar.tmp 2] Q)) : C 8 args h Q :=
  fn_ok hT hM (fn := Try.f8) (by kernel_rfl) xeq_8 (by kernel_rfl) (by kernel_rfl) (by kernel_rfl) hl hw
theorem run_9 {args : List Value} {h : AH} {Q : AO → AH → Prop} (hl : decide (args.length ≤ Try.f9.ntmps) = true) (hw : xw tab C Y x9 (frOf args) h (retQ tab [ResultVar.cell 2 28] Q)) : C 9 args h Q :=
  fn_ok hT hM (fn := Try.f9) (by kernel_rfl) xeq_9 (by kernel_rfl) (by kernel_rfl) (by kernel_rfl) hl hw
theorem run_10 {args : List Value} {h : AH} {Q : AO → AH → Prop} (hl : decide (args.length ≤ Try.f10.ntmps) = true) (hw : xw tab C Y x10 (frOf args) h (retQ tab [ResultVar.cell 4 40, ResultVar.tmp 5] Q)) : C 10 args h Q :=
  fn_ok hT hM (fn := Try.f10) (by kernel_rfl) xeq_10 (by kernel_rfl) (by kernel_rfl) (by kernel_rfl) hl hw
theorem run_11 {args : List Value} {h : AH} {Q : AO → AH → Prop} (hl : decide (args.length ≤ Try.f11.ntmps) = true) (hw : xw tab C Y x11 (frOf args) h (retQ tab [ResultVar.cell 8 50, ResultVar.tmp 9] Q)) : C 11 args h Q :=
  fn_ok hT hM (fn := Try.f11) (by kernel_rfl) xeq_11 (by kernel_rfl) (by kernel_rfl) (by kernel_rfl) hl hw
theorem run_12 {args : List Value} {h : AH} {Q : AO → AH → Prop} (hl : decide (args.length ≤ Try.f12.ntmps) = true) (hw : xw tab C Y x12 (frOf args) h (retQ tab [ResultVar.tmp 2] Q)) : C 12 args h Q :=
  fn_ok hT hM (fn := Try.f12) (by kernel_rfl) xeq_12 (by kernel_rfl) (by kernel_rfl) (by kernel_rfl) hl hw
theorem run_13 {args : List Value} {h : AH} {Q : AO → AH → Prop} (hl : decide (args.length ≤ Try.f13.ntmps) = true) (hw : xw tab C Y x13 (frOf args) h (retQ tab [ResultVar.tmp 4] Q)) : C 13 args h Q :=
  fn_ok hT hM (fn := Try.f13) (by kernel_rfl) xeq_13 (by kernel_rfl) (by kernel_rfl) (by kernel_rfl) hl hw
theorem run_14 {args : List Value} {h : AH} {Q : AO → AH → Prop} (hl : decide (args.length ≤ Try.f14.ntmps) = true) (hw : xw tab C Y x14 (frOf args) h (retQ tab [ResultVar.tmp 2] Q)) : C 14 args h Q :=
  fn_ok hT hM (fn := Try.f14) (by kernel_rfl) xeq_14 (by kernel_rfl) (by kernel_rfl) (by kernel_rfl) hl hw
theorem run_15 {args : List Value} {h : AH} {Q : AO → AH → Prop} (hl : decide (args.length ≤ Try.f15.ntmps) = true) (hw : xw tab C Y x15 (frOf args) h (retQ tab [ResultVar.tmp 4] Q)) : C 15 args h Q :=
  fn_ok hT hM (fn := Try.f15) (by kernel_rfl) xeq_15 (by kernel_rfl) (by kernel_rfl) (by kernel_rfl) hl hw
theorem run_16 {args : List Value} {h : AH} {Q : AO → AH → Prop} (hl : decide (args.length ≤ Try.f16.ntmps) = true) (hw : xw tab C Y x16 (frOf args) h (retQ tab [ResultVar.tmp 4] Q)) : C 16 args h Q :=
  fn_ok hT hM (fn := Try.f16) (by kernel_rfl) xeq_16 (by kernel_rfl) (by kernel_rfl) (by kernel_rfl) hl hw
theorem run_17 {args : List Value} {h : AH} {Q : AO → AH → Prop} (hl : decide (args.length ≤ Try.f17.ntmps) = true) (hw : xw tab C Y x17 (frOf args) h (retQ tab [ResultVar.tmp 4] Q)) : C 17 args h Q :=
  fn_ok hT hM (fn := Try.f17) (by kernel_rfl) xeq_17 (by kernel_rfl) (by kernel_rfl) (by kernel_rfl) hl hw
theorem run_18 {args : List Value} {h : AH} {Q : AO → AH → Prop} (hl : decide (args.length ≤ Try.f18.ntmps) = true) (hw : xw tab C Y x18 (frOf args) h (retQ tab [ResultVar.cell 8 73] Q)) : C 18 args h Q :=
  fn_ok hT hM (fn := Try.f18) (by kernel_rfl) xeq_18 (by kernel_rfl) (by kernel_rfl) (by kernel_rfl) hl hw
theorem run_19 {args : List Value} {h : AH} {Q : AO → AH → Prop} (hl : decide (args.length ≤ Try.f19.ntmps) = true) (hw : xw tab C Y x19 (frOf args) h (retQ tab [ResultVar.tmp 4] Q)) : C 19 args h Q :=
  fn_ok hT hM (fn := Try.f19) (by kernel_rfl) xeq_19 (by kernel_rfl) (by kernel_rfl) (by kernel_rfl) hl hw
theorem run_20 {args : List Value} {h : AH} {Q : AO → AH → Prop} (hl : decide (args.length ≤ Try.f20.ntmps) = true) (hw : xw tab C Y x20 (frOf args) h (retQ tab [ResultVar.tmp 2] Q)) : C 20 args h Q :=
  fn_ok hT hM (fn := Try.f20) (by kernel_rfl) xeq_20 (by kernel_rfl) (by kernel_rfl) (by kernel_rfl) hl hw
theorem run_21 {args : List Value} {h : AH} {Q : AO → AH → Prop} (hl : decide (args.length ≤ Try.f21.ntmps) = true) (hw : xw tab C Y x21 (frOf args) h (retQ tab [ResultVar.tmp 4] Q)) : C 21 args h Q :=
  fn_ok hT hM (fn := Try.f21) (by kernel_rfl) xeq_21 (by kernel_rfl) (by kernel_rfl) (by kernel_rfl) hl hw
theorem run_22 {args : List Value} {h : AH} {Q : AO → AH → Prop} (hl : decide (args.length ≤ Try.f22.ntmps) = true) (hw : xw tab C Y x22 (frOf args) h (retQ tab [ResultVar.tmp 4] Q)) : C 22 args h Q :=
  fn_ok hT hM (fn := Try.f22) (by kernel_rfl) xeq_22 (by kernel_rfl) (by kernel_rfl) (by kernel_rfl) hl hw
theorem run_23 {args : List Value} {h : AH} {Q : AO → AH → Prop} (hl : decide (args.length ≤ Try.f23.ntmps) = true) (hw : xw tab C Y x23 (frOf args) h (retQ tab [ResultVar.cell 4 60] Q)) : C 23 args h Q :=
  fn_ok hT hM (fn := Try.f23) (by kernel_rfl) xeq_23 (by kernel_rfl) (by kernel_rfl) (by kernel_rfl) hl hw
theorem run_24 {args : List Value} {h : AH} {Q : AO → AH → Prop} (hl : decide (args.length ≤ Try.f24.ntmps) = true) (hw : xw tab C Y x24 (frOf args) h (retQ tab [ResultVar.tmp 4] Q)) : C 24 args h Q :=
  fn_ok hT hM (fn := Try.f24) (by kernel_rfl) xeq_24 (by kernel_rfl) (by kernel_rfl) (by kernel_rfl) hl hw
theorem run_25 {args : List Value} {h : AH} {Q : AO → AH → Prop} (hl : decide (args.length ≤ Try.f25.ntmps) = true) (hw : xw tab C Y x25 (frOf args) h (retQ tab [ResultVar.tmp 4] Q)) : C 25 args h Q :=
  fn_ok hT hM (fn := Try.f25) (by kernel_rfl) xeq_25 (by kernel_rfl) (by kernel_rfl) (by kernel_rfl) hl hw
theorem run_26 {args : List Value} {h : AH} {Q : AO → AH → Prop} (hl : decide (args.length ≤ Try.f26.ntmps) = true) (hw : xw tab C Y x26 (frOf args) h (retQ tab [ResultVar.tmp 6] Q)) : C 26 args h Q :=
  fn_ok hT hM (fn := Try.f26) (by kernel_rfl) xeq_26 (by kernel_rfl) (by kernel_rfl) (by kernel_rfl) hl hw
theorem run_27 {args : List Value} {h : AH} {Q : AO → AH → Prop} (hl : decide (args.length ≤ Try.f27.ntmps) = true) (hw : xw tab C Y x27 (frOf args) h (retQ tab [ResultVar.cell 4 50, ResultVar.tmp 5] Q)) : C 27 args h Q :=
  fn_ok hT hM (fn := Try.f27) (by kernel_rfl) xeq_27 (by kernel_rfl) (by kernel_rfl) (by kernel_rfl) hl hw
theorem run_28 {args : List Value} {h : AH} {Q : AO → AH → Prop} (hl : decide (args.length ≤ Try.f28.ntmps) = true) (hw : xw tab C Y x28 (frOf args) h (retQ tab [ResultVar.tmp 4] Q)) : C 28 args h Q :=
  fn_ok hT hM (fn := Try.f28) (by kernel_rfl) xeq_28 (by kernel_rfl) (by kernel_rfl) (by kernel_rfl) hl hw
theorem run_29 {args : List Value} {h : AH} {Q : AO → AH → Prop} (hl : decide (args.length ≤ Try.f29.ntmps) = true) (hw : xw tab C Y x29 (frOf args) h (retQ tab [ResultVar.cell 8 73] Q)) : C 29 args h Q :=
  fn_ok hT hM (fn := Try.f29) (by kernel_rfl) xeq_29 (by kernel_rfl) (by kernel_rfl) (by kernel_rfl) hl hw
theorem run_30 {args : List Value} {h : AH} {Q : AO → AH → Prop} (hl : decide (args.length ≤ Try.f30.ntmps) = true) (hw : xw tab C Y x30 (frOf args) h (retQ tab [ResultVar.cell 4 73] Q)) : C 30 args h Q :=
  fn_ok hT hM (fn := Try.f30) (by kernel_rfl) xeq_30 (by kernel_rfl) (by kernel_rfl) (by kernel_rfl) hl hw
theorem run_31 {args : List Value} {h : AH} {Q : AO → AH → Prop} (hl : decide (args.length ≤ Try.f31.ntmps) = true) (hw : xw tab C Y x31 (frOf args) h (retQ tab [ResultVar.tmp 4] Q)) : C 31 args h Q :=
  fn_ok hT hM (fn := Try.f31) (by kernel_rfl) xeq_31 (by kernel_rfl) (by kernel_rfl) (by kernel_rfl) hl hw
theorem run_32 {args : List Value} {h : AH} {Q : AO → AH → Prop} (hl : decide (args.length ≤ Try.f32.ntmps) = true) (hw : xw tab C Y x32 (frOf args) h (retQ tab [] Q)) : C 32 args h Q :=
  fn_ok hT hM (fn := Try.f32) (by kernel_rfl) xeq_32 (by kernel_rfl) (by kernel_rfl) (by kernel_rfl) hl hw
theorem run_33 {args : List Value} {h : AH} {Q : AO → AH → Prop} (hl : decide (args.length ≤ Try.f33.ntmps) = true) (hw : xw tab C Y x33 (frOf args) h (retQ tab [ResultVar.tmp 4] Q)) : C 33 args h Q :=
  fn_ok hT hM (fn := Try.f33) (by kernel_rfl) xeq_33 (by kernel_rfl) (by kernel_rfl) (by kernel_rfl) hl hw
theorem run_34 {args : List Value} {h : AH} {Q : AO → AH → Prop} (hl : decide (args.length ≤ Try.f34.ntmps) = true) (hw : xw tab C Y x34 (frOf args) h (retQ tab [ResultVar.tmp 4] Q)) : C 34 args h Q :=
  fn_ok hT hM (fn := Try.f34) (by kernel_rfl) xeq_34 (by kernel_rfl) (by kernel_rfl) (by kernel_rfl) hl hw
theorem run_35 {args : List Value} {h : AH} {Q : AO → AH → Prop} (hl : decide (args.length ≤ Try.f35.ntmps) = true) (hw : xw tab C Y x35 (frOf args) h (retQ tab [ResultVar.tmp 2] Q)) : C 35 args h Q :=
  fn_ok hT hM (fn := Try.f35) (by kernel_rfl) xeq_35 (by kernel_rfl) (by kernel_rfl) (by kernel_rfl) hl hw
theorem run_36 {args : List Value} {h : AH} {Q : AO → AH → Prop} (hl : decide (args.length ≤ Try.f36.ntmps) = true) (hw : xw tab C Y x36 (frOf args) h (retQ tab [ResultVar.tmp 4] Q)) : C 36 args h Q :=
  fn_ok hT hM (fn := Try.f36) (by kernel_rfl) xeq_36 (by kernel_rfl) (by kernel_rfl) (by kernel_rfl) hl hw
theorem run_37 {args : List Value} {h : AH} {Q : AO → AH → Prop} (hl : decide (args.length ≤ Try.f37.ntmps) = true) (hw : xw tab C Y x37 (frOf args) h (retQ tab [] Q)) : C 37 args h Q :=
  fn_ok hT hM (fn := Try.f37) (by kernel_rfl) xeq_37 (by kernel_rfl) (by kernel_rfl) (by kernel_rfl) hl hw
theorem run_38 {args : List Value} {h : AH} {Q : AO → AH → Prop} (hl : decide (args.length ≤ Try.f38.ntmps) = true) (hw : xw tab C Y x38 (frOf args) h (retQ tab [ResultVar.tmp 2] Q)) : C 38 args h Q :=
  fn_ok hT hM (fn := Try.f38) (by kernel_rfl) xeq_38 (by kernel_rfl) (by kernel_rfl) (by kernel_rfl) hl hw
theorem run_39 {args : List Value} {h : AH} {Q : AO → AH → Prop} (hl : decide (args.length ≤ Try.f39.ntmps) = true) (hw : xw tab C Y x39 (frOf args) h (retQ tab [ResultVar.tmp 2] Q)) : C 39 args h Q :=
  fn_ok hT hM (fn := Try.f39) (by kernel_rfl) xeq_39 (by kernel_rfl) (by kernel_rfl) (by kernel_rfl) hl hw
end Go.AI.Q
