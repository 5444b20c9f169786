import Derived.Test.YtgihcmeifafnjaaProg
import Derived.Test.YtgihcmeifafnjaaCAbsV
set_option linter.unusedVariables false
namespace Go.Proofs.R1
open Go Go.Abs
@[go_sem] theorem szT_3 : szT Try.prog 3 = some 1 := by kernel_rfl
@[go_sem] theorem byT_3 : byT Try.prog 3 = some 8 := by kernel_rfl
@[go_sem] theorem agT_3 : agT Try.prog 3 = some false := by kernel_rfl
@[go_sem] theorem zc_3 : zc Try.prog 3 = some [D.v (Value.int IntKind.i64 (0))] := by kernel_rfl
@[go_sem] theorem zD_3 : zD Try.prog 3 = some (D.v (Value.int IntKind.i64 (0))) := by kernel_rfl
@[go_sem] theorem inT_3 : inT Try.prog 3 = some IntKind.i64 := by kernel_rfl
@[go_sem] theorem bkT_3 : bkT Try.prog 3 = some 0 := by kernel_rfl
@[go_sem] theorem szT_4 : szT Try.prog 4 = some 1 := by kernel_rfl
@[go_sem] theorem byT_4 : byT Try.prog 4 = some 1 := by kernel_rfl
@[go_sem] theorem agT_4 : agT Try.prog 4 = some false := by kernel_rfl
@[go_sem] theorem zc_4 : zc Try.prog 4 = some [D.v (Value.bool false)] := by kernel_rfl
@[go_sem] theorem zD_4 : zD Try.prog 4 = some (D.v (Value.bool false)) := by kernel_rfl
@[go_sem] theorem isBoolT_4 : isBoolT Try.prog 4 = true := by kernel_rfl
@[go_sem] theorem bkT_4 : bkT Try.prog 4 = some 1 := by kernel_rfl
@[go_sem] theorem szT_5 : szT Try.prog 5 = some 1 := by kernel_rfl
@[go_sem] theorem byT_5 : byT Try.prog 5 = some 1 := by kernel_rfl
@[go_sem] theorem agT_5 : agT Try.prog 5 = some false := by kernel_rfl
@[go_sem] theorem zc_5 : zc Try.prog 5 = some [D.v (Value.int IntKind.u8 (0))] := by kernel_rfl
@[go_sem] theorem zD_5 : zD Try.prog 5 = some (D.v (Value.int IntKind.u8 (0))) := by kernel_rfl
@[go_sem] theorem inT_5 : inT Try.prog 5 = some IntKind.u8 := by kernel_rfl
@[go_sem] theorem bkT_5 : bkT Try.prog 5 = some 0 := by kernel_rfl
@[go_sem] theorem szT_9 : szT Try.prog 9 = some 1 := by kernel_rfl
@[go_sem] theorem byT_9 : byT Try.prog 9 = some 16 := by kernel_rfl
@[go_sem] theorem agT_9 : agT Try.prog 9 = some false := by kernel_rfl
@[go_sem] theorem zc_9 : zc Try.prog 9 = some [D.v (Value.string { data := { toList := [] } })] := by kernel_rfl
@[go_sem] theorem zD_9 : zD Try.prog 9 = some (D.v (Value.string { data := { toList := [] } })) := by kernel_rfl
@[go_sem] theorem bkT_9 : bkT Try.prog 9 = some 2 := by kernel_rfl
@[go_sem] theorem szT_23 : szT Try.prog 23 = some 3 := by kernel_rfl
@[go_sem] theorem byT_23 : byT Try.prog 23 = some 24 := by kernel_rfl
@[go_sem] theorem agT_23 : agT Try.prog 23 = some true := by kernel_rfl
@[go_sem] theorem zc_23 : zc Try.prog 23 = some [D.v (Value.int IntKind.i64 (0)), D.v (Value.int IntKind.i64 (0)), D.v (Value.int IntKind.i64 (0))] := by kernel_rfl
@[go_sem] theorem zD_23 : zD Try.prog 23 = some (D.agg [D.v (Value.int IntKind.i64 (0)), D.v (Value.int IntKind.i64 (0)), D.v (Value.int IntKind.i64 (0))]) := by kernel_rfl
@[go_sem] theorem ckT_23 : ckT Try.prog 23 = some [0, 0, 0] := by kernel_rfl
@[go_sem] theorem plT_23 : plT Try.prog 23 = some [(0, 1), (1, 1), (2, 1)] := by kernel_rfl
@[go_sem] theorem foT_23_0 : foT Try.prog 23 0 = some (0, 3) := by kernel_rfl
@[go_sem] theorem foT_23_1 : foT Try.prog 23 1 = some (1, 3) := by kernel_rfl
@[go_sem] theorem foT_23_2 : foT Try.prog 23 2 = some (2, 3) := by kernel_rfl
@[go_sem] theorem szT_28 : szT Try.prog 28 = some 1 := by kernel_rfl
@[go_sem] theorem byT_28 : byT Try.prog 28 = some 24 := by kernel_rfl
@[go_sem] theorem agT_28 : agT Try.prog 28 = some false := by kernel_rfl
@[go_sem] theorem zc_28 : zc Try.prog 28 = some [D.nils] := by kernel_rfl
@[go_sem] theorem zD_28 : zD Try.prog 28 = some D.nils := by kernel_rfl
@[go_sem] theorem elT_28 : elT Try.prog 28 = some 3 := by kernel_rfl
@[go_sem] theorem szT_29 : szT Try.prog 29 = some 1 := by kernel_rfl
@[go_sem] theorem byT_29 : byT Try.prog 29 = some 8 := by kernel_rfl
@[go_sem] theorem agT_29 : agT Try.prog 29 = some false := by kernel_rfl
@[go_sem] theorem zc_29 : zc Try.prog 29 = some [D.v (Value.pointer none)] := by kernel_rfl
@[go_sem] theorem zD_29 : zD Try.prog 29 = some (D.v (Value.pointer none)) := by kernel_rfl
@[go_sem] theorem szT_31 : szT Try.prog 31 = some 1 := by kernel_rfl
@[go_sem] theorem byT_31 : byT Try.prog 31 = some 24 := by kernel_rfl
@[go_sem] theorem agT_31 : agT Try.prog 31 = some false := by kernel_rfl
@[go_sem] theorem zc_31 : zc Try.prog 31 = some [D.nils] := by kernel_rfl
@[go_sem] theorem zD_31 : zD Try.prog 31 = some D.nils := by kernel_rfl
@[go_sem] theorem elT_31 : elT Try.prog 31 = some 23 := by kernel_rfl
@[go_sem] theorem szT_35 : szT Try.prog 35 = some 1 := by kernel_rfl
@[go_sem] theorem byT_35 : byT Try.prog 35 = some 8 := by kernel_rfl
@[go_sem] theorem agT_35 : agT Try.prog 35 = some false := by kernel_rfl
@[go_sem] theorem zc_35 : zc Try.prog 35 = some [D.v (Value.int IntKind.i64 (0))] := by kernel_rfl
@[go_sem] theorem zD_35 : zD Try.prog 35 = some (D.v (Value.int IntKind.i64 (0))) := by kernel_rfl
@[go_sem] theorem inT_35 : inT Try.prog 35 = some IntKind.i64 := by kernel_rfl
@[go_sem] theorem bkT_35 : bkT Try.prog 35 = some 0 := by kernel_rfl
@[go_sem] theorem szT_39 : szT Try.prog 39 = some 1 := by kernel_rfl
@[go_sem] theorem byT_39 : byT Try.prog 39 = some 8 := by kernel_rfl
@[go_sem] theorem agT_39 : agT Try.prog 39 = some false := by kernel_rfl
@[go_sem] theorem zc_39 : zc Try.prog 39 = some [D.v Value.nilFunc] := by kernel_rfl
@[go_sem] theorem zD_39 : zD Try.prog 39 = some (D.v Value.nilFunc) := by kernel_rfl
@[go_sem] theorem szT_46 : szT Try.prog 46 = some 1 := by kernel_rfl
@[go_sem] theorem byT_46 : byT Try.prog 46 = some 24 := by kernel_rfl
@[go_sem] theorem agT_46 : agT Try.prog 46 = some false := by kernel_rfl
@[go_sem] theorem zc_46 : zc Try.prog 46 = some [D.nils] := by kernel_rfl
@[go_sem] theorem zD_46 : zD Try.prog 46 = some D.nils := by kernel_rfl
@[go_sem] theorem elT_46 : elT Try.prog 46 = some 50 := by kernel_rfl
@[go_sem] theorem szT_50 : szT Try.prog 50 = some 2 := by kernel_rfl
@[go_sem] theorem byT_50 : byT Try.prog 50 = some 16 := by kernel_rfl
@[go_sem] theorem agT_50 : agT Try.prog 50 = some true := by kernel_rfl
@[go_sem] theorem zc_50 : zc Try.prog 50 = some [D.v (Value.int IntKind.i64 (0)), D.v (Value.int IntKind.i64 (0))] := by kernel_rfl
@[go_sem] theorem zD_50 : zD Try.prog 50 = some (D.agg [D.v (Value.int IntKind.i64 (0)), D.v (Value.int IntKind.i64 (0))]) := by kernel_rfl
@[go_sem] theorem ckT_50 : ckT Try.prog 50 = some [0, 0] := by kernel_rfl
@[go_sem] theorem plT_50 : plT Try.prog 50 = some [(0, 1), (1, 1)] := by kernel_rfl
@[go_sem] theorem foT_50_0 : foT Try.prog 50 0 = some (0, 3) := by kernel_rfl
@[go_sem] theorem foT_50_1 : foT Try.prog 50 1 = some (1, 3) := by kernel_rfl
@[go_sem] theorem szT_53 : szT Try.prog 53 = some 2 := by kernel_rfl
@[go_sem] theorem byT_53 : byT Try.prog 53 = some 32 := by kernel_rfl
@[go_sem] theorem agT_53 : agT Try.prog 53 = some true := by kernel_rfl
@[go_sem] theorem zc_53 : zc Try.prog 53 = some [D.nils, D.v (Value.int IntKind.i64 (0))] := by kernel_rfl
@[go_sem] theorem zD_53 : zD Try.prog 53 = some (D.agg [D.nils, D.v (Value.int IntKind.i64 (0))]) := by kernel_rfl
@[go_sem] theorem plT_53 : plT Try.prog 53 = some [(0, 1), (1, 1)] := by kernel_rfl
@[go_sem] theorem foT_53_0 : foT Try.prog 53 0 = some (0, 28) := by kernel_rfl
@[go_sem] theorem foT_53_1 : foT Try.prog 53 1 = some (1, 3) := by kernel_rfl
@[go_sem] theorem szT_56 : szT Try.prog 56 = some 1 := by kernel_rfl
@[go_sem] theorem byT_56 : byT Try.prog 56 = some 8 := by kernel_rfl
@[go_sem] theorem agT_56 : agT Try.prog 56 = some false := by kernel_rfl
@[go_sem] theorem zc_56 : zc Try.prog 56 = some [D.v (Value.map none)] := by kernel_rfl
@[go_sem] theorem zD_56 : zD Try.prog 56 = some (D.v (Value.map none)) := by kernel_rfl
@[go_sem] theorem kvT_56 : kvT Try.prog 56 = some (50, 59) := by kernel_rfl
@[go_sem] theorem szT_59 : szT Try.prog 59 = some 2 := by kernel_rfl
@[go_sem] theorem byT_59 : byT Try.prog 59 = some 16 := by kernel_rfl
@[go_sem] theorem agT_59 : agT Try.prog 59 = some true := by kernel_rfl
@[go_sem] theorem zc_59 : zc Try.prog 59 = some [D.v (Value.int IntKind.i64 (0)), D.v (Value.bool false)] := by kernel_rfl
@[go_sem] theorem zD_59 : zD Try.prog 59 = some (D.agg [D.v (Value.int IntKind.i64 (0)), D.v (Value.bool false)]) := by kernel_rfl
@[go_sem] theorem ckT_59 : ckT Try.prog 59 = some [0, 1] := by kernel_rfl
@[go_sem] theorem plT_59 : plT Try.prog 59 = some [(0, 1), (1, 1)] := by kernel_rfl
@[go_sem] theorem foT_59_0 : foT Try.prog 59 0 = some (0, 3) := by kernel_rfl
@[go_sem] theorem foT_59_1 : foT Try.prog 59 1 = some (1, 4) := by kernel_rfl
@[go_sem] theorem szT_63 : szT Try.prog 63 = some 1 := by kernel_rfl
@[go_sem] theorem byT_63 : byT Try.prog 63 = some 8 := by kernel_rfl
@[go_sem] theorem agT_63 : agT Try.prog 63 = some false := by kernel_rfl
@[go_sem] theorem zc_63 : zc Try.prog 63 = some [D.v Value.nilFunc] := by kernel_rfl
@[go_sem] theorem zD_63 : zD Try.prog 63 = some (D.v Value.nilFunc) := by kernel_rfl
@[go_sem] theorem szT_70 : szT Try.prog 70 = some 1 := by kernel_rfl
@[go_sem] theorem byT_70 : byT Try.prog 70 = some 8 := by kernel_rfl
@[go_sem] theorem agT_70 : agT Try.prog 70 = some false := by kernel_rfl
@[go_sem] theorem zc_70 : zc Try.prog 70 = some [D.v (Value.int IntKind.u64 (0))] := by kernel_rfl
@[go_sem] theorem zD_70 : zD Try.prog 70 = some (D.v (Value.int IntKind.u64 (0))) := by kernel_rfl
@[go_sem] theorem inT_70 : inT Try.prog 70 = some IntKind.u64 := by kernel_rfl
@[go_sem] theorem bkT_70 : bkT Try.prog 70 = some 0 := by kernel_rfl
@[go_sem] theorem szT_82 : szT Try.prog 82 = some 1 := by kernel_rfl
@[go_sem] theorem byT_82 : byT Try.prog 82 = some 4 := by kernel_rfl
@[go_sem] theorem agT_82 : agT Try.prog 82 = some false := by kernel_rfl
@[go_sem] theorem zc_82 : zc Try.prog 82 = some [D.v (Value.int IntKind.u32 (0))] := by kernel_rfl
@[go_sem] theorem zD_82 : zD Try.prog 82 = some (D.v (Value.int IntKind.u32 (0))) := by kernel_rfl
@[go_sem] theorem inT_82 : inT Try.prog 82 = some IntKind.u32 := by kernel_rfl
@[go_sem] theorem bkT_82 : bkT Try.prog 82 = some 0 := by kernel_rfl
@[go_sem] theorem szT_84 : szT Try.prog 84 = some 1 := by kernel_rfl
@[go_sem] theorem byT_84 : byT Try.prog 84 = some 8 := by kernel_rfl
@[go_sem] theorem agT_84 : agT Try.prog 84 = some false := by kernel_rfl
@[go_sem] theorem zc_84 : zc Try.prog 84 = some [D.v (Value.int IntKind.u64 (0))] := by kernel_rfl
@[go_sem] theorem zD_84 : zD Try.prog 84 = some (D.v (Value.int IntKind.u64 (0))) := by kernel_rfl
@[go_sem] theorem inT_84 : inT Try.prog 84 = some IntKind.u64 := by kernel_rfl
@[go_sem] theorem bkT_84 : bkT Try.prog 84 = some 0 := by kernel_rfl
@[go_sem] theorem szT_90 : szT Try.prog 90 = some 1 := by kernel_rfl
@[go_sem] theorem byT_90 : byT Try.prog 90 = some 8 := by kernel_rfl
@[go_sem] theorem agT_90 : agT Try.prog 90 = some false := by kernel_rfl
@[go_sem] theorem zc_90 : zc Try.prog 90 = some [D.v (Value.int IntKind.u64 (0))] := by kernel_rfl
@[go_sem] theorem zD_90 : zD Try.prog 90 = some (D.v (Value.int IntKind.u64 (0))) := by kernel_rfl
@[go_sem] theorem inT_90 : inT Try.prog 90 = some IntKind.u64 := by kernel_rfl
@[go_sem] theorem bkT_90 : bkT Try.prog 90 = some 0 := by kernel_rfl
attribute [go_sem] Try.results3
attribute [go_sem] Try.results4
attribute [go_sem] Try.results5
attribute [go_sem] Try.results6
attribute [go_sem] Try.results7
attribute [go_sem] Try.results8
attribute [go_sem] Try.results9
attribute [go_sem] Try.results10
attribute [go_sem] Try.results11
attribute [go_sem] Try.results12
attribute [go_sem] Try.results13
attribute [go_sem] Try.results14
attribute [go_sem] Try.results15
attribute [go_sem] Try.results16
attribute [go_sem] Try.results17
attribute [go_sem] Try.results18
attribute [go_sem] Try.results19
attribute [go_sem] Try.results20
attribute [go_sem] Try.results21
attribute [go_sem] Try.results22
attribute [go_sem] Try.results23
attribute [go_sem] Try.results24
attribute [go_sem] Try.results25
attribute [go_sem] Try.results26
attribute [go_sem] Try.results27
attribute [go_sem] Try.results28
attribute [go_sem] Try.results29
attribute [go_sem] Try.results30
attribute [go_sem] Try.results31
attribute [go_sem] Try.results32
attribute [go_sem] Try.results33
attribute [go_sem] Try.results34
attribute [go_sem] Try.results35
attribute [go_sem] Try.results36
attribute [go_sem] Try.results37
attribute [go_sem] Try.results38
attribute [go_sem] Try.results39
attribute [go_sem] Try.results40
attribute [go_sem] Try.results41
attribute [go_sem] Try.results42
attribute [go_sem] Try.results43
attribute [go_sem] Try.results44
attribute [go_sem] Try.results45
attribute [go_sem] Try.results46
attribute [go_sem] Try.results47
attribute [go_sem] Try.results48
attribute [go_sem] Try.results50
attribute [go_sem] Try.results52
attribute [go_sem] Try.results61
attribute [go_sem] Try.results62
attribute [go_sem] Try.results72
attribute [go_sem] Try.results73
end Go.Proofs.R1
