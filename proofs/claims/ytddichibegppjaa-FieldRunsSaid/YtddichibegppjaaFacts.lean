/- Closed facts on the types and the functions of the program, by a program of this work. -/
import Derived.Test.YtddichibegppjaaRows
import Derived.Test.YtddichibegppjaaVl
namespace Go.Proofs.Ytddichibegppjaa
open Go Go.VC
theorem ae_23 : ae Try.prog 23 = some (2, 1) := by kernel_rfl
theorem ae_121 : ae Try.prog 121 = some (256, 1) := by kernel_rfl
theorem ae_149 : ae Try.prog 149 = some (256, 1) := by kernel_rfl
theorem fo_30_0 : fo Try.prog 30 0 = some 0 := by kernel_rfl
theorem fo_30_1 : fo Try.prog 30 1 = some 1 := by kernel_rfl
theorem fo_30_2 : fo Try.prog 30 2 = some 2 := by kernel_rfl
theorem fo_30_3 : fo Try.prog 30 3 = some 3 := by kernel_rfl
theorem fo_30_4 : fo Try.prog 30 4 = some 4 := by kernel_rfl
theorem fo_33_0 : fo Try.prog 33 0 = some 0 := by kernel_rfl
theorem fo_33_1 : fo Try.prog 33 1 = some 1 := by kernel_rfl
theorem fo_33_2 : fo Try.prog 33 2 = some 2 := by kernel_rfl
theorem fo_33_3 : fo Try.prog 33 3 = some 3 := by kernel_rfl
theorem fo_33_4 : fo Try.prog 33 4 = some 4 := by kernel_rfl
theorem fo_70_0 : fo Try.prog 70 0 = some 0 := by kernel_rfl
theorem fo_70_1 : fo Try.prog 70 1 = some 1 := by kernel_rfl
theorem fo_72_0 : fo Try.prog 72 0 = some 0 := by kernel_rfl
theorem fo_72_1 : fo Try.prog 72 1 = some 1 := by kernel_rfl
theorem fo_72_2 : fo Try.prog 72 2 = some 2 := by kernel_rfl
theorem fo_72_3 : fo Try.prog 72 3 = some 3 := by kernel_rfl
theorem fo_82_0 : fo Try.prog 82 0 = some 0 := by kernel_rfl
theorem fo_82_1 : fo Try.prog 82 1 = some 1 := by kernel_rfl
theorem fo_82_2 : fo Try.prog 82 2 = some 2 := by kernel_rfl
theorem fo_82_3 : fo Try.prog 82 3 = some 3 := by kernel_rfl
theorem fo_88_0 : fo Try.prog 88 0 = some 0 := by kernel_rfl
theorem fo_88_1 : fo Try.prog 88 1 = some 1 := by kernel_rfl
theorem fo_100_0 : fo Try.prog 100 0 = some 0 := by kernel_rfl
theorem fo_104_0 : fo Try.prog 104 0 = some 0 := by kernel_rfl
theorem fo_104_1 : fo Try.prog 104 1 = some 1 := by kernel_rfl
theorem fo_104_2 : fo Try.prog 104 2 = some 2 := by kernel_rfl
theorem fo_104_3 : fo Try.prog 104 3 = some 3 := by kernel_rfl
theorem fo_107_0 : fo Try.prog 107 0 = some 0 := by kernel_rfl
theorem fo_107_1 : fo Try.prog 107 1 = some 1 := by kernel_rfl
theorem fo_116_0 : fo Try.prog 116 0 = some 0 := by kernel_rfl
theorem fo_116_1 : fo Try.prog 116 1 = some 1 := by kernel_rfl
theorem fo_125_0 : fo Try.prog 125 0 = some 0 := by kernel_rfl
theorem fo_125_1 : fo Try.prog 125 1 = some 1 := by kernel_rfl
theorem fo_125_2 : fo Try.prog 125 2 = some 2 := by kernel_rfl
theorem fo_133_0 : fo Try.prog 133 0 = some 0 := by kernel_rfl
theorem fo_133_1 : fo Try.prog 133 1 = some 1 := by kernel_rfl
theorem fo_136_0 : fo Try.prog 136 0 = some 0 := by kernel_rfl
theorem fo_136_1 : fo Try.prog 136 1 = some 1 := by kernel_rfl
theorem ik_3 : ik Try.prog 3 = some IntKind.i64 := by kernel_rfl
theorem ik_5 : ik Try.prog 5 = some IntKind.u8 := by kernel_rfl
theorem ik_163 : ik Try.prog 163 = some IntKind.u32 := by kernel_rfl
theorem isB_3 : isEqB (Try.prog.underlying 3) = false := by kernel_rfl
theorem isB_4 : isEqB (Try.prog.underlying 4) = true := by kernel_rfl
theorem isB_5 : isEqB (Try.prog.underlying 5) = false := by kernel_rfl
theorem isB_9 : isEqB (Try.prog.underlying 9) = false := by kernel_rfl
theorem isB_20 : isEqB (Try.prog.underlying 20) = false := by kernel_rfl
theorem isB_21 : isEqB (Try.prog.underlying 21) = false := by kernel_rfl
theorem isB_25 : isEqB (Try.prog.underlying 25) = false := by kernel_rfl
theorem isB_38 : isEqB (Try.prog.underlying 38) = false := by kernel_rfl
theorem isB_59 : isEqB (Try.prog.underlying 59) = false := by kernel_rfl
theorem isB_86 : isEqB (Try.prog.underlying 86) = false := by kernel_rfl
theorem isB_163 : isEqB (Try.prog.underlying 163) = false := by kernel_rfl
theorem isPtr_38 : isPtr Try.prog 38 = true := by kernel_rfl
theorem isPtr_59 : isPtr Try.prog 59 = true := by kernel_rfl
theorem isPtr_86 : isPtr Try.prog 86 = true := by kernel_rfl
theorem isStr_9 : isStr Try.prog 9 = true := by kernel_rfl
theorem isU_3 : (Try.prog.underlying 3).isSome = true := by kernel_rfl
theorem isU_5 : (Try.prog.underlying 5).isSome = true := by kernel_rfl
theorem isU_9 : (Try.prog.underlying 9).isSome = true := by kernel_rfl
theorem isU_25 : (Try.prog.underlying 25).isSome = true := by kernel_rfl
theorem isU_63 : (Try.prog.underlying 63).isSome = true := by kernel_rfl
theorem isU_86 : (Try.prog.underlying 86).isSome = true := by kernel_rfl
theorem isU_138 : (Try.prog.underlying 138).isSome = true := by kernel_rfl
theorem mk_31 : mk Try.prog 31 = some (33, 5, 72, [Value.string { data := { toList := [] } }, Value.string { data := { toList := [] } }, Value.slice none 0 0, Value.int IntKind.i64 (0), Value.int IntKind.i64 (0)]) := by kernel_rfl
theorem mk_54 : mk Try.prog 54 = some (9, 1, 16, [Value.string { data := { toList := [] } }]) := by kernel_rfl
theorem mk_63 : mk Try.prog 63 = some (5, 1, 1, [Value.int IntKind.u8 (0)]) := by kernel_rfl
theorem mk_67 : mk Try.prog 67 = some (72, 4, 48, [Value.int IntKind.i64 (0), Value.int IntKind.i64 (0), Value.string { data := { toList := [] } }, Value.string { data := { toList := [] } }]) := by kernel_rfl
theorem mk_98 : mk Try.prog 98 = some (104, 4, 32, [Value.int IntKind.i64 (0), Value.pointer none, Value.int IntKind.i64 (0), Value.int IntKind.i64 (0)]) := by kernel_rfl
theorem mk_110 : mk Try.prog 110 = some (4, 1, 1, [Value.bool false]) := by kernel_rfl
theorem mk_123 : mk Try.prog 123 = some (3, 1, 8, [Value.int IntKind.i64 (0)]) := by kernel_rfl
theorem mk_134 : mk Try.prog 134 = some (136, 2, 16, [Value.int IntKind.i64 (0), Value.int IntKind.i64 (0)]) := by kernel_rfl
theorem places_33 : places Try.prog 33 = some [(0, 1), (1, 1), (2, 1), (3, 1), (4, 1)] := by kernel_rfl
theorem places_70 : places Try.prog 70 = some [(0, 1), (1, 1)] := by kernel_rfl
theorem places_82 : places Try.prog 82 = some [(0, 1), (1, 1), (2, 1), (3, 1)] := by kernel_rfl
theorem places_100 : places Try.prog 100 = some [(0, 1)] := by kernel_rfl
theorem places_104 : places Try.prog 104 = some [(0, 1), (1, 1), (2, 1), (3, 1)] := by kernel_rfl
theorem places_107 : places Try.prog 107 = some [(0, 1), (1, 1)] := by kernel_rfl
theorem places_116 : places Try.prog 116 = some [(0, 1), (1, 1)] := by kernel_rfl
theorem places_125 : places Try.prog 125 = some [(0, 1), (1, 1), (2, 1)] := by kernel_rfl
theorem places_133 : places Try.prog 133 = some [(0, 1), (1, 1)] := by kernel_rfl
theorem places_136 : places Try.prog 136 = some [(0, 1), (1, 1)] := by kernel_rfl
theorem se_31 : se Try.prog 31 = some (33, 5) := by kernel_rfl
theorem se_54 : se Try.prog 54 = some (9, 1) := by kernel_rfl
theorem se_63 : se Try.prog 63 = some (5, 1) := by kernel_rfl
theorem se_67 : se Try.prog 67 = some (72, 4) := by kernel_rfl
theorem se_98 : se Try.prog 98 = some (104, 4) := by kernel_rfl
theorem se_110 : se Try.prog 110 = some (4, 1) := by kernel_rfl
theorem se_123 : se Try.prog 123 = some (3, 1) := by kernel_rfl
theorem se_134 : se Try.prog 134 = some (136, 2) := by kernel_rfl
theorem tk_3 : tk Try.prog 3 = 1 := by kernel_rfl
theorem tk_4 : tk Try.prog 4 = 1 := by kernel_rfl
theorem tk_5 : tk Try.prog 5 = 1 := by kernel_rfl
theorem tk_9 : tk Try.prog 9 = 1 := by kernel_rfl
theorem tk_22 : tk Try.prog 22 = 1 := by kernel_rfl
theorem tk_30 : tk Try.prog 30 = 7 := by kernel_rfl
theorem tk_31 : tk Try.prog 31 = 1 := by kernel_rfl
theorem tk_33 : tk Try.prog 33 = 7 := by kernel_rfl
theorem tk_38 : tk Try.prog 38 = 1 := by kernel_rfl
theorem tk_54 : tk Try.prog 54 = 1 := by kernel_rfl
theorem tk_63 : tk Try.prog 63 = 1 := by kernel_rfl
theorem tk_72 : tk Try.prog 72 = 6 := by kernel_rfl
theorem tk_86 : tk Try.prog 86 = 1 := by kernel_rfl
theorem tk_98 : tk Try.prog 98 = 1 := by kernel_rfl
theorem tk_102 : tk Try.prog 102 = 1 := by kernel_rfl
theorem tk_104 : tk Try.prog 104 = 6 := by kernel_rfl
theorem tk_123 : tk Try.prog 123 = 1 := by kernel_rfl
theorem tk_136 : tk Try.prog 136 = 4 := by kernel_rfl
theorem ts_3 : ts Try.prog 3 = some 1 := by kernel_rfl
theorem ts_4 : ts Try.prog 4 = some 1 := by kernel_rfl
theorem ts_9 : ts Try.prog 9 = some 1 := by kernel_rfl
theorem ts_33 : ts Try.prog 33 = some 5 := by kernel_rfl
theorem ts_54 : ts Try.prog 54 = some 1 := by kernel_rfl
theorem ts_63 : ts Try.prog 63 = some 1 := by kernel_rfl
theorem ts_72 : ts Try.prog 72 = some 4 := by kernel_rfl
theorem ts_86 : ts Try.prog 86 = some 1 := by kernel_rfl
theorem ts_98 : ts Try.prog 98 = some 1 := by kernel_rfl
theorem ts_104 : ts Try.prog 104 = some 4 := by kernel_rfl
theorem ts_123 : ts Try.prog 123 = some 1 := by kernel_rfl
theorem ts_136 : ts Try.prog 136 = some 2 := by kernel_rfl
theorem zc_3 : zc Try.prog 3 = some [Value.int IntKind.i64 (0)] := by kernel_rfl
theorem zc_33 : zc Try.prog 33 = some [Value.string { data := { toList := [] } }, Value.string { data := { toList := [] } }, Value.slice none 0 0, Value.int IntKind.i64 (0), Value.int IntKind.i64 (0)] := by kernel_rfl
theorem zc_70 : zc Try.prog 70 = some [Value.string { data := { toList := [] } }, Value.slice none 0 0] := by kernel_rfl
theorem zc_72 : zc Try.prog 72 = some [Value.int IntKind.i64 (0), Value.int IntKind.i64 (0), Value.string { data := { toList := [] } }, Value.string { data := { toList := [] } }] := by kernel_rfl
theorem zc_82 : zc Try.prog 82 = some [Value.string { data := { toList := [] } }, Value.int IntKind.i64 (0), Value.int IntKind.i64 (0), Value.int IntKind.i64 (0)] := by kernel_rfl
theorem zc_88 : zc Try.prog 88 = some [Value.pointer none, Value.slice none 0 0] := by kernel_rfl
theorem zc_100 : zc Try.prog 100 = some [Value.slice none 0 0] := by kernel_rfl
theorem zc_104 : zc Try.prog 104 = some [Value.int IntKind.i64 (0), Value.pointer none, Value.int IntKind.i64 (0), Value.int IntKind.i64 (0)] := by kernel_rfl
theorem zc_107 : zc Try.prog 107 = some [Value.slice none 0 0, Value.int IntKind.i64 (0)] := by kernel_rfl
theorem zc_116 : zc Try.prog 116 = some [Value.string { data := { toList := [] } }, Value.slice none 0 0] := by kernel_rfl
theorem zc_121 : zc Try.prog 121 = some (List.replicate 256 (Value.bool false)) := by kernel_rfl
theorem zc_125 : zc Try.prog 125 = some [Value.pointer none, Value.slice none 0 0, Value.slice none 0 0] := by kernel_rfl
theorem zc_133 : zc Try.prog 133 = some [Value.string { data := { toList := [] } }, Value.int IntKind.i64 (0)] := by kernel_rfl
theorem zc_136 : zc Try.prog 136 = some [Value.int IntKind.i64 (0), Value.int IntKind.i64 (0)] := by kernel_rfl
theorem zc_149 : zc Try.prog 149 = some (List.replicate 256 (Value.bool false)) := by kernel_rfl
theorem isCall_2 : isCall Try.prog 2 = true := by unfold isCall; rw [Try.func2]; rfl
theorem isCall_3 : isCall Try.prog 3 = true := by unfold isCall; rw [Try.func3]; rfl
theorem isCall_4 : isCall Try.prog 4 = true := by unfold isCall; rw [Try.func4]; rfl
theorem isCall_5 : isCall Try.prog 5 = true := by unfold isCall; rw [Try.func5]; rfl
theorem isCall_6 : isCall Try.prog 6 = true := by unfold isCall; rw [Try.func6]; rfl
theorem isCall_7 : isCall Try.prog 7 = true := by unfold isCall; rw [Try.func7]; rfl
theorem isCall_8 : isCall Try.prog 8 = true := by unfold isCall; rw [Try.func8]; rfl
theorem isCall_9 : isCall Try.prog 9 = true := by unfold isCall; rw [Try.func9]; rfl
theorem isCall_10 : isCall Try.prog 10 = true := by unfold isCall; rw [Try.func10]; rfl
theorem isCall_11 : isCall Try.prog 11 = true := by unfold isCall; rw [Try.func11]; rfl
theorem isCall_12 : isCall Try.prog 12 = true := by unfold isCall; rw [Try.func12]; rfl
theorem isCall_13 : isCall Try.prog 13 = true := by unfold isCall; rw [Try.func13]; rfl
theorem isCall_14 : isCall Try.prog 14 = true := by unfold isCall; rw [Try.func14]; rfl
theorem isCall_15 : isCall Try.prog 15 = true := by unfold isCall; rw [Try.func15]; rfl
theorem isCall_17 : isCall Try.prog 17 = true := by unfold isCall; rw [Try.func17]; rfl
theorem isCall_18 : isCall Try.prog 18 = true := by unfold isCall; rw [Try.func18]; rfl
theorem isCall_19 : isCall Try.prog 19 = true := by unfold isCall; rw [Try.func19]; rfl
theorem isCall_20 : isCall Try.prog 20 = true := by unfold isCall; rw [Try.func20]; rfl
theorem isCall_21 : isCall Try.prog 21 = true := by unfold isCall; rw [Try.func21]; rfl
theorem isCall_22 : isCall Try.prog 22 = true := by unfold isCall; rw [Try.func22]; rfl
theorem isCall_23 : isCall Try.prog 23 = true := by unfold isCall; rw [Try.func23]; rfl
theorem isCall_24 : isCall Try.prog 24 = true := by unfold isCall; rw [Try.func24]; rfl
theorem isCall_25 : isCall Try.prog 25 = true := by unfold isCall; rw [Try.func25]; rfl
theorem isCall_26 : isCall Try.prog 26 = true := by unfold isCall; rw [Try.func26]; rfl
theorem isCall_27 : isCall Try.prog 27 = true := by unfold isCall; rw [Try.func27]; rfl
theorem isCall_28 : isCall Try.prog 28 = true := by unfold isCall; rw [Try.func28]; rfl
theorem isCall_29 : isCall Try.prog 29 = true := by unfold isCall; rw [Try.func29]; rfl
theorem isCall_30 : isCall Try.prog 30 = true := by unfold isCall; rw [Try.func30]; rfl
theorem isCall_31 : isCall Try.prog 31 = true := by unfold isCall; rw [Try.func31]; rfl
theorem isCall_32 : isCall Try.prog 32 = true := by unfold isCall; rw [Try.func32]; rfl
theorem isCall_33 : isCall Try.prog 33 = true := by unfold isCall; rw [Try.func33]; rfl
theorem isCall_34 : isCall Try.prog 34 = true := by unfold isCall; rw [Try.func34]; rfl
theorem isCall_35 : isCall Try.prog 35 = true := by unfold isCall; rw [Try.func35]; rfl
theorem isCall_36 : isCall Try.prog 36 = true := by unfold isCall; rw [Try.func36]; rfl
theorem isCall_37 : isCall Try.prog 37 = true := by unfold isCall; rw [Try.func37]; rfl
theorem isCall_38 : isCall Try.prog 38 = true := by unfold isCall; rw [Try.func38]; rfl
theorem isCall_39 : isCall Try.prog 39 = true := by unfold isCall; rw [Try.func39]; rfl
theorem isCall_40 : isCall Try.prog 40 = true := by unfold isCall; rw [Try.func40]; rfl
theorem isCall_41 : isCall Try.prog 41 = true := by unfold isCall; rw [Try.func41]; rfl
theorem isCall_42 : isCall Try.prog 42 = true := by unfold isCall; rw [Try.func42]; rfl
theorem isCall_43 : isCall Try.prog 43 = true := by unfold isCall; rw [Try.func43]; rfl
theorem isCall_44 : isCall Try.prog 44 = true := by unfold isCall; rw [Try.func44]; rfl
theorem isCall_45 : isCall Try.prog 45 = true := by unfold isCall; rw [Try.func45]; rfl
theorem isCall_47 : isCall Try.prog 47 = true := by unfold isCall; rw [Try.func47]; rfl
theorem isCall_48 : isCall Try.prog 48 = true := by unfold isCall; rw [Try.func48]; rfl
theorem isCall_49 : isCall Try.prog 49 = true := by unfold isCall; rw [Try.func49]; rfl
theorem isCall_50 : isCall Try.prog 50 = true := by unfold isCall; rw [Try.func50]; rfl
theorem isCall_51 : isCall Try.prog 51 = true := by unfold isCall; rw [Try.func51]; rfl
theorem isCall_52 : isCall Try.prog 52 = true := by unfold isCall; rw [Try.func52]; rfl
theorem isCall_53 : isCall Try.prog 53 = true := by unfold isCall; rw [Try.func53]; rfl
theorem isCall_54 : isCall Try.prog 54 = true := by unfold isCall; rw [Try.func54]; rfl
theorem isCall_55 : isCall Try.prog 55 = true := by unfold isCall; rw [Try.func55]; rfl
theorem isCall_56 : isCall Try.prog 56 = true := by unfold isCall; rw [Try.func56]; rfl
theorem isCall_57 : isCall Try.prog 57 = true := by unfold isCall; rw [Try.func57]; rfl
theorem isCall_58 : isCall Try.prog 58 = true := by unfold isCall; rw [Try.func58]; rfl
theorem isCall_59 : isCall Try.prog 59 = true := by unfold isCall; rw [Try.func59]; rfl
theorem isCall_60 : isCall Try.prog 60 = true := by unfold isCall; rw [Try.func60]; rfl
theorem isCall_61 : isCall Try.prog 61 = true := by unfold isCall; rw [Try.func61]; rfl
theorem isCall_62 : isCall Try.prog 62 = true := by unfold isCall; rw [Try.func62]; rfl
theorem isCall_63 : isCall Try.prog 63 = true := by unfold isCall; rw [Try.func63]; rfl
theorem isCall_64 : isCall Try.prog 64 = true := by unfold isCall; rw [Try.func64]; rfl
theorem isCall_65 : isCall Try.prog 65 = true := by unfold isCall; rw [Try.func65]; rfl
theorem isCall_66 : isCall Try.prog 66 = true := by unfold isCall; rw [Try.func66]; rfl
theorem isCall_67 : isCall Try.prog 67 = true := by unfold isCall; rw [Try.func67]; rfl
theorem isCall_68 : isCall Try.prog 68 = true := by unfold isCall; rw [Try.func68]; rfl
theorem isCall_69 : isCall Try.prog 69 = true := by unfold isCall; rw [Try.func69]; rfl
theorem isCall_70 : isCall Try.prog 70 = true := by unfold isCall; rw [Try.func70]; rfl
theorem isCall_71 : isCall Try.prog 71 = true := by unfold isCall; rw [Try.func71]; rfl
theorem isCall_72 : isCall Try.prog 72 = true := by unfold isCall; rw [Try.func72]; rfl
theorem isCall_73 : isCall Try.prog 73 = true := by unfold isCall; rw [Try.func73]; rfl
theorem isCall_74 : isCall Try.prog 74 = true := by unfold isCall; rw [Try.func74]; rfl
theorem isCall_75 : isCall Try.prog 75 = true := by unfold isCall; rw [Try.func75]; rfl
theorem isCall_76 : isCall Try.prog 76 = true := by unfold isCall; rw [Try.func76]; rfl
theorem isCall_77 : isCall Try.prog 77 = true := by unfold isCall; rw [Try.func77]; rfl
theorem isCall_78 : isCall Try.prog 78 = true := by unfold isCall; rw [Try.func78]; rfl
theorem isCall_79 : isCall Try.prog 79 = true := by unfold isCall; rw [Try.func79]; rfl
theorem isCall_80 : isCall Try.prog 80 = true := by unfold isCall; rw [Try.func80]; rfl
theorem isCall_81 : isCall Try.prog 81 = true := by unfold isCall; rw [Try.func81]; rfl
theorem isCall_82 : isCall Try.prog 82 = true := by unfold isCall; rw [Try.func82]; rfl
theorem isCall_83 : isCall Try.prog 83 = true := by unfold isCall; rw [Try.func83]; rfl
theorem isCall_84 : isCall Try.prog 84 = true := by unfold isCall; rw [Try.func84]; rfl
theorem isCall_85 : isCall Try.prog 85 = true := by unfold isCall; rw [Try.func85]; rfl
theorem isCall_87 : isCall Try.prog 87 = true := by unfold isCall; rw [Try.func87]; rfl
theorem isCall_88 : isCall Try.prog 88 = true := by unfold isCall; rw [Try.func88]; rfl
theorem isCall_89 : isCall Try.prog 89 = true := by unfold isCall; rw [Try.func89]; rfl
theorem isCall_90 : isCall Try.prog 90 = true := by unfold isCall; rw [Try.func90]; rfl
theorem isCall_91 : isCall Try.prog 91 = true := by unfold isCall; rw [Try.func91]; rfl
theorem isCall_92 : isCall Try.prog 92 = true := by unfold isCall; rw [Try.func92]; rfl
theorem isCall_93 : isCall Try.prog 93 = true := by unfold isCall; rw [Try.func93]; rfl
theorem isCall_94 : isCall Try.prog 94 = true := by unfold isCall; rw [Try.func94]; rfl
theorem isCall_95 : isCall Try.prog 95 = true := by unfold isCall; rw [Try.func95]; rfl
theorem isCall_96 : isCall Try.prog 96 = true := by unfold isCall; rw [Try.func96]; rfl
theorem isCall_97 : isCall Try.prog 97 = true := by unfold isCall; rw [Try.func97]; rfl
theorem isCall_98 : isCall Try.prog 98 = true := by unfold isCall; rw [Try.func98]; rfl
theorem isCall_99 : isCall Try.prog 99 = true := by unfold isCall; rw [Try.func99]; rfl
theorem isCall_101 : isCall Try.prog 101 = true := by unfold isCall; rw [Try.func101]; rfl
theorem isCall_102 : isCall Try.prog 102 = true := by unfold isCall; rw [Try.func102]; rfl
theorem isCall_103 : isCall Try.prog 103 = true := by unfold isCall; rw [Try.func103]; rfl
theorem isCall_104 : isCall Try.prog 104 = true := by unfold isCall; rw [Try.func104]; rfl
theorem isCall_105 : isCall Try.prog 105 = true := by unfold isCall; rw [Try.func105]; rfl
theorem isCall_106 : isCall Try.prog 106 = true := by unfold isCall; rw [Try.func106]; rfl
theorem isCall_107 : isCall Try.prog 107 = true := by unfold isCall; rw [Try.func107]; rfl
theorem isCall_108 : isCall Try.prog 108 = true := by unfold isCall; rw [Try.func108]; rfl
theorem isCall_109 : isCall Try.prog 109 = true := by unfold isCall; rw [Try.func109]; rfl
theorem isCall_110 : isCall Try.prog 110 = true := by unfold isCall; rw [Try.func110]; rfl
theorem isCall_111 : isCall Try.prog 111 = true := by unfold isCall; rw [Try.func111]; rfl
theorem isCall_112 : isCall Try.prog 112 = true := by unfold isCall; rw [Try.func112]; rfl
theorem isCall_113 : isCall Try.prog 113 = true := by unfold isCall; rw [Try.func113]; rfl
theorem isCall_114 : isCall Try.prog 114 = true := by unfold isCall; rw [Try.func114]; rfl
theorem isCall_115 : isCall Try.prog 115 = true := by unfold isCall; rw [Try.func115]; rfl
theorem isCall_116 : isCall Try.prog 116 = true := by unfold isCall; rw [Try.func116]; rfl
theorem isCall_117 : isCall Try.prog 117 = true := by unfold isCall; rw [Try.func117]; rfl
theorem isCall_119 : isCall Try.prog 119 = true := by unfold isCall; rw [Try.func119]; rfl
theorem isCall_121 : isCall Try.prog 121 = true := by unfold isCall; rw [Try.func121]; rfl
theorem isCall_122 : isCall Try.prog 122 = true := by unfold isCall; rw [Try.func122]; rfl
theorem isCall_123 : isCall Try.prog 123 = true := by unfold isCall; rw [Try.func123]; rfl
theorem mixed : Try.prog.follows .mixedOrders = true := by kernel_rfl
attribute [push_cast] ae_23 ae_121 ae_149 fo_30_0 fo_30_1 fo_30_2 fo_30_3 fo_30_4 fo_33_0 fo_33_1 fo_33_2 fo_33_3
attribute [push_cast] fo_33_4 fo_70_0 fo_70_1 fo_72_0 fo_72_1 fo_72_2 fo_72_3 fo_82_0 fo_82_1 fo_82_2 fo_82_3 fo_88_0
attribute [push_cast] fo_88_1 fo_100_0 fo_104_0 fo_104_1 fo_104_2 fo_104_3 fo_107_0 fo_107_1 fo_116_0 fo_116_1 fo_125_0 fo_125_1
attribute [push_cast] fo_125_2 fo_133_0 fo_133_1 fo_136_0 fo_136_1 ik_3 ik_5 ik_163 isB_3 isB_4 isB_5 isB_9
attribute [push_cast] isB_20 isB_21 isB_25 isB_38 isB_59 isB_86 isB_163 isPtr_38 isPtr_59 isPtr_86 isStr_9 isU_3
attribute [push_cast] isU_5 isU_9 isU_25 isU_63 isU_86 isU_138 mk_31 mk_54 mk_63 mk_67 mk_98 mk_110
attribute [push_cast] mk_123 mk_134 places_33 places_70 places_82 places_100 places_104 places_107 places_116 places_125 places_133 places_136
attribute [push_cast] se_31 se_54 se_63 se_67 se_98 se_110 se_123 se_134 tk_3 tk_4 tk_5 tk_9
attribute [push_cast] tk_22 tk_30 tk_31 tk_33 tk_38 tk_54 tk_63 tk_72 tk_86 tk_98 tk_102 tk_104
attribute [push_cast] tk_123 tk_136 ts_3 ts_4 ts_9 ts_33 ts_54 ts_63 ts_72 ts_86 ts_98 ts_104
attribute [push_cast] ts_123 ts_136 zc_3 zc_33 zc_70 zc_72 zc_82 zc_88 zc_100 zc_104 zc_107 zc_116
attribute [push_cast] zc_121 zc_125 zc_133 zc_136 zc_149 isCall_2 isCall_3 isCall_4 isCall_5 isCall_6 isCall_7 isCall_8
attribute [push_cast] isCall_9 isCall_10 isCall_11 isCall_12 isCall_13 isCall_14 isCall_15 isCall_17 isCall_18 isCall_19 isCall_20 isCall_21
attribute [push_cast] isCall_22 isCall_23 isCall_24 isCall_25 isCall_26 isCall_27 isCall_28 isCall_29 isCall_30 isCall_31 isCall_32 isCall_33
attribute [push_cast] isCall_34 isCall_35 isCall_36 isCall_37 isCall_38 isCall_39 isCall_40 isCall_41 isCall_42 isCall_43 isCall_44 isCall_45
attribute [push_cast] isCall_47 isCall_48 isCall_49 isCall_50 isCall_51 isCall_52 isCall_53 isCall_54 isCall_55 isCall_56 isCall_57 isCall_58
attribute [push_cast] isCall_59 isCall_60 isCall_61 isCall_62 isCall_63 isCall_64 isCall_65 isCall_66 isCall_67 isCall_68 isCall_69 isCall_70
attribute [push_cast] isCall_71 isCall_72 isCall_73 isCall_74 isCall_75 isCall_76 isCall_77 isCall_78 isCall_79 isCall_80 isCall_81 isCall_82
attribute [push_cast] isCall_83 isCall_84 isCall_85 isCall_87 isCall_88 isCall_89 isCall_90 isCall_91 isCall_92 isCall_93 isCall_94 isCall_95
attribute [push_cast] isCall_96 isCall_97 isCall_98 isCall_99 isCall_101 isCall_102 isCall_103 isCall_104 isCall_105 isCall_106 isCall_107 isCall_108
attribute [push_cast] isCall_109 isCall_110 isCall_111 isCall_112 isCall_113 isCall_114 isCall_115 isCall_116 isCall_117 isCall_119 isCall_121 isCall_122
attribute [push_cast] isCall_123
end Go.Proofs.Ytddichibegppjaa
