/- The tables of the types. -/
import Derived.Test.YthnfliopmjpdmaaAvR3
namespace Go.Proofs.Ythnfliopmjpdmaa.Av
set_option linter.unusedVariables false
theorem tsz_0 : tsz Try.prog 2 = some (false, 1) := by kernel_rfl
theorem tsz_1 : tsz Try.prog 3 = some (false, 1) := by kernel_rfl
theorem tsz_2 : tsz Try.prog 4 = some (false, 1) := by kernel_rfl
theorem tsz_3 : tsz Try.prog 5 = some (false, 1) := by kernel_rfl
theorem tsz_4 : tsz Try.prog 6 = some (false, 1) := by kernel_rfl
theorem tsz_5 : tsz Try.prog 7 = some (true, 4) := by kernel_rfl
theorem tsz_6 : tsz Try.prog 8 = some (true, 4) := by kernel_rfl
theorem tsz_7 : tsz Try.prog 9 = some (false, 1) := by kernel_rfl
theorem tsz_8 : tsz Try.prog 10 = some (false, 1) := by kernel_rfl
theorem tsz_9 : tsz Try.prog 11 = some (false, 1) := by kernel_rfl
theorem tsz_10 : tsz Try.prog 12 = some (false, 1) := by kernel_rfl
theorem tsz_11 : tsz Try.prog 13 = some (true, 2) := by kernel_rfl
theorem tsz_12 : tsz Try.prog 14 = some (true, 2) := by kernel_rfl
theorem tsz_13 : tsz Try.prog 15 = some (false, 1) := by kernel_rfl
theorem tsz_14 : tsz Try.prog 16 = some (false, 1) := by kernel_rfl
theorem tsz_15 : tsz Try.prog 17 = some (false, 1) := by kernel_rfl
theorem tsz_16 : tsz Try.prog 18 = some (true, 1) := by kernel_rfl
theorem tsz_17 : tsz Try.prog 19 = some (true, 1) := by kernel_rfl
theorem tsz_18 : tsz Try.prog 21 = some (false, 1) := by kernel_rfl
theorem tsz_19 : tsz Try.prog 22 = some (false, 1) := by kernel_rfl
theorem tsz_20 : tsz Try.prog 25 = some (false, 1) := by kernel_rfl
theorem tsz_21 : tsz Try.prog 26 = some (false, 1) := by kernel_rfl
theorem tsz_22 : tsz Try.prog 27 = some (false, 1) := by kernel_rfl
theorem tsz_23 : tsz Try.prog 28 = some (true, 4) := by kernel_rfl
theorem tsz_24 : tsz Try.prog 29 = some (true, 4) := by kernel_rfl
theorem tsz_25 : tsz Try.prog 31 = some (false, 1) := by kernel_rfl
theorem tsz_26 : tsz Try.prog 34 = some (false, 1) := by kernel_rfl
theorem tsz_27 : tsz Try.prog 37 = some (false, 1) := by kernel_rfl
theorem tsz_28 : tsz Try.prog 41 = some (false, 1) := by kernel_rfl
theorem tsz_29 : tsz Try.prog 42 = some (false, 1) := by kernel_rfl
theorem tsz_30 : tsz Try.prog 51 = some (true, 4) := by kernel_rfl
theorem tsz_31 : tsz Try.prog 53 = some (true, 2) := by kernel_rfl
theorem tsz_32 : tsz Try.prog 55 = some (true, 5) := by kernel_rfl
theorem tsz_33 : tsz Try.prog 56 = some (true, 5) := by kernel_rfl
theorem tsz_34 : tsz Try.prog 57 = some (true, 6) := by kernel_rfl
theorem tsz_35 : tsz Try.prog 58 = some (true, 6) := by kernel_rfl
theorem tsz_36 : tsz Try.prog 59 = some (false, 1) := by kernel_rfl
theorem tsz_37 : tsz Try.prog 60 = some (true, 7) := by kernel_rfl
theorem tsz_38 : tsz Try.prog 61 = some (true, 7) := by kernel_rfl
theorem tsz_39 : tsz Try.prog 62 = some (false, 1) := by kernel_rfl
theorem tsz_40 : tsz Try.prog 64 = some (false, 1) := by kernel_rfl
theorem tsz_41 : tsz Try.prog 66 = some (false, 1) := by kernel_rfl
theorem tsz_42 : tsz Try.prog 67 = some (false, 1) := by kernel_rfl
theorem tsz_43 : tsz Try.prog 70 = some (false, 1) := by kernel_rfl
theorem tsz_44 : tsz Try.prog 71 = some (false, 1) := by kernel_rfl
theorem tsz_45 : tsz Try.prog 72 = some (true, 3) := by kernel_rfl
theorem tsz_46 : tsz Try.prog 73 = some (true, 3) := by kernel_rfl
theorem tsz_47 : tsz Try.prog 79 = some (false, 1) := by kernel_rfl
theorem tsz_48 : tsz Try.prog 87 = some (true, 2) := by kernel_rfl
theorem tsz_49 : tsz Try.prog 88 = some (true, 2) := by kernel_rfl
theorem tsz_50 : tsz Try.prog 93 = some (false, 1) := by kernel_rfl
theorem tsz_51 : tsz Try.prog 94 = some (true, 3) := by kernel_rfl
theorem tsz_52 : tsz Try.prog 95 = some (true, 3) := by kernel_rfl
theorem tsz_53 : tsz Try.prog 97 = some (false, 1) := by kernel_rfl
theorem tsz_54 : tsz Try.prog 99 = some (true, 2) := by kernel_rfl
theorem tsz_55 : tsz Try.prog 100 = some (true, 2) := by kernel_rfl
theorem tsz_56 : tsz Try.prog 103 = some (false, 1) := by kernel_rfl
theorem tsz_57 : tsz Try.prog 107 = some (true, 2) := by kernel_rfl
theorem tsz_58 : tsz Try.prog 108 = some (true, 2) := by kernel_rfl
theorem tsz_59 : tsz Try.prog 112 = some (true, 4) := by kernel_rfl
theorem tsz_60 : tsz Try.prog 113 = some (true, 4) := by kernel_rfl
theorem tsz_61 : tsz Try.prog 114 = some (true, 0) := by kernel_rfl
theorem tsz_62 : tsz Try.prog 115 = some (true, 0) := by kernel_rfl
theorem tsz_63 : tsz Try.prog 116 = some (true, 0) := by kernel_rfl
theorem tsz_64 : tsz Try.prog 117 = some (false, 1) := by kernel_rfl
theorem tsz_65 : tsz Try.prog 118 = some (false, 1) := by kernel_rfl
theorem tsz_66 : tsz Try.prog 120 = some (false, 1) := by kernel_rfl
theorem tsz_67 : tsz Try.prog 121 = some (false, 1) := by kernel_rfl
theorem tsz_68 : tsz Try.prog 122 = some (false, 1) := by kernel_rfl
theorem tsz_69 : tsz Try.prog 123 = some (true, 11) := by kernel_rfl
theorem tsz_70 : tsz Try.prog 124 = some (true, 11) := by kernel_rfl
theorem tsz_71 : tsz Try.prog 125 = some (false, 1) := by kernel_rfl
theorem tszAll : (tsz Try.prog 2 = some (false, 1)) ∧ (tsz Try.prog 3 = some (false, 1)) ∧ (tsz Try.prog 4 = some (false, 1)) ∧ (tsz Try.prog 5 = some (false, 1)) ∧ (tsz Try.prog 6 = some (false, 1)) ∧ (tsz Try.prog 7 = some (true, 4)) ∧ (tsz Try.prog 8 = some (true, 4)) ∧ (tsz Try.prog 9 = some (false, 1)) ∧ (tsz Try.prog 10 = some (false, 1)) ∧ (tsz Try.prog 11 = some (false, 1)) ∧ (tsz Try.prog 12 = some (false, 1)) ∧ (tsz Try.prog 13 = some (true, 2)) ∧ (tsz Try.prog 14 = some (true, 2)) ∧ (tsz Try.prog 15 = some (false, 1)) ∧ (tsz Try.prog 16 = some (false, 1)) ∧ (tsz Try.prog 17 = some (false, 1)) ∧ (tsz Try.prog 18 = some (true, 1)) ∧ (tsz Try.prog 19 = some (true, 1)) ∧ (tsz Try.prog 21 = some (false, 1)) ∧ (tsz Try.prog 22 = some (false, 1)) ∧ (tsz Try.prog 25 = some (false, 1)) ∧ (tsz Try.prog 26 = some (false, 1)) ∧ (tsz Try.prog 27 = some (false, 1)) ∧ (tsz Try.prog 28 = some (true, 4)) ∧ (tsz Try.prog 29 = some (true, 4)) ∧ (tsz Try.prog 31 = some (false, 1)) ∧ (tsz Try.prog 34 = some (false, 1)) ∧ (tsz Try.prog 37 = some (false, 1)) ∧ (tsz Try.prog 41 = some (false, 1)) ∧ (tsz Try.prog 42 = some (false, 1)) ∧ (tsz Try.prog 51 = some (true, 4)) ∧ (tsz Try.prog 53 = some (true, 2)) ∧ (tsz Try.prog 55 = some (true, 5)) ∧ (tsz Try.prog 56 = some (true, 5)) ∧ (tsz Try.prog 57 = some (true, 6)) ∧ (tsz Try.prog 58 = some (true, 6)) ∧ (tsz Try.prog 59 = some (false, 1)) ∧ (tsz Try.prog 60 = some (true, 7)) ∧ (tsz Try.prog 61 = some (true, 7)) ∧ (tsz Try.prog 62 = some (false, 1)) ∧ (tsz Try.prog 64 = some (false, 1)) ∧ (tsz Try.prog 66 = some (false, 1)) ∧ (tsz Try.prog 67 = some (false, 1)) ∧ (tsz Try.prog 70 = some (false, 1)) ∧ (tsz Try.prog 71 = some (false, 1)) ∧ (tsz Try.prog 72 = some (true, 3)) ∧ (tsz Try.prog 73 = some (true, 3)) ∧ (tsz Try.prog 79 = some (false, 1)) ∧ (tsz Try.prog 87 = some (true, 2)) ∧ (tsz Try.prog 88 = some (true, 2)) ∧ (tsz Try.prog 93 = some (false, 1)) ∧ (tsz Try.prog 94 = some (true, 3)) ∧ (tsz Try.prog 95 = some (true, 3)) ∧ (tsz Try.prog 97 = some (false, 1)) ∧ (tsz Try.prog 99 = some (true, 2)) ∧ (tsz Try.prog 100 = some (true, 2)) ∧ (tsz Try.prog 103 = some (false, 1)) ∧ (tsz Try.prog 107 = some (true, 2)) ∧ (tsz Try.prog 108 = some (true, 2)) ∧ (tsz Try.prog 112 = some (true, 4)) ∧ (tsz Try.prog 113 = some (true, 4)) ∧ (tsz Try.prog 114 = some (true, 0)) ∧ (tsz Try.prog 115 = some (true, 0)) ∧ (tsz Try.prog 116 = some (true, 0)) ∧ (tsz Try.prog 117 = some (false, 1)) ∧ (tsz Try.prog 118 = some (false, 1)) ∧ (tsz Try.prog 120 = some (false, 1)) ∧ (tsz Try.prog 121 = some (false, 1)) ∧ (tsz Try.prog 122 = some (false, 1)) ∧ (tsz Try.prog 123 = some (true, 11)) ∧ (tsz Try.prog 124 = some (true, 11)) ∧ (tsz Try.prog 125 = some (false, 1)) := ⟨tsz_0, tsz_1, tsz_2, tsz_3, tsz_4, tsz_5, tsz_6, tsz_7, tsz_8, tsz_9, tsz_10, tsz_11, tsz_12, tsz_13, tsz_14, tsz_15, tsz_16, tsz_17, tsz_18, tsz_19, tsz_20, tsz_21, tsz_22, tsz_23, tsz_24, tsz_25, tsz_26, tsz_27, tsz_28, tsz_29, tsz_30, tsz_31, tsz_32, tsz_33, tsz_34, tsz_35, tsz_36, tsz_37, tsz_38, tsz_39, tsz_40, tsz_41, tsz_42, tsz_43, tsz_44, tsz_45, tsz_46, tsz_47, tsz_48, tsz_49, tsz_50, tsz_51, tsz_52, tsz_53, tsz_54, tsz_55, tsz_56, tsz_57, tsz_58, tsz_59, tsz_60, tsz_61, tsz_62, tsz_63, tsz_64, tsz_65, tsz_66, tsz_67, tsz_68, tsz_69, tsz_70, tsz_71⟩
theorem fldOff_0 : fldOff Try.prog 7 0 = some 0 := by kernel_rfl
theorem fldOff_1 : fldOff Try.prog 7 1 = some 1 := by kernel_rfl
theorem fldOff_2 : fldOff Try.prog 7 2 = some 2 := by kernel_rfl
theorem fldOff_3 : fldOff Try.prog 7 3 = some 3 := by kernel_rfl
theorem fldOff_4 : fldOff Try.prog 8 0 = some 0 := by kernel_rfl
theorem fldOff_5 : fldOff Try.prog 8 1 = some 1 := by kernel_rfl
theorem fldOff_6 : fldOff Try.prog 8 2 = some 2 := by kernel_rfl
theorem fldOff_7 : fldOff Try.prog 8 3 = some 3 := by kernel_rfl
theorem fldOff_8 : fldOff Try.prog 13 0 = some 0 := by kernel_rfl
theorem fldOff_9 : fldOff Try.prog 13 1 = some 1 := by kernel_rfl
theorem fldOff_10 : fldOff Try.prog 14 0 = some 0 := by kernel_rfl
theorem fldOff_11 : fldOff Try.prog 14 1 = some 1 := by kernel_rfl
theorem fldOff_12 : fldOff Try.prog 18 0 = some 0 := by kernel_rfl
theorem fldOff_13 : fldOff Try.prog 19 0 = some 0 := by kernel_rfl
theorem fldOff_14 : fldOff Try.prog 28 0 = some 0 := by kernel_rfl
theorem fldOff_15 : fldOff Try.prog 28 1 = some 1 := by kernel_rfl
theorem fldOff_16 : fldOff Try.prog 28 2 = some 2 := by kernel_rfl
theorem fldOff_17 : fldOff Try.prog 28 3 = some 3 := by kernel_rfl
theorem fldOff_18 : fldOff Try.prog 29 0 = some 0 := by kernel_rfl
theorem fldOff_19 : fldOff Try.prog 29 1 = some 1 := by kernel_rfl
theorem fldOff_20 : fldOff Try.prog 29 2 = some 2 := by kernel_rfl
theorem fldOff_21 : fldOff Try.prog 29 3 = some 3 := by kernel_rfl
theorem fldOff_22 : fldOff Try.prog 55 0 = some 0 := by kernel_rfl
theorem fldOff_23 : fldOff Try.prog 55 1 = some 1 := by kernel_rfl
theorem fldOff_24 : fldOff Try.prog 55 2 = some 2 := by kernel_rfl
theorem fldOff_25 : fldOff Try.prog 55 3 = some 3 := by kernel_rfl
theorem fldOff_26 : fldOff Try.prog 55 4 = some 4 := by kernel_rfl
theorem fldOff_27 : fldOff Try.prog 56 0 = some 0 := by kernel_rfl
theorem fldOff_28 : fldOff Try.prog 56 1 = some 1 := by kernel_rfl
theorem fldOff_29 : fldOff Try.prog 56 2 = some 2 := by kernel_rfl
theorem fldOff_30 : fldOff Try.prog 56 3 = some 3 := by kernel_rfl
theorem fldOff_31 : fldOff Try.prog 56 4 = some 4 := by kernel_rfl
theorem fldOff_32 : fldOff Try.prog 57 0 = some 0 := by kernel_rfl
theorem fldOff_33 : fldOff Try.prog 57 1 = some 1 := by kernel_rfl
theorem fldOff_34 : fldOff Try.prog 57 2 = some 2 := by kernel_rfl
theorem fldOff_35 : fldOff Try.prog 57 3 = some 3 := by kernel_rfl
theorem fldOff_36 : fldOff Try.prog 57 4 = some 4 := by kernel_rfl
theorem fldOff_37 : fldOff Try.prog 57 5 = some 5 := by kernel_rfl
theorem fldOff_38 : fldOff Try.prog 58 0 = some 0 := by kernel_rfl
theorem fldOff_39 : fldOff Try.prog 58 1 = some 1 := by kernel_rfl
theorem fldOff_40 : fldOff Try.prog 58 2 = some 2 := by kernel_rfl
theorem fldOff_41 : fldOff Try.prog 58 3 = some 3 := by kernel_rfl
theorem fldOff_42 : fldOff Try.prog 58 4 = some 4 := by kernel_rfl
theorem fldOff_43 : fldOff Try.prog 58 5 = some 5 := by kernel_rfl
theorem fldOff_44 : fldOff Try.prog 60 0 = some 0 := by kernel_rfl
theorem fldOff_45 : fldOff Try.prog 60 1 = some 4 := by kernel_rfl
theorem fldOff_46 : fldOff Try.prog 60 2 = some 5 := by kernel_rfl
theorem fldOff_47 : fldOff Try.prog 60 3 = some 6 := by kernel_rfl
theorem fldOff_48 : fldOff Try.prog 61 0 = some 0 := by kernel_rfl
theorem fldOff_49 : fldOff Try.prog 61 1 = some 4 := by kernel_rfl
theorem fldOff_50 : fldOff Try.prog 61 2 = some 5 := by kernel_rfl
theorem fldOff_51 : fldOff Try.prog 61 3 = some 6 := by kernel_rfl
theorem fldOff_52 : fldOff Try.prog 72 0 = some 0 := by kernel_rfl
theorem fldOff_53 : fldOff Try.prog 72 1 = some 1 := by kernel_rfl
theorem fldOff_54 : fldOff Try.prog 72 2 = some 2 := by kernel_rfl
theorem fldOff_55 : fldOff Try.prog 73 0 = some 0 := by kernel_rfl
theorem fldOff_56 : fldOff Try.prog 73 1 = some 1 := by kernel_rfl
theorem fldOff_57 : fldOff Try.prog 73 2 = some 2 := by kernel_rfl
theorem fldOff_58 : fldOff Try.prog 87 0 = some 0 := by kernel_rfl
theorem fldOff_59 : fldOff Try.prog 87 1 = some 1 := by kernel_rfl
theorem fldOff_60 : fldOff Try.prog 88 0 = some 0 := by kernel_rfl
theorem fldOff_61 : fldOff Try.prog 88 1 = some 1 := by kernel_rfl
theorem fldOff_62 : fldOff Try.prog 94 0 = some 0 := by kernel_rfl
theorem fldOff_63 : fldOff Try.prog 94 1 = some 1 := by kernel_rfl
theorem fldOff_64 : fldOff Try.prog 94 2 = some 2 := by kernel_rfl
theorem fldOff_65 : fldOff Try.prog 95 0 = some 0 := by kernel_rfl
theorem fldOff_66 : fldOff Try.prog 95 1 = some 1 := by kernel_rfl
theorem fldOff_67 : fldOff Try.prog 95 2 = some 2 := by kernel_rfl
theorem fldOff_68 : fldOff Try.prog 99 0 = some 0 := by kernel_rfl
theorem fldOff_69 : fldOff Try.prog 99 1 = some 1 := by kernel_rfl
theorem fldOff_70 : fldOff Try.prog 100 0 = some 0 := by kernel_rfl
theorem fldOff_71 : fldOff Try.prog 100 1 = some 1 := by kernel_rfl
theorem fldOff_72 : fldOff Try.prog 107 0 = some 0 := by kernel_rfl
theorem fldOff_73 : fldOff Try.prog 107 1 = some 1 := by kernel_rfl
theorem fldOff_74 : fldOff Try.prog 108 0 = some 0 := by kernel_rfl
theorem fldOff_75 : fldOff Try.prog 108 1 = some 1 := by kernel_rfl
theorem fldOff_76 : fldOff Try.prog 112 0 = some 0 := by kernel_rfl
theorem fldOff_77 : fldOff Try.prog 112 1 = some 1 := by kernel_rfl
theorem fldOff_78 : fldOff Try.prog 112 2 = some 2 := by kernel_rfl
theorem fldOff_79 : fldOff Try.prog 112 3 = some 3 := by kernel_rfl
theorem fldOff_80 : fldOff Try.prog 113 0 = some 0 := by kernel_rfl
theorem fldOff_81 : fldOff Try.prog 113 1 = some 1 := by kernel_rfl
theorem fldOff_82 : fldOff Try.prog 113 2 = some 2 := by kernel_rfl
theorem fldOff_83 : fldOff Try.prog 113 3 = some 3 := by kernel_rfl
theorem fldOff_84 : fldOff Try.prog 123 0 = some 0 := by kernel_rfl
theorem fldOff_85 : fldOff Try.prog 123 1 = some 1 := by kernel_rfl
theorem fldOff_86 : fldOff Try.prog 123 2 = some 2 := by kernel_rfl
theorem fldOff_87 : fldOff Try.prog 123 3 = some 3 := by kernel_rfl
theorem fldOff_88 : fldOff Try.prog 123 4 = some 4 := by kernel_rfl
theorem fldOff_89 : fldOff Try.prog 123 5 = some 5 := by kernel_rfl
theorem fldOff_90 : fldOff Try.prog 123 6 = some 6 := by kernel_rfl
theorem fldOff_91 : fldOff Try.prog 123 7 = some 7 := by kernel_rfl
theorem fldOff_92 : fldOff Try.prog 123 8 = some 8 := by kernel_rfl
theorem fldOff_93 : fldOff Try.prog 123 9 = some 9 := by kernel_rfl
theorem fldOff_94 : fldOff Try.prog 123 10 = some 10 := by kernel_rfl
theorem fldOff_95 : fldOff Try.prog 124 0 = some 0 := by kernel_rfl
theorem fldOff_96 : fldOff Try.prog 124 1 = some 1 := by kernel_rfl
theorem fldOff_97 : fldOff Try.prog 124 2 = some 2 := by kernel_rfl
theorem fldOff_98 : fldOff Try.prog 124 3 = some 3 := by kernel_rfl
theorem fldOff_99 : fldOff Try.prog 124 4 = some 4 := by kernel_rfl
theorem fldOff_100 : fldOff Try.prog 124 5 = some 5 := by kernel_rfl
theorem fldOff_101 : fldOff Try.prog 124 6 = some 6 := by kernel_rfl
theorem fldOff_102 : fldOff Try.prog 124 7 = some 7 := by kernel_rfl
theorem fldOff_103 : fldOff Try.prog 124 8 = some 8 := by kernel_rfl
theorem fldOff_104 : fldOff Try.prog 124 9 = some 9 := by kernel_rfl
theorem fldOff_105 : fldOff Try.prog 124 10 = some 10 := by kernel_rfl
theorem fldOffAll : (fldOff Try.prog 7 0 = some 0) ∧ (fldOff Try.prog 7 1 = some 1) ∧ (fldOff Try.prog 7 2 = some 2) ∧ (fldOff Try.prog 7 3 = some 3) ∧ (fldOff Try.prog 8 0 = some 0) ∧ (fldOff Try.prog 8 1 = some 1) ∧ (fldOff Try.prog 8 2 = some 2) ∧ (fldOff Try.prog 8 3 = some 3) ∧ (fldOff Try.prog 13 0 = some 0) ∧ (fldOff Try.prog 13 1 = some 1) ∧ (fldOff Try.prog 14 0 = some 0) ∧ (fldOff Try.prog 14 1 = some 1) ∧ (fldOff Try.prog 18 0 = some 0) ∧ (fldOff Try.prog 19 0 = some 0) ∧ (fldOff Try.prog 28 0 = some 0) ∧ (fldOff Try.prog 28 1 = some 1) ∧ (fldOff Try.prog 28 2 = some 2) ∧ (fldOff Try.prog 28 3 = some 3) ∧ (fldOff Try.prog 29 0 = some 0) ∧ (fldOff Try.prog 29 1 = some 1) ∧ (fldOff Try.prog 29 2 = some 2) ∧ (fldOff Try.prog 29 3 = some 3) ∧ (fldOff Try.prog 55 0 = some 0) ∧ (fldOff Try.prog 55 1 = some 1) ∧ (fldOff Try.prog 55 2 = some 2) ∧ (fldOff Try.prog 55 3 = some 3) ∧ (fldOff Try.prog 55 4 = some 4) ∧ (fldOff Try.prog 56 0 = some 0) ∧ (fldOff Try.prog 56 1 = some 1) ∧ (fldOff Try.prog 56 2 = some 2) ∧ (fldOff Try.prog 56 3 = some 3) ∧ (fldOff Try.prog 56 4 = some 4) ∧ (fldOff Try.prog 57 0 = some 0) ∧ (fldOff Try.prog 57 1 = some 1) ∧ (fldOff Try.prog 57 2 = some 2) ∧ (fldOff Try.prog 57 3 = some 3) ∧ (fldOff Try.prog 57 4 = some 4) ∧ (fldOff Try.prog 57 5 = some 5) ∧ (fldOff Try.prog 58 0 = some 0) ∧ (fldOff Try.prog 58 1 = some 1) ∧ (fldOff Try.prog 58 2 = some 2) ∧ (fldOff Try.prog 58 3 = some 3) ∧ (fldOff Try.prog 58 4 = some 4) ∧ (fldOff Try.prog 58 5 = some 5) ∧ (fldOff Try.prog 60 0 = some 0) ∧ (fldOff Try.prog 60 1 = some 4) ∧ (fldOff Try.prog 60 2 = some 5) ∧ (fldOff Try.prog 60 3 = some 6) ∧ (fldOff Try.prog 61 0 = some 0) ∧ (fldOff Try.prog 61 1 = some 4) ∧ (fldOff Try.prog 61 2 = some 5) ∧ (fldOff Try.prog 61 3 = some 6) ∧ (fldOff Try.prog 72 0 = some 0) ∧ (fldOff Try.prog 72 1 = some 1) ∧ (fldOff Try.prog 72 2 = some 2) ∧ (fldOff Try.prog 73 0 = some 0) ∧ (fldOff Try.prog 73 1 = some 1) ∧ (fldOff Try.prog 73 2 = some 2) ∧ (fldOff Try.prog 87 0 = some 0) ∧ (fldOff Try.prog 87 1 = some 1) ∧ (fldOff Try.prog 88 0 = some 0) ∧ (fldOff Try.prog 88 1 = some 1) ∧ (fldOff Try.prog 94 0 = some 0) ∧ (fldOff Try.prog 94 1 = some 1) ∧ (fldOff Try.prog 94 2 = some 2) ∧ (fldOff Try.prog 95 0 = some 0) ∧ (fldOff Try.prog 95 1 = some 1) ∧ (fldOff Try.prog 95 2 = some 2) ∧ (fldOff Try.prog 99 0 = some 0) ∧ (fldOff Try.prog 99 1 = some 1) ∧ (fldOff Try.prog 100 0 = some 0) ∧ (fldOff Try.prog 100 1 = some 1) ∧ (fldOff Try.prog 107 0 = some 0) ∧ (fldOff Try.prog 107 1 = some 1) ∧ (fldOff Try.prog 108 0 = some 0) ∧ (fldOff Try.prog 108 1 = some 1) ∧ (fldOff Try.prog 112 0 = some 0) ∧ (fldOff Try.prog 112 1 = some 1) ∧ (fldOff Try.prog 112 2 = some 2) ∧ (fldOff Try.prog 112 3 = some 3) ∧ (fldOff Try.prog 113 0 = some 0) ∧ (fldOff Try.prog 113 1 = some 1) ∧ (fldOff Try.prog 113 2 = some 2) ∧ (fldOff Try.prog 113 3 = some 3) ∧ (fldOff Try.prog 123 0 = some 0) ∧ (fldOff Try.prog 123 1 = some 1) ∧ (fldOff Try.prog 123 2 = some 2) ∧ (fldOff Try.prog 123 3 = some 3) ∧ (fldOff Try.prog 123 4 = some 4) ∧ (fldOff Try.prog 123 5 = some 5) ∧ (fldOff Try.prog 123 6 = some 6) ∧ (fldOff Try.prog 123 7 = some 7) ∧ (fldOff Try.prog 123 8 = some 8) ∧ (fldOff Try.prog 123 9 = some 9) ∧ (fldOff Try.prog 123 10 = some 10) ∧ (fldOff Try.prog 124 0 = some 0) ∧ (fldOff Try.prog 124 1 = some 1) ∧ (fldOff Try.prog 124 2 = some 2) ∧ (fldOff Try.prog 124 3 = some 3) ∧ (fldOff Try.prog 124 4 = some 4) ∧ (fldOff Try.prog 124 5 = some 5) ∧ (fldOff Try.prog 124 6 = some 6) ∧ (fldOff Try.prog 124 7 = some 7) ∧ (fldOff Try.prog 124 8 = some 8) ∧ (fldOff Try.prog 124 9 = some 9) ∧ (fldOff Try.prog 124 10 = some 10) := ⟨fldOff_0, fldOff_1, fldOff_2, fldOff_3, fldOff_4, fldOff_5, fldOff_6, fldOff_7, fldOff_8, fldOff_9, fldOff_10, fldOff_11, fldOff_12, fldOff_13, fldOff_14, fldOff_15, fldOff_16, fldOff_17, fldOff_18, fldOff_19, fldOff_20, fldOff_21, fldOff_22, fldOff_23, fldOff_24, fldOff_25, fldOff_26, fldOff_27, fldOff_28, fldOff_29, fldOff_30, fldOff_31, fldOff_32, fldOff_33, fldOff_34, fldOff_35, fldOff_36, fldOff_37, fldOff_38, fldOff_39, fldOff_40, fldOff_41, fldOff_42, fldOff_43, fldOff_44, fldOff_45, fldOff_46, fldOff_47, fldOff_48, fldOff_49, fldOff_50, fldOff_51, fldOff_52, fldOff_53, fldOff_54, fldOff_55, fldOff_56, fldOff_57, fldOff_58, fldOff_59, fldOff_60, fldOff_61, fldOff_62, fldOff_63, fldOff_64, fldOff_65, fldOff_66, fldOff_67, fldOff_68, fldOff_69, fldOff_70, fldOff_71, fldOff_72, fldOff_73, fldOff_74, fldOff_75, fldOff_76, fldOff_77, fldOff_78, fldOff_79, fldOff_80, fldOff_81, fldOff_82, fldOff_83, fldOff_84, fldOff_85, fldOff_86, fldOff_87, fldOff_88, fldOff_89, fldOff_90, fldOff_91, fldOff_92, fldOff_93, fldOff_94, fldOff_95, fldOff_96, fldOff_97, fldOff_98, fldOff_99, fldOff_100, fldOff_101, fldOff_102, fldOff_103, fldOff_104, fldOff_105⟩
theorem fldAt_0 : fldAt Try.prog 7 0 = some (0, some (false, 1)) := by kernel_rfl
theorem fldAt_1 : fldAt Try.prog 7 1 = some (1, some (false, 1)) := by kernel_rfl
theorem fldAt_2 : fldAt Try.prog 7 2 = some (2, some (false, 1)) := by kernel_rfl
theorem fldAt_3 : fldAt Try.prog 7 3 = some (3, some (false, 1)) := by kernel_rfl
theorem fldAt_4 : fldAt Try.prog 8 0 = some (0, some (false, 1)) := by kernel_rfl
theorem fldAt_5 : fldAt Try.prog 8 1 = some (1, some (false, 1)) := by kernel_rfl
theorem fldAt_6 : fldAt Try.prog 8 2 = some (2, some (false, 1)) := by kernel_rfl
theorem fldAt_7 : fldAt Try.prog 8 3 = some (3, some (false, 1)) := by kernel_rfl
theorem fldAt_8 : fldAt Try.prog 13 0 = some (0, some (false, 1)) := by kernel_rfl
theorem fldAt_9 : fldAt Try.prog 13 1 = some (1, some (false, 1)) := by kernel_rfl
theorem fldAt_10 : fldAt Try.prog 14 0 = some (0, some (false, 1)) := by kernel_rfl
theorem fldAt_11 : fldAt Try.prog 14 1 = some (1, some (false, 1)) := by kernel_rfl
theorem fldAt_12 : fldAt Try.prog 18 0 = some (0, some (false, 1)) := by kernel_rfl
theorem fldAt_13 : fldAt Try.prog 19 0 = some (0, some (false, 1)) := by kernel_rfl
theorem fldAt_14 : fldAt Try.prog 28 0 = some (0, some (false, 1)) := by kernel_rfl
theorem fldAt_15 : fldAt Try.prog 28 1 = some (1, some (false, 1)) := by kernel_rfl
theorem fldAt_16 : fldAt Try.prog 28 2 = some (2, some (false, 1)) := by kernel_rfl
theorem fldAt_17 : fldAt Try.prog 28 3 = some (3, some (false, 1)) := by kernel_rfl
theorem fldAt_18 : fldAt Try.prog 29 0 = some (0, some (false, 1)) := by kernel_rfl
theorem fldAt_19 : fldAt Try.prog 29 1 = some (1, some (false, 1)) := by kernel_rfl
theorem fldAt_20 : fldAt Try.prog 29 2 = some (2, some (false, 1)) := by kernel_rfl
theorem fldAt_21 : fldAt Try.prog 29 3 = some (3, some (false, 1)) := by kernel_rfl
theorem fldAt_22 : fldAt Try.prog 55 0 = some (0, some (false, 1)) := by kernel_rfl
theorem fldAt_23 : fldAt Try.prog 55 1 = some (1, some (false, 1)) := by kernel_rfl
theorem fldAt_24 : fldAt Try.prog 55 2 = some (2, some (false, 1)) := by kernel_rfl
theorem fldAt_25 : fldAt Try.prog 55 3 = some (3, some (false, 1)) := by kernel_rfl
theorem fldAt_26 : fldAt Try.prog 55 4 = some (4, some (false, 1)) := by kernel_rfl
theorem fldAt_27 : fldAt Try.prog 56 0 = some (0, some (false, 1)) := by kernel_rfl
theorem fldAt_28 : fldAt Try.prog 56 1 = some (1, some (false, 1)) := by kernel_rfl
theorem fldAt_29 : fldAt Try.prog 56 2 = some (2, some (false, 1)) := by kernel_rfl
theorem fldAt_30 : fldAt Try.prog 56 3 = some (3, some (false, 1)) := by kernel_rfl
theorem fldAt_31 : fldAt Try.prog 56 4 = some (4, some (false, 1)) := by kernel_rfl
theorem fldAt_32 : fldAt Try.prog 57 0 = some (0, some (false, 1)) := by kernel_rfl
theorem fldAt_33 : fldAt Try.prog 57 1 = some (1, some (false, 1)) := by kernel_rfl
theorem fldAt_34 : fldAt Try.prog 57 2 = some (2, some (false, 1)) := by kernel_rfl
theorem fldAt_35 : fldAt Try.prog 57 3 = some (3, some (false, 1)) := by kernel_rfl
theorem fldAt_36 : fldAt Try.prog 57 4 = some (4, some (false, 1)) := by kernel_rfl
theorem fldAt_37 : fldAt Try.prog 57 5 = some (5, some (false, 1)) := by kernel_rfl
theorem fldAt_38 : fldAt Try.prog 58 0 = some (0, some (false, 1)) := by kernel_rfl
theorem fldAt_39 : fldAt Try.prog 58 1 = some (1, some (false, 1)) := by kernel_rfl
theorem fldAt_40 : fldAt Try.prog 58 2 = some (2, some (false, 1)) := by kernel_rfl
theorem fldAt_41 : fldAt Try.prog 58 3 = some (3, some (false, 1)) := by kernel_rfl
theorem fldAt_42 : fldAt Try.prog 58 4 = some (4, some (false, 1)) := by kernel_rfl
theorem fldAt_43 : fldAt Try.prog 58 5 = some (5, some (false, 1)) := by kernel_rfl
theorem fldAt_44 : fldAt Try.prog 60 0 = some (0, some (true, 4)) := by kernel_rfl
theorem fldAt_45 : fldAt Try.prog 60 1 = some (4, some (false, 1)) := by kernel_rfl
theorem fldAt_46 : fldAt Try.prog 60 2 = some (5, some (false, 1)) := by kernel_rfl
theorem fldAt_47 : fldAt Try.prog 60 3 = some (6, some (false, 1)) := by kernel_rfl
theorem fldAt_48 : fldAt Try.prog 61 0 = some (0, some (true, 4)) := by kernel_rfl
theorem fldAt_49 : fldAt Try.prog 61 1 = some (4, some (false, 1)) := by kernel_rfl
theorem fldAt_50 : fldAt Try.prog 61 2 = some (5, some (false, 1)) := by kernel_rfl
theorem fldAt_51 : fldAt Try.prog 61 3 = some (6, some (false, 1)) := by kernel_rfl
theorem fldAt_52 : fldAt Try.prog 72 0 = some (0, some (false, 1)) := by kernel_rfl
theorem fldAt_53 : fldAt Try.prog 72 1 = some (1, some (false, 1)) := by kernel_rfl
theorem fldAt_54 : fldAt Try.prog 72 2 = some (2, some (false, 1)) := by kernel_rfl
theorem fldAt_55 : fldAt Try.prog 73 0 = some (0, some (false, 1)) := by kernel_rfl
theorem fldAt_56 : fldAt Try.prog 73 1 = some (1, some (false, 1)) := by kernel_rfl
theorem fldAt_57 : fldAt Try.prog 73 2 = some (2, some (false, 1)) := by kernel_rfl
theorem fldAt_58 : fldAt Try.prog 87 0 = some (0, some (false, 1)) := by kernel_rfl
theorem fldAt_59 : fldAt Try.prog 87 1 = some (1, some (false, 1)) := by kernel_rfl
theorem fldAt_60 : fldAt Try.prog 88 0 = some (0, some (false, 1)) := by kernel_rfl
theorem fldAt_61 : fldAt Try.prog 88 1 = some (1, some (false, 1)) := by kernel_rfl
theorem fldAt_62 : fldAt Try.prog 94 0 = some (0, some (false, 1)) := by kernel_rfl
theorem fldAt_63 : fldAt Try.prog 94 1 = some (1, some (false, 1)) := by kernel_rfl
theorem fldAt_64 : fldAt Try.prog 94 2 = some (2, some (false, 1)) := by kernel_rfl
theorem fldAt_65 : fldAt Try.prog 95 0 = some (0, some (false, 1)) := by kernel_rfl
theorem fldAt_66 : fldAt Try.prog 95 1 = some (1, some (false, 1)) := by kernel_rfl
theorem fldAt_67 : fldAt Try.prog 95 2 = some (2, some (false, 1)) := by kernel_rfl
theorem fldAt_68 : fldAt Try.prog 99 0 = some (0, some (false, 1)) := by kernel_rfl
theorem fldAt_69 : fldAt Try.prog 99 1 = some (1, some (false, 1)) := by kernel_rfl
theorem fldAt_70 : fldAt Try.prog 100 0 = some (0, some (false, 1)) := by kernel_rfl
theorem fldAt_71 : fldAt Try.prog 100 1 = some (1, some (false, 1)) := by kernel_rfl
theorem fldAt_72 : fldAt Try.prog 107 0 = some (0, some (false, 1)) := by kernel_rfl
theorem fldAt_73 : fldAt Try.prog 107 1 = some (1, some (false, 1)) := by kernel_rfl
theorem fldAt_74 : fldAt Try.prog 108 0 = some (0, some (false, 1)) := by kernel_rfl
theorem fldAt_75 : fldAt Try.prog 108 1 = some (1, some (false, 1)) := by kernel_rfl
theorem fldAt_76 : fldAt Try.prog 112 0 = some (0, some (false, 1)) := by kernel_rfl
theorem fldAt_77 : fldAt Try.prog 112 1 = some (1, some (false, 1)) := by kernel_rfl
theorem fldAt_78 : fldAt Try.prog 112 2 = some (2, some (false, 1)) := by kernel_rfl
theorem fldAt_79 : fldAt Try.prog 112 3 = some (3, some (false, 1)) := by kernel_rfl
theorem fldAt_80 : fldAt Try.prog 113 0 = some (0, some (false, 1)) := by kernel_rfl
theorem fldAt_81 : fldAt Try.prog 113 1 = some (1, some (false, 1)) := by kernel_rfl
theorem fldAt_82 : fldAt Try.prog 113 2 = some (2, some (false, 1)) := by kernel_rfl
theorem fldAt_83 : fldAt Try.prog 113 3 = some (3, some (false, 1)) := by kernel_rfl
theorem fldAt_84 : fldAt Try.prog 115 0 = some (0, some (true, 0)) := by kernel_rfl
theorem fldAt_85 : fldAt Try.prog 116 0 = some (0, some (true, 0)) := by kernel_rfl
theorem fldAt_86 : fldAt Try.prog 123 0 = some (0, some (false, 1)) := by kernel_rfl
theorem fldAt_87 : fldAt Try.prog 123 1 = some (1, some (false, 1)) := by kernel_rfl
theorem fldAt_88 : fldAt Try.prog 123 2 = some (2, some (false, 1)) := by kernel_rfl
theorem fldAt_89 : fldAt Try.prog 123 3 = some (3, some (false, 1)) := by kernel_rfl
theorem fldAt_90 : fldAt Try.prog 123 4 = some (4, some (false, 1)) := by kernel_rfl
theorem fldAt_91 : fldAt Try.prog 123 5 = some (5, some (false, 1)) := by kernel_rfl
theorem fldAt_92 : fldAt Try.prog 123 6 = some (6, some (false, 1)) := by kernel_rfl
theorem fldAt_93 : fldAt Try.prog 123 7 = some (7, some (false, 1)) := by kernel_rfl
theorem fldAt_94 : fldAt Try.prog 123 8 = some (8, some (false, 1)) := by kernel_rfl
theorem fldAt_95 : fldAt Try.prog 123 9 = some (9, some (false, 1)) := by kernel_rfl
theorem fldAt_96 : fldAt Try.prog 123 10 = some (10, some (false, 1)) := by kernel_rfl
theorem fldAt_97 : fldAt Try.prog 124 0 = some (0, some (false, 1)) := by kernel_rfl
theorem fldAt_98 : fldAt Try.prog 124 1 = some (1, some (false, 1)) := by kernel_rfl
theorem fldAt_99 : fldAt Try.prog 124 2 = some (2, some (false, 1)) := by kernel_rfl
theorem fldAt_100 : fldAt Try.prog 124 3 = some (3, some (false, 1)) := by kernel_rfl
theorem fldAt_101 : fldAt Try.prog 124 4 = some (4, some (false, 1)) := by kernel_rfl
theorem fldAt_102 : fldAt Try.prog 124 5 = some (5, some (false, 1)) := by kernel_rfl
theorem fldAt_103 : fldAt Try.prog 124 6 = some (6, some (false, 1)) := by kernel_rfl
theorem fldAt_104 : fldAt Try.prog 124 7 = some (7, some (false, 1)) := by kernel_rfl
theorem fldAt_105 : fldAt Try.prog 124 8 = some (8, some (false, 1)) := by kernel_rfl
theorem fldAt_106 : fldAt Try.prog 124 9 = some (9, some (false, 1)) := by kernel_rfl
theorem fldAt_107 : fldAt Try.prog 124 10 = some (10, some (false, 1)) := by kernel_rfl
theorem fldAtAll : (fldAt Try.prog 7 0 = some (0, some (false, 1))) ∧ (fldAt Try.prog 7 1 = some (1, some (false, 1))) ∧ (fldAt Try.prog 7 2 = some (2, some (false, 1))) ∧ (fldAt Try.prog 7 3 = some (3, some (false, 1))) ∧ (fldAt Try.prog 8 0 = some (0, some (false, 1))) ∧ (fldAt Try.prog 8 1 = some (1, some (false, 1))) ∧ (fldAt Try.prog 8 2 = some (2, some (false, 1))) ∧ (fldAt Try.prog 8 3 = some (3, some (false, 1))) ∧ (fldAt Try.prog 13 0 = some (0, some (false, 1))) ∧ (fldAt Try.prog 13 1 = some (1, some (false, 1))) ∧ (fldAt Try.prog 14 0 = some (0, some (false, 1))) ∧ (fldAt Try.prog 14 1 = some (1, some (false, 1))) ∧ (fldAt Try.prog 18 0 = some (0, some (false, 1))) ∧ (fldAt Try.prog 19 0 = some (0, some (false, 1))) ∧ (fldAt Try.prog 28 0 = some (0, some (false, 1))) ∧ (fldAt Try.prog 28 1 = some (1, some (false, 1))) ∧ (fldAt Try.prog 28 2 = some (2, some (false, 1))) ∧ (fldAt Try.prog 28 3 = some (3, some (false, 1))) ∧ (fldAt Try.prog 29 0 = some (0, some (false, 1))) ∧ (fldAt Try.prog 29 1 = some (1, some (false, 1))) ∧ (fldAt Try.prog 29 2 = some (2, some (false, 1))) ∧ (fldAt Try.prog 29 3 = some (3, some (false, 1))) ∧ (fldAt Try.prog 55 0 = some (0, some (false, 1))) ∧ (fldAt Try.prog 55 1 = some (1, some (false, 1))) ∧ (fldAt Try.prog 55 2 = some (2, some (false, 1))) ∧ (fldAt Try.prog 55 3 = some (3, some (false, 1))) ∧ (fldAt Try.prog 55 4 = some (4, some (false, 1))) ∧ (fldAt Try.prog 56 0 = some (0, some (false, 1))) ∧ (fldAt Try.prog 56 1 = some (1, some (false, 1))) ∧ (fldAt Try.prog 56 2 = some (2, some (false, 1))) ∧ (fldAt Try.prog 56 3 = some (3, some (false, 1))) ∧ (fldAt Try.prog 56 4 = some (4, some (false, 1))) ∧ (fldAt Try.prog 57 0 = some (0, some (false, 1))) ∧ (fldAt Try.prog 57 1 = some (1, some (false, 1))) ∧ (fldAt Try.prog 57 2 = some (2, some (false, 1))) ∧ (fldAt Try.prog 57 3 = some (3, some (false, 1))) ∧ (fldAt Try.prog 57 4 = some (4, some (false, 1))) ∧ (fldAt Try.prog 57 5 = some (5, some (false, 1))) ∧ (fldAt Try.prog 58 0 = some (0, some (false, 1))) ∧ (fldAt Try.prog 58 1 = some (1, some (false, 1))) ∧ (fldAt Try.prog 58 2 = some (2, some (false, 1))) ∧ (fldAt Try.prog 58 3 = some (3, some (false, 1))) ∧ (fldAt Try.prog 58 4 = some (4, some (false, 1))) ∧ (fldAt Try.prog 58 5 = some (5, some (false, 1))) ∧ (fldAt Try.prog 60 0 = some (0, some (true, 4))) ∧ (fldAt Try.prog 60 1 = some (4, some (false, 1))) ∧ (fldAt Try.prog 60 2 = some (5, some (false, 1))) ∧ (fldAt Try.prog 60 3 = some (6, some (false, 1))) ∧ (fldAt Try.prog 61 0 = some (0, some (true, 4))) ∧ (fldAt Try.prog 61 1 = some (4, some (false, 1))) ∧ (fldAt Try.prog 61 2 = some (5, some (false, 1))) ∧ (fldAt Try.prog 61 3 = some (6, some (false, 1))) ∧ (fldAt Try.prog 72 0 = some (0, some (false, 1))) ∧ (fldAt Try.prog 72 1 = some (1, some (false, 1))) ∧ (fldAt Try.prog 72 2 = some (2, some (false, 1))) ∧ (fldAt Try.prog 73 0 = some (0, some (false, 1))) ∧ (fldAt Try.prog 73 1 = some (1, some (false, 1))) ∧ (fldAt Try.prog 73 2 = some (2, some (false, 1))) ∧ (fldAt Try.prog 87 0 = some (0, some (false, 1))) ∧ (fldAt Try.prog 87 1 = some (1, some (false, 1))) ∧ (fldAt Try.prog 88 0 = some (0, some (false, 1))) ∧ (fldAt Try.prog 88 1 = some (1, some (false, 1))) ∧ (fldAt Try.prog 94 0 = some (0, some (false, 1))) ∧ (fldAt Try.prog 94 1 = some (1, some (false, 1))) ∧ (fldAt Try.prog 94 2 = some (2, some (false, 1))) ∧ (fldAt Try.prog 95 0 = some (0, some (false, 1))) ∧ (fldAt Try.prog 95 1 = some (1, some (false, 1))) ∧ (fldAt Try.prog 95 2 = some (2, some (false, 1))) ∧ (fldAt Try.prog 99 0 = some (0, some (false, 1))) ∧ (fldAt Try.prog 99 1 = some (1, some (false, 1))) ∧ (fldAt Try.prog 100 0 = some (0, some (false, 1))) ∧ (fldAt Try.prog 100 1 = some (1, some (false, 1))) ∧ (fldAt Try.prog 107 0 = some (0, some (false, 1))) ∧ (fldAt Try.prog 107 1 = some (1, some (false, 1))) ∧ (fldAt Try.prog 108 0 = some (0, some (false, 1))) ∧ (fldAt Try.prog 108 1 = some (1, some (false, 1))) ∧ (fldAt Try.prog 112 0 = some (0, some (false, 1))) ∧ (fldAt Try.prog 112 1 = some (1, some (false, 1))) ∧ (fldAt Try.prog 112 2 = some (2, some (false, 1))) ∧ (fldAt Try.prog 112 3 = some (3, some (false, 1))) ∧ (fldAt Try.prog 113 0 = some (0, some (false, 1))) ∧ (fldAt Try.prog 113 1 = some (1, some (false, 1))) ∧ (fldAt Try.prog 113 2 = some (2, some (false, 1))) ∧ (fldAt Try.prog 113 3 = some (3, some (false, 1))) ∧ (fldAt Try.prog 115 0 = some (0, some (true, 0))) ∧ (fldAt Try.prog 116 0 = some (0, some (true, 0))) ∧ (fldAt Try.prog 123 0 = some (0, some (false, 1))) ∧ (fldAt Try.prog 123 1 = some (1, some (false, 1))) ∧ (fldAt Try.prog 123 2 = some (2, some (false, 1))) ∧ (fldAt Try.prog 123 3 = some (3, some (false, 1))) ∧ (fldAt Try.prog 123 4 = some (4, some (false, 1))) ∧ (fldAt Try.prog 123 5 = some (5, some (false, 1))) ∧ (fldAt Try.prog 123 6 = some (6, some (false, 1))) ∧ (fldAt Try.prog 123 7 = some (7, some (false, 1))) ∧ (fldAt Try.prog 123 8 = some (8, some (false, 1))) ∧ (fldAt Try.prog 123 9 = some (9, some (false, 1))) ∧ (fldAt Try.prog 123 10 = some (10, some (false, 1))) ∧ (fldAt Try.prog 124 0 = some (0, some (false, 1))) ∧ (fldAt Try.prog 124 1 = some (1, some (false, 1))) ∧ (fldAt Try.prog 124 2 = some (2, some (false, 1))) ∧ (fldAt Try.prog 124 3 = some (3, some (false, 1))) ∧ (fldAt Try.prog 124 4 = some (4, some (false, 1))) ∧ (fldAt Try.prog 124 5 = some (5, some (false, 1))) ∧ (fldAt Try.prog 124 6 = some (6, some (false, 1))) ∧ (fldAt Try.prog 124 7 = some (7, some (false, 1))) ∧ (fldAt Try.prog 124 8 = some (8, some (false, 1))) ∧ (fldAt Try.prog 124 9 = some (9, some (false, 1))) ∧ (fldAt Try.prog 124 10 = some (10, some (false, 1))) := ⟨fldAt_0, fldAt_1, fldAt_2, fldAt_3, fldAt_4, fldAt_5, fldAt_6, fldAt_7, fldAt_8, fldAt_9, fldAt_10, fldAt_11, fldAt_12, fldAt_13, fldAt_14, fldAt_15, fldAt_16, fldAt_17, fldAt_18, fldAt_19, fldAt_20, fldAt_21, fldAt_22, fldAt_23, fldAt_24, fldAt_25, fldAt_26, fldAt_27, fldAt_28, fldAt_29, fldAt_30, fldAt_31, fldAt_32, fldAt_33, fldAt_34, fldAt_35, fldAt_36, fldAt_37, fldAt_38, fldAt_39, fldAt_40, fldAt_41, fldAt_42, fldAt_43, fldAt_44, fldAt_45, fldAt_46, fldAt_47, fldAt_48, fldAt_49, fldAt_50, fldAt_51, fldAt_52, fldAt_53, fldAt_54, fldAt_55, fldAt_56, fldAt_57, fldAt_58, fldAt_59, fldAt_60, fldAt_61, fldAt_62, fldAt_63, fldAt_64, fldAt_65, fldAt_66, fldAt_67, fldAt_68, fldAt_69, fldAt_70, fldAt_71, fldAt_72, fldAt_73, fldAt_74, fldAt_75, fldAt_76, fldAt_77, fldAt_78, fldAt_79, fldAt_80, fldAt_81, fldAt_82, fldAt_83, fldAt_84, fldAt_85, fldAt_86, fldAt_87, fldAt_88, fldAt_89, fldAt_90, fldAt_91, fldAt_92, fldAt_93, fldAt_94, fldAt_95, fldAt_96, fldAt_97, fldAt_98, fldAt_99, fldAt_100, fldAt_101, fldAt_102, fldAt_103, fldAt_104, fldAt_105, fldAt_106, fldAt_107⟩
theorem elemSz_0 : elemSz Try.prog 2 = none := by kernel_rfl
theorem elemSz_1 : elemSz Try.prog 3 = none := by kernel_rfl
theorem elemSz_2 : elemSz Try.prog 4 = none := by kernel_rfl
theorem elemSz_3 : elemSz Try.prog 5 = none := by kernel_rfl
theorem elemSz_4 : elemSz Try.prog 6 = none := by kernel_rfl
theorem elemSz_5 : elemSz Try.prog 7 = none := by kernel_rfl
theorem elemSz_6 : elemSz Try.prog 8 = none := by kernel_rfl
theorem elemSz_7 : elemSz Try.prog 9 = none := by kernel_rfl
theorem elemSz_8 : elemSz Try.prog 10 = none := by kernel_rfl
theorem elemSz_9 : elemSz Try.prog 11 = none := by kernel_rfl
theorem elemSz_10 : elemSz Try.prog 12 = none := by kernel_rfl
theorem elemSz_11 : elemSz Try.prog 13 = none := by kernel_rfl
theorem elemSz_12 : elemSz Try.prog 14 = none := by kernel_rfl
theorem elemSz_13 : elemSz Try.prog 15 = none := by kernel_rfl
theorem elemSz_14 : elemSz Try.prog 16 = none := by kernel_rfl
theorem elemSz_15 : elemSz Try.prog 17 = none := by kernel_rfl
theorem elemSz_16 : elemSz Try.prog 18 = none := by kernel_rfl
theorem elemSz_17 : elemSz Try.prog 19 = none := by kernel_rfl
theorem elemSz_18 : elemSz Try.prog 21 = none := by kernel_rfl
theorem elemSz_19 : elemSz Try.prog 22 = none := by kernel_rfl
theorem elemSz_20 : elemSz Try.prog 25 = some 1 := by kernel_rfl
theorem elemSz_21 : elemSz Try.prog 26 = some 5 := by kernel_rfl
theorem elemSz_22 : elemSz Try.prog 27 = some 6 := by kernel_rfl
theorem elemSz_23 : elemSz Try.prog 28 = none := by kernel_rfl
theorem elemSz_24 : elemSz Try.prog 29 = none := by kernel_rfl
theorem elemSz_25 : elemSz Try.prog 31 = none := by kernel_rfl
theorem elemSz_26 : elemSz Try.prog 34 = some 1 := by kernel_rfl
theorem elemSz_27 : elemSz Try.prog 37 = some 4 := by kernel_rfl
theorem elemSz_28 : elemSz Try.prog 41 = some 1 := by kernel_rfl
theorem elemSz_29 : elemSz Try.prog 42 = none := by kernel_rfl
theorem elemSz_30 : elemSz Try.prog 51 = none := by kernel_rfl
theorem elemSz_31 : elemSz Try.prog 53 = none := by kernel_rfl
theorem elemSz_32 : elemSz Try.prog 55 = none := by kernel_rfl
theorem elemSz_33 : elemSz Try.prog 56 = none := by kernel_rfl
theorem elemSz_34 : elemSz Try.prog 57 = none := by kernel_rfl
theorem elemSz_35 : elemSz Try.prog 58 = none := by kernel_rfl
theorem elemSz_36 : elemSz Try.prog 59 = some 1 := by kernel_rfl
theorem elemSz_37 : elemSz Try.prog 60 = none := by kernel_rfl
theorem elemSz_38 : elemSz Try.prog 61 = none := by kernel_rfl
theorem elemSz_39 : elemSz Try.prog 62 = none := by kernel_rfl
theorem elemSz_40 : elemSz Try.prog 64 = none := by kernel_rfl
theorem elemSz_41 : elemSz Try.prog 66 = none := by kernel_rfl
theorem elemSz_42 : elemSz Try.prog 67 = none := by kernel_rfl
theorem elemSz_43 : elemSz Try.prog 70 = none := by kernel_rfl
theorem elemSz_44 : elemSz Try.prog 71 = none := by kernel_rfl
theorem elemSz_45 : elemSz Try.prog 72 = none := by kernel_rfl
theorem elemSz_46 : elemSz Try.prog 73 = none := by kernel_rfl
theorem elemSz_47 : elemSz Try.prog 79 = none := by kernel_rfl
theorem elemSz_48 : elemSz Try.prog 87 = none := by kernel_rfl
theorem elemSz_49 : elemSz Try.prog 88 = none := by kernel_rfl
theorem elemSz_50 : elemSz Try.prog 93 = none := by kernel_rfl
theorem elemSz_51 : elemSz Try.prog 94 = none := by kernel_rfl
theorem elemSz_52 : elemSz Try.prog 95 = none := by kernel_rfl
theorem elemSz_53 : elemSz Try.prog 97 = some 1 := by kernel_rfl
theorem elemSz_54 : elemSz Try.prog 99 = none := by kernel_rfl
theorem elemSz_55 : elemSz Try.prog 100 = none := by kernel_rfl
theorem elemSz_56 : elemSz Try.prog 103 = none := by kernel_rfl
theorem elemSz_57 : elemSz Try.prog 107 = none := by kernel_rfl
theorem elemSz_58 : elemSz Try.prog 108 = none := by kernel_rfl
theorem elemSz_59 : elemSz Try.prog 112 = none := by kernel_rfl
theorem elemSz_60 : elemSz Try.prog 113 = none := by kernel_rfl
theorem elemSz_61 : elemSz Try.prog 114 = none := by kernel_rfl
theorem elemSz_62 : elemSz Try.prog 115 = none := by kernel_rfl
theorem elemSz_63 : elemSz Try.prog 116 = none := by kernel_rfl
theorem elemSz_64 : elemSz Try.prog 117 = none := by kernel_rfl
theorem elemSz_65 : elemSz Try.prog 118 = none := by kernel_rfl
theorem elemSz_66 : elemSz Try.prog 120 = none := by kernel_rfl
theorem elemSz_67 : elemSz Try.prog 121 = none := by kernel_rfl
theorem elemSz_68 : elemSz Try.prog 122 = none := by kernel_rfl
theorem elemSz_69 : elemSz Try.prog 123 = none := by kernel_rfl
theorem elemSz_70 : elemSz Try.prog 124 = none := by kernel_rfl
theorem elemSz_71 : elemSz Try.prog 125 = none := by kernel_rfl
theorem elemSzAll : (elemSz Try.prog 2 = none) ∧ (elemSz Try.prog 3 = none) ∧ (elemSz Try.prog 4 = none) ∧ (elemSz Try.prog 5 = none) ∧ (elemSz Try.prog 6 = none) ∧ (elemSz Try.prog 7 = none) ∧ (elemSz Try.prog 8 = none) ∧ (elemSz Try.prog 9 = none) ∧ (elemSz Try.prog 10 = none) ∧ (elemSz Try.prog 11 = none) ∧ (elemSz Try.prog 12 = none) ∧ (elemSz Try.prog 13 = none) ∧ (elemSz Try.prog 14 = none) ∧ (elemSz Try.prog 15 = none) ∧ (elemSz Try.prog 16 = none) ∧ (elemSz Try.prog 17 = none) ∧ (elemSz Try.prog 18 = none) ∧ (elemSz Try.prog 19 = none) ∧ (elemSz Try.prog 21 = none) ∧ (elemSz Try.prog 22 = none) ∧ (elemSz Try.prog 25 = some 1) ∧ (elemSz Try.prog 26 = some 5) ∧ (elemSz Try.prog 27 = some 6) ∧ (elemSz Try.prog 28 = none) ∧ (elemSz Try.prog 29 = none) ∧ (elemSz Try.prog 31 = none) ∧ (elemSz Try.prog 34 = some 1) ∧ (elemSz Try.prog 37 = some 4) ∧ (elemSz Try.prog 41 = some 1) ∧ (elemSz Try.prog 42 = none) ∧ (elemSz Try.prog 51 = none) ∧ (elemSz Try.prog 53 = none) ∧ (elemSz Try.prog 55 = none) ∧ (elemSz Try.prog 56 = none) ∧ (elemSz Try.prog 57 = none) ∧ (elemSz Try.prog 58 = none) ∧ (elemSz Try.prog 59 = some 1) ∧ (elemSz Try.prog 60 = none) ∧ (elemSz Try.prog 61 = none) ∧ (elemSz Try.prog 62 = none) ∧ (elemSz Try.prog 64 = none) ∧ (elemSz Try.prog 66 = none) ∧ (elemSz Try.prog 67 = none) ∧ (elemSz Try.prog 70 = none) ∧ (elemSz Try.prog 71 = none) ∧ (elemSz Try.prog 72 = none) ∧ (elemSz Try.prog 73 = none) ∧ (elemSz Try.prog 79 = none) ∧ (elemSz Try.prog 87 = none) ∧ (elemSz Try.prog 88 = none) ∧ (elemSz Try.prog 93 = none) ∧ (elemSz Try.prog 94 = none) ∧ (elemSz Try.prog 95 = none) ∧ (elemSz Try.prog 97 = some 1) ∧ (elemSz Try.prog 99 = none) ∧ (elemSz Try.prog 100 = none) ∧ (elemSz Try.prog 103 = none) ∧ (elemSz Try.prog 107 = none) ∧ (elemSz Try.prog 108 = none) ∧ (elemSz Try.prog 112 = none) ∧ (elemSz Try.prog 113 = none) ∧ (elemSz Try.prog 114 = none) ∧ (elemSz Try.prog 115 = none) ∧ (elemSz Try.prog 116 = none) ∧ (elemSz Try.prog 117 = none) ∧ (elemSz Try.prog 118 = none) ∧ (elemSz Try.prog 120 = none) ∧ (elemSz Try.prog 121 = none) ∧ (elemSz Try.prog 122 = none) ∧ (elemSz Try.prog 123 = none) ∧ (elemSz Try.prog 124 = none) ∧ (elemSz Try.prog 125 = none) := ⟨elemSz_0, elemSz_1, elemSz_2, elemSz_3, elemSz_4, elemSz_5, elemSz_6, elemSz_7, elemSz_8, elemSz_9, elemSz_10, elemSz_11, elemSz_12, elemSz_13, elemSz_14, elemSz_15, elemSz_16, elemSz_17, elemSz_18, elemSz_19, elemSz_20, elemSz_21, elemSz_22, elemSz_23, elemSz_24, elemSz_25, elemSz_26, elemSz_27, elemSz_28, elemSz_29, elemSz_30, elemSz_31, elemSz_32, elemSz_33, elemSz_34, elemSz_35, elemSz_36, elemSz_37, elemSz_38, elemSz_39, elemSz_40, elemSz_41, elemSz_42, elemSz_43, elemSz_44, elemSz_45, elemSz_46, elemSz_47, elemSz_48, elemSz_49, elemSz_50, elemSz_51, elemSz_52, elemSz_53, elemSz_54, elemSz_55, elemSz_56, elemSz_57, elemSz_58, elemSz_59, elemSz_60, elemSz_61, elemSz_62, elemSz_63, elemSz_64, elemSz_65, elemSz_66, elemSz_67, elemSz_68, elemSz_69, elemSz_70, elemSz_71⟩
theorem arrOf_0 : arrOf Try.prog 51 = some (4, 1) := by kernel_rfl
theorem arrOf_1 : arrOf Try.prog 53 = some (2, 1) := by kernel_rfl
theorem arrOf_2 : arrOf Try.prog 114 = some (0, 1) := by kernel_rfl
theorem arrOfAll : (arrOf Try.prog 51 = some (4, 1)) ∧ (arrOf Try.prog 53 = some (2, 1)) ∧ (arrOf Try.prog 114 = some (0, 1)) := ⟨arrOf_0, arrOf_1, arrOf_2⟩
theorem elemT_0 : elemT Try.prog 51 = some (4, 1, some (false, 1)) := by kernel_rfl
theorem elemT_1 : elemT Try.prog 53 = some (2, 1, some (false, 1)) := by kernel_rfl
theorem elemT_2 : elemT Try.prog 114 = some (0, 1, some (false, 1)) := by kernel_rfl
theorem elemTAll : (elemT Try.prog 51 = some (4, 1, some (false, 1))) ∧ (elemT Try.prog 53 = some (2, 1, some (false, 1))) ∧ (elemT Try.prog 114 = some (0, 1, some (false, 1))) := ⟨elemT_0, elemT_1, elemT_2⟩
theorem mkInfo_0 : mkInfo Try.prog 25 = some (1, 16, [(.f (.v (.string ⟨#[]⟩)))]) := by kernel_rfl
theorem mkInfo_1 : mkInfo Try.prog 26 = some (5, 48, [(.f (.v (.string ⟨#[]⟩))), (.f (.v (.int .i64 0))), (.f (.v (.int .i64 0))), (.f (.v (.int .i64 0))), (.f (.v (.int .i64 0)))]) := by kernel_rfl
theorem mkInfo_2 : mkInfo Try.prog 27 = some (6, 48, [(.f (.v (.int .i64 0))), (.f (.v (.int .i64 0))), (.f (.v (.int .i64 0))), (.f (.v (.int .i64 0))), (.f (.v (.int .i64 0))), (.f (.v (.int .i64 0)))]) := by kernel_rfl
theorem mkInfo_3 : mkInfo Try.prog 34 = some (1, 8, [(.f (.v (.int .i64 0)))]) := by kernel_rfl
theorem mkInfo_4 : mkInfo Try.prog 37 = some (4, 96, [(.f .nils), (.f .nils), (.f .nils), (.f .nils)]) := by kernel_rfl
theorem mkInfo_5 : mkInfo Try.prog 41 = some (1, 1, [(.f (.v (.int .u8 0)))]) := by kernel_rfl
theorem mkInfo_6 : mkInfo Try.prog 59 = some (1, 24, [(.f .nils)]) := by kernel_rfl
theorem mkInfo_7 : mkInfo Try.prog 97 = some (1, 24, [(.f .nils)]) := by kernel_rfl
theorem mkInfoAll : (mkInfo Try.prog 25 = some (1, 16, [(.f (.v (.string ⟨#[]⟩)))])) ∧ (mkInfo Try.prog 26 = some (5, 48, [(.f (.v (.string ⟨#[]⟩))), (.f (.v (.int .i64 0))), (.f (.v (.int .i64 0))), (.f (.v (.int .i64 0))), (.f (.v (.int .i64 0)))])) ∧ (mkInfo Try.prog 27 = some (6, 48, [(.f (.v (.int .i64 0))), (.f (.v (.int .i64 0))), (.f (.v (.int .i64 0))), (.f (.v (.int .i64 0))), (.f (.v (.int .i64 0))), (.f (.v (.int .i64 0)))])) ∧ (mkInfo Try.prog 34 = some (1, 8, [(.f (.v (.int .i64 0)))])) ∧ (mkInfo Try.prog 37 = some (4, 96, [(.f .nils), (.f .nils), (.f .nils), (.f .nils)])) ∧ (mkInfo Try.prog 41 = some (1, 1, [(.f (.v (.int .u8 0)))])) ∧ (mkInfo Try.prog 59 = some (1, 24, [(.f .nils)])) ∧ (mkInfo Try.prog 97 = some (1, 24, [(.f .nils)])) := ⟨mkInfo_0, mkInfo_1, mkInfo_2, mkInfo_3, mkInfo_4, mkInfo_5, mkInfo_6, mkInfo_7⟩
theorem bInfo_0 : bInfo Try.prog 7 = some ([(.f (.v (.int .i64 0))), (.f (.v (.int .i64 0))), (.f (.v (.bool false))), (.f (.v (.int .u8 0)))], .fields [(0, 1), (1, 1), (2, 1), (3, 1)]) := by kernel_rfl
theorem bInfo_1 : bInfo Try.prog 8 = some ([(.f (.v (.int .i64 0))), (.f (.v (.int .i64 0))), (.f (.v (.bool false))), (.f (.v (.int .u8 0)))], .fields [(0, 1), (1, 1), (2, 1), (3, 1)]) := by kernel_rfl
theorem bInfo_2 : bInfo Try.prog 13 = some ([(.f (.v (.string ⟨#[]⟩))), (.f (.v (.int .u64 0)))], .fields [(0, 1), (1, 1)]) := by kernel_rfl
theorem bInfo_3 : bInfo Try.prog 14 = some ([(.f (.v (.string ⟨#[]⟩))), (.f (.v (.int .u64 0)))], .fields [(0, 1), (1, 1)]) := by kernel_rfl
theorem bInfo_4 : bInfo Try.prog 18 = some ([(.f (.v (.pointer none)))], .fields [(0, 1)]) := by kernel_rfl
theorem bInfo_5 : bInfo Try.prog 19 = some ([(.f (.v (.pointer none)))], .fields [(0, 1)]) := by kernel_rfl
theorem bInfo_6 : bInfo Try.prog 28 = some ([(.f .nils), (.f .nils), (.f .nils), (.f .nils)], .fields [(0, 1), (1, 1), (2, 1), (3, 1)]) := by kernel_rfl
theorem bInfo_7 : bInfo Try.prog 29 = some ([(.f .nils), (.f .nils), (.f .nils), (.f .nils)], .fields [(0, 1), (1, 1), (2, 1), (3, 1)]) := by kernel_rfl
theorem bInfo_8 : bInfo Try.prog 51 = some ([(.f (.v (.int .i64 0))), (.f (.v (.int .i64 0))), (.f (.v (.int .i64 0))), (.f (.v (.int .i64 0)))], .elems 1) := by kernel_rfl
theorem bInfo_9 : bInfo Try.prog 53 = some ([(.f .nils), (.f .nils)], .elems 1) := by kernel_rfl
theorem bInfo_10 : bInfo Try.prog 55 = some ([(.f (.v (.string ⟨#[]⟩))), (.f (.v (.int .i64 0))), (.f (.v (.int .i64 0))), (.f (.v (.int .i64 0))), (.f (.v (.int .i64 0)))], .fields [(0, 1), (1, 1), (2, 1), (3, 1), (4, 1)]) := by kernel_rfl
theorem bInfo_11 : bInfo Try.prog 56 = some ([(.f (.v (.string ⟨#[]⟩))), (.f (.v (.int .i64 0))), (.f (.v (.int .i64 0))), (.f (.v (.int .i64 0))), (.f (.v (.int .i64 0)))], .fields [(0, 1), (1, 1), (2, 1), (3, 1), (4, 1)]) := by kernel_rfl
theorem bInfo_12 : bInfo Try.prog 57 = some ([(.f (.v (.int .i64 0))), (.f (.v (.int .i64 0))), (.f (.v (.int .i64 0))), (.f (.v (.int .i64 0))), (.f (.v (.int .i64 0))), (.f (.v (.int .i64 0)))], .fields [(0, 1), (1, 1), (2, 1), (3, 1), (4, 1), (5, 1)]) := by kernel_rfl
theorem bInfo_13 : bInfo Try.prog 58 = some ([(.f (.v (.int .i64 0))), (.f (.v (.int .i64 0))), (.f (.v (.int .i64 0))), (.f (.v (.int .i64 0))), (.f (.v (.int .i64 0))), (.f (.v (.int .i64 0)))], .fields [(0, 1), (1, 1), (2, 1), (3, 1), (4, 1), (5, 1)]) := by kernel_rfl
theorem bInfo_14 : bInfo Try.prog 60 = some ([(.f .nils), (.f .nils), (.f .nils), (.f .nils), (.f .nils), (.f .nils), (.f .nils)], .fields [(0, 4), (4, 1), (5, 1), (6, 1)]) := by kernel_rfl
theorem bInfo_15 : bInfo Try.prog 61 = some ([(.f .nils), (.f .nils), (.f .nils), (.f .nils), (.f .nils), (.f .nils), (.f .nils)], .fields [(0, 4), (4, 1), (5, 1), (6, 1)]) := by kernel_rfl
theorem bInfo_16 : bInfo Try.prog 72 = some ([(.f (.v (.string ⟨#[]⟩))), (.f (.v (.int .i64 0))), (.f (.v (.bool false)))], .fields [(0, 1), (1, 1), (2, 1)]) := by kernel_rfl
theorem bInfo_17 : bInfo Try.prog 73 = some ([(.f (.v (.string ⟨#[]⟩))), (.f (.v (.int .i64 0))), (.f (.v (.bool false)))], .fields [(0, 1), (1, 1), (2, 1)]) := by kernel_rfl
theorem bInfo_18 : bInfo Try.prog 87 = some ([(.f .nils), (.f (.v (.int .i64 0)))], .fields [(0, 1), (1, 1)]) := by kernel_rfl
theorem bInfo_19 : bInfo Try.prog 88 = some ([(.f .nils), (.f (.v (.int .i64 0)))], .fields [(0, 1), (1, 1)]) := by kernel_rfl
theorem bInfo_20 : bInfo Try.prog 94 = some ([(.f (.v (.string ⟨#[]⟩))), (.f (.v (.int .i64 0))), (.f (.v (.bool false)))], .fields [(0, 1), (1, 1), (2, 1)]) := by kernel_rfl
theorem bInfo_21 : bInfo Try.prog 95 = some ([(.f (.v (.string ⟨#[]⟩))), (.f (.v (.int .i64 0))), (.f (.v (.bool false)))], .fields [(0, 1), (1, 1), (2, 1)]) := by kernel_rfl
theorem bInfo_22 : bInfo Try.prog 99 = some ([(.f (.v (.int .i64 0))), (.f (.v (.int .i64 0)))], .fields [(0, 1), (1, 1)]) := by kernel_rfl
theorem bInfo_23 : bInfo Try.prog 100 = some ([(.f (.v (.int .i64 0))), (.f (.v (.int .i64 0)))], .fields [(0, 1), (1, 1)]) := by kernel_rfl
theorem bInfo_24 : bInfo Try.prog 107 = some ([(.f (.v (.int .i64 0))), (.f (.v (.int .i64 0)))], .fields [(0, 1), (1, 1)]) := by kernel_rfl
theorem bInfo_25 : bInfo Try.prog 108 = some ([(.f (.v (.int .i64 0))), (.f (.v (.int .i64 0)))], .fields [(0, 1), (1, 1)]) := by kernel_rfl
theorem bInfo_26 : bInfo Try.prog 112 = some ([(.f (.v (.pointer none))), (.f (.v (.pointer none))), (.f (.v (.pointer none))), (.f (.v (.string ⟨#[]⟩)))], .fields [(0, 1), (1, 1), (2, 1), (3, 1)]) := by kernel_rfl
theorem bInfo_27 : bInfo Try.prog 113 = some ([(.f (.v (.pointer none))), (.f (.v (.pointer none))), (.f (.v (.pointer none))), (.f (.v (.string ⟨#[]⟩)))], .fields [(0, 1), (1, 1), (2, 1), (3, 1)]) := by kernel_rfl
theorem bInfo_28 : bInfo Try.prog 114 = some ([], .elems 1) := by kernel_rfl
theorem bInfo_29 : bInfo Try.prog 115 = some ([], .fields [(0, 0)]) := by kernel_rfl
theorem bInfo_30 : bInfo Try.prog 116 = some ([], .fields [(0, 0)]) := by kernel_rfl
theorem bInfo_31 : bInfo Try.prog 123 = some ([(.f (.v (.int .u64 0))), (.f (.v (.int .u64 0))), (.f (.v (.int .u32 0))), (.f (.v (.int .u8 0))), (.f (.v (.int .u8 0))), (.f (.v (.int .u8 0))), (.f (.v (.int .u8 0))), (.f (.v .nilFunc)), (.f (.v (.pointer none))), (.f (.v (.int .i32 0))), (.f (.v (.int .i32 0)))], .fields [(0, 1), (1, 1), (2, 1), (3, 1), (4, 1), (5, 1), (6, 1), (7, 1), (8, 1), (9, 1), (10, 1)]) := by kernel_rfl
theorem bInfo_32 : bInfo Try.prog 124 = some ([(.f (.v (.int .u64 0))), (.f (.v (.int .u64 0))), (.f (.v (.int .u32 0))), (.f (.v (.int .u8 0))), (.f (.v (.int .u8 0))), (.f (.v (.int .u8 0))), (.f (.v (.int .u8 0))), (.f (.v .nilFunc)), (.f (.v (.pointer none))), (.f (.v (.int .i32 0))), (.f (.v (.int .i32 0)))], .fields [(0, 1), (1, 1), (2, 1), (3, 1), (4, 1), (5, 1), (6, 1), (7, 1), (8, 1), (9, 1), (10, 1)]) := by kernel_rfl
theorem bInfoAll : (bInfo Try.prog 7 = some ([(.f (.v (.int .i64 0))), (.f (.v (.int .i64 0))), (.f (.v (.bool false))), (.f (.v (.int .u8 0)))], .fields [(0, 1), (1, 1), (2, 1), (3, 1)])) ∧ (bInfo Try.prog 8 = some ([(.f (.v (.int .i64 0))), (.f (.v (.int .i64 0))), (.f (.v (.bool false))), (.f (.v (.int .u8 0)))], .fields [(0, 1), (1, 1), (2, 1), (3, 1)])) ∧ (bInfo Try.prog 13 = some ([(.f (.v (.string ⟨#[]⟩))), (.f (.v (.int .u64 0)))], .fields [(0, 1), (1, 1)])) ∧ (bInfo Try.prog 14 = some ([(.f (.v (.string ⟨#[]⟩))), (.f (.v (.int .u64 0)))], .fields [(0, 1), (1, 1)])) ∧ (bInfo Try.prog 18 = some ([(.f (.v (.pointer none)))], .fields [(0, 1)])) ∧ (bInfo Try.prog 19 = some ([(.f (.v (.pointer none)))], .fields [(0, 1)])) ∧ (bInfo Try.prog 28 = some ([(.f .nils), (.f .nils), (.f .nils), (.f .nils)], .fields [(0, 1), (1, 1), (2, 1), (3, 1)])) ∧ (bInfo Try.prog 29 = some ([(.f .nils), (.f .nils), (.f .nils), (.f .nils)], .fields [(0, 1), (1, 1), (2, 1), (3, 1)])) ∧ (bInfo Try.prog 51 = some ([(.f (.v (.int .i64 0))), (.f (.v (.int .i64 0))), (.f (.v (.int .i64 0))), (.f (.v (.int .i64 0)))], .elems 1)) ∧ (bInfo Try.prog 53 = some ([(.f .nils), (.f .nils)], .elems 1)) ∧ (bInfo Try.prog 55 = some ([(.f (.v (.string ⟨#[]⟩))), (.f (.v (.int .i64 0))), (.f (.v (.int .i64 0))), (.f (.v (.int .i64 0))), (.f (.v (.int .i64 0)))], .fields [(0, 1), (1, 1), (2, 1), (3, 1), (4, 1)])) ∧ (bInfo Try.prog 56 = some ([(.f (.v (.string ⟨#[]⟩))), (.f (.v (.int .i64 0))), (.f (.v (.int .i64 0))), (.f (.v (.int .i64 0))), (.f (.v (.int .i64 0)))], .fields [(0, 1), (1, 1), (2, 1), (3, 1), (4, 1)])) ∧ (bInfo Try.prog 57 = some ([(.f (.v (.int .i64 0))), (.f (.v (.int .i64 0))), (.f (.v (.int .i64 0))), (.f (.v (.int .i64 0))), (.f (.v (.int .i64 0))), (.f (.v (.int .i64 0)))], .fields [(0, 1), (1, 1), (2, 1), (3, 1), (4, 1), (5, 1)])) ∧ (bInfo Try.prog 58 = some ([(.f (.v (.int .i64 0))), (.f (.v (.int .i64 0))), (.f (.v (.int .i64 0))), (.f (.v (.int .i64 0))), (.f (.v (.int .i64 0))), (.f (.v (.int .i64 0)))], .fields [(0, 1), (1, 1), (2, 1), (3, 1), (4, 1), (5, 1)])) ∧ (bInfo Try.prog 60 = some ([(.f .nils), (.f .nils), (.f .nils), (.f .nils), (.f .nils), (.f .nils), (.f .nils)], .fields [(0, 4), (4, 1), (5, 1), (6, 1)])) ∧ (bInfo Try.prog 61 = some ([(.f .nils), (.f .nils), (.f .nils), (.f .nils), (.f .nils), (.f .nils), (.f .nils)], .fields [(0, 4), (4, 1), (5, 1), (6, 1)])) ∧ (bInfo Try.prog 72 = some ([(.f (.v (.string ⟨#[]⟩))), (.f (.v (.int .i64 0))), (.f (.v (.bool false)))], .fields [(0, 1), (1, 1), (2, 1)])) ∧ (bInfo Try.prog 73 = some ([(.f (.v (.string ⟨#[]⟩))), (.f (.v (.int .i64 0))), (.f (.v (.bool false)))], .fields [(0, 1), (1, 1), (2, 1)])) ∧ (bInfo Try.prog 87 = some ([(.f .nils), (.f (.v (.int .i64 0)))], .fields [(0, 1), (1, 1)])) ∧ (bInfo Try.prog 88 = some ([(.f .nils), (.f (.v (.int .i64 0)))], .fields [(0, 1), (1, 1)])) ∧ (bInfo Try.prog 94 = some ([(.f (.v (.string ⟨#[]⟩))), (.f (.v (.int .i64 0))), (.f (.v (.bool false)))], .fields [(0, 1), (1, 1), (2, 1)])) ∧ (bInfo Try.prog 95 = some ([(.f (.v (.string ⟨#[]⟩))), (.f (.v (.int .i64 0))), (.f (.v (.bool false)))], .fields [(0, 1), (1, 1), (2, 1)])) ∧ (bInfo Try.prog 99 = some ([(.f (.v (.int .i64 0))), (.f (.v (.int .i64 0)))], .fields [(0, 1), (1, 1)])) ∧ (bInfo Try.prog 100 = some ([(.f (.v (.int .i64 0))), (.f (.v (.int .i64 0)))], .fields [(0, 1), (1, 1)])) ∧ (bInfo Try.prog 107 = some ([(.f (.v (.int .i64 0))), (.f (.v (.int .i64 0)))], .fields [(0, 1), (1, 1)])) ∧ (bInfo Try.prog 108 = some ([(.f (.v (.int .i64 0))), (.f (.v (.int .i64 0)))], .fields [(0, 1), (1, 1)])) ∧ (bInfo Try.prog 112 = some ([(.f (.v (.pointer none))), (.f (.v (.pointer none))), (.f (.v (.pointer none))), (.f (.v (.string ⟨#[]⟩)))], .fields [(0, 1), (1, 1), (2, 1), (3, 1)])) ∧ (bInfo Try.prog 113 = some ([(.f (.v (.pointer none))), (.f (.v (.pointer none))), (.f (.v (.pointer none))), (.f (.v (.string ⟨#[]⟩)))], .fields [(0, 1), (1, 1), (2, 1), (3, 1)])) ∧ (bInfo Try.prog 114 = some ([], .elems 1)) ∧ (bInfo Try.prog 115 = some ([], .fields [(0, 0)])) ∧ (bInfo Try.prog 116 = some ([], .fields [(0, 0)])) ∧ (bInfo Try.prog 123 = some ([(.f (.v (.int .u64 0))), (.f (.v (.int .u64 0))), (.f (.v (.int .u32 0))), (.f (.v (.int .u8 0))), (.f (.v (.int .u8 0))), (.f (.v (.int .u8 0))), (.f (.v (.int .u8 0))), (.f (.v .nilFunc)), (.f (.v (.pointer none))), (.f (.v (.int .i32 0))), (.f (.v (.int .i32 0)))], .fields [(0, 1), (1, 1), (2, 1), (3, 1), (4, 1), (5, 1), (6, 1), (7, 1), (8, 1), (9, 1), (10, 1)])) ∧ (bInfo Try.prog 124 = some ([(.f (.v (.int .u64 0))), (.f (.v (.int .u64 0))), (.f (.v (.int .u32 0))), (.f (.v (.int .u8 0))), (.f (.v (.int .u8 0))), (.f (.v (.int .u8 0))), (.f (.v (.int .u8 0))), (.f (.v .nilFunc)), (.f (.v (.pointer none))), (.f (.v (.int .i32 0))), (.f (.v (.int .i32 0)))], .fields [(0, 1), (1, 1), (2, 1), (3, 1), (4, 1), (5, 1), (6, 1), (7, 1), (8, 1), (9, 1), (10, 1)])) := ⟨bInfo_0, bInfo_1, bInfo_2, bInfo_3, bInfo_4, bInfo_5, bInfo_6, bInfo_7, bInfo_8, bInfo_9, bInfo_10, bInfo_11, bInfo_12, bInfo_13, bInfo_14, bInfo_15, bInfo_16, bInfo_17, bInfo_18, bInfo_19, bInfo_20, bInfo_21, bInfo_22, bInfo_23, bInfo_24, bInfo_25, bInfo_26, bInfo_27, bInfo_28, bInfo_29, bInfo_30, bInfo_31, bInfo_32⟩
theorem zeroC_0 : zeroC Try.prog 2 = some [(.f (.v (.int .i64 0)))] := by kernel_rfl
theorem zeroC_1 : zeroC Try.prog 3 = some [(.f (.v (.int .i64 0)))] := by kernel_rfl
theorem zeroC_2 : zeroC Try.prog 4 = some [(.f (.v (.bool false)))] := by kernel_rfl
theorem zeroC_3 : zeroC Try.prog 5 = some [(.f (.v (.int .u8 0)))] := by kernel_rfl
theorem zeroC_4 : zeroC Try.prog 6 = some [(.f (.v (.int .u8 0)))] := by kernel_rfl
theorem zeroC_5 : zeroC Try.prog 7 = some [(.f (.v (.int .i64 0))), (.f (.v (.int .i64 0))), (.f (.v (.bool false))), (.f (.v (.int .u8 0)))] := by kernel_rfl
theorem zeroC_6 : zeroC Try.prog 8 = some [(.f (.v (.int .i64 0))), (.f (.v (.int .i64 0))), (.f (.v (.bool false))), (.f (.v (.int .u8 0)))] := by kernel_rfl
theorem zeroC_7 : zeroC Try.prog 9 = some [(.f (.v (.string ⟨#[]⟩)))] := by kernel_rfl
theorem zeroC_8 : zeroC Try.prog 10 = some [(.f (.v (.string ⟨#[]⟩)))] := by kernel_rfl
theorem zeroC_9 : zeroC Try.prog 11 = some [(.f (.v (.string ⟨#[]⟩)))] := by kernel_rfl
theorem zeroC_10 : zeroC Try.prog 12 = some [(.f (.v (.int .u64 0)))] := by kernel_rfl
theorem zeroC_11 : zeroC Try.prog 13 = some [(.f (.v (.string ⟨#[]⟩))), (.f (.v (.int .u64 0)))] := by kernel_rfl
theorem zeroC_12 : zeroC Try.prog 14 = some [(.f (.v (.string ⟨#[]⟩))), (.f (.v (.int .u64 0)))] := by kernel_rfl
theorem zeroC_13 : zeroC Try.prog 15 = some [(.f (.v (.pointer none)))] := by kernel_rfl
theorem zeroC_14 : zeroC Try.prog 16 = some [(.f (.v (.pointer none)))] := by kernel_rfl
theorem zeroC_15 : zeroC Try.prog 17 = some [(.f (.v (.pointer none)))] := by kernel_rfl
theorem zeroC_16 : zeroC Try.prog 18 = some [(.f (.v (.pointer none)))] := by kernel_rfl
theorem zeroC_17 : zeroC Try.prog 19 = some [(.f (.v (.pointer none)))] := by kernel_rfl
theorem zeroC_18 : zeroC Try.prog 21 = some [(.f (.v (.int .i32 0)))] := by kernel_rfl
theorem zeroC_19 : zeroC Try.prog 22 = some [(.f (.v (.int .i64 0)))] := by kernel_rfl
theorem zeroC_20 : zeroC Try.prog 25 = some [(.f .nils)] := by kernel_rfl
theorem zeroC_21 : zeroC Try.prog 26 = some [(.f .nils)] := by kernel_rfl
theorem zeroC_22 : zeroC Try.prog 27 = some [(.f .nils)] := by kernel_rfl
theorem zeroC_23 : zeroC Try.prog 28 = some [(.f .nils), (.f .nils), (.f .nils), (.f .nils)] := by kernel_rfl
theorem zeroC_24 : zeroC Try.prog 29 = some [(.f .nils), (.f .nils), (.f .nils), (.f .nils)] := by kernel_rfl
theorem zeroC_25 : zeroC Try.prog 31 = some [(.f (.v (.int .u32 0)))] := by kernel_rfl
theorem zeroC_26 : zeroC Try.prog 34 = some [(.f .nils)] := by kernel_rfl
theorem zeroC_27 : zeroC Try.prog 37 = some [(.f .nils)] := by kernel_rfl
theorem zeroC_28 : zeroC Try.prog 41 = some [(.f .nils)] := by kernel_rfl
theorem zeroC_29 : zeroC Try.prog 42 = some [(.f (.v (.int .u64 0)))] := by kernel_rfl
theorem zeroC_30 : zeroC Try.prog 51 = some [(.f (.v (.int .i64 0))), (.f (.v (.int .i64 0))), (.f (.v (.int .i64 0))), (.f (.v (.int .i64 0)))] := by kernel_rfl
theorem zeroC_31 : zeroC Try.prog 53 = some [(.f .nils), (.f .nils)] := by kernel_rfl
theorem zeroC_32 : zeroC Try.prog 55 = some [(.f (.v (.string ⟨#[]⟩))), (.f (.v (.int .i64 0))), (.f (.v (.int .i64 0))), (.f (.v (.int .i64 0))), (.f (.v (.int .i64 0)))] := by kernel_rfl
theorem zeroC_33 : zeroC Try.prog 56 = some [(.f (.v (.string ⟨#[]⟩))), (.f (.v (.int .i64 0))), (.f (.v (.int .i64 0))), (.f (.v (.int .i64 0))), (.f (.v (.int .i64 0)))] := by kernel_rfl
theorem zeroC_34 : zeroC Try.prog 57 = some [(.f (.v (.int .i64 0))), (.f (.v (.int .i64 0))), (.f (.v (.int .i64 0))), (.f (.v (.int .i64 0))), (.f (.v (.int .i64 0))), (.f (.v (.int .i64 0)))] := by kernel_rfl
theorem zeroC_35 : zeroC Try.prog 58 = some [(.f (.v (.int .i64 0))), (.f (.v (.int .i64 0))), (.f (.v (.int .i64 0))), (.f (.v (.int .i64 0))), (.f (.v (.int .i64 0))), (.f (.v (.int .i64 0)))] := by kernel_rfl
theorem zeroC_36 : zeroC Try.prog 59 = some [(.f .nils)] := by kernel_rfl
theorem zeroC_37 : zeroC Try.prog 60 = some [(.f .nils), (.f .nils), (.f .nils), (.f .nils), (.f .nils), (.f .nils), (.f .nils)] := by kernel_rfl
theorem zeroC_38 : zeroC Try.prog 61 = some [(.f .nils), (.f .nils), (.f .nils), (.f .nils), (.f .nils), (.f .nils), (.f .nils)] := by kernel_rfl
theorem zeroC_39 : zeroC Try.prog 62 = some [(.f (.v (.pointer none)))] := by kernel_rfl
theorem zeroC_40 : zeroC Try.prog 64 = some [(.f (.v (.pointer none)))] := by kernel_rfl
theorem zeroC_41 : zeroC Try.prog 66 = some [(.f (.v (.pointer none)))] := by kernel_rfl
theorem zeroC_42 : zeroC Try.prog 67 = some [(.f (.v (.pointer none)))] := by kernel_rfl
theorem zeroC_43 : zeroC Try.prog 70 = some [(.f (.v (.int .u64 0)))] := by kernel_rfl
theorem zeroC_44 : zeroC Try.prog 71 = some [(.f (.v (.pointer none)))] := by kernel_rfl
theorem zeroC_45 : zeroC Try.prog 72 = some [(.f (.v (.string ⟨#[]⟩))), (.f (.v (.int .i64 0))), (.f (.v (.bool false)))] := by kernel_rfl
theorem zeroC_46 : zeroC Try.prog 73 = some [(.f (.v (.string ⟨#[]⟩))), (.f (.v (.int .i64 0))), (.f (.v (.bool false)))] := by kernel_rfl
theorem zeroC_47 : zeroC Try.prog 87 = some [(.f .nils), (.f (.v (.int .i64 0)))] := by kernel_rfl
theorem zeroC_48 : zeroC Try.prog 88 = some [(.f .nils), (.f (.v (.int .i64 0)))] := by kernel_rfl
theorem zeroC_49 : zeroC Try.prog 93 = some [(.f (.v (.pointer none)))] := by kernel_rfl
theorem zeroC_50 : zeroC Try.prog 94 = some [(.f (.v (.string ⟨#[]⟩))), (.f (.v (.int .i64 0))), (.f (.v (.bool false)))] := by kernel_rfl
theorem zeroC_51 : zeroC Try.prog 95 = some [(.f (.v (.string ⟨#[]⟩))), (.f (.v (.int .i64 0))), (.f (.v (.bool false)))] := by kernel_rfl
theorem zeroC_52 : zeroC Try.prog 97 = some [(.f .nils)] := by kernel_rfl
theorem zeroC_53 : zeroC Try.prog 99 = some [(.f (.v (.int .i64 0))), (.f (.v (.int .i64 0)))] := by kernel_rfl
theorem zeroC_54 : zeroC Try.prog 100 = some [(.f (.v (.int .i64 0))), (.f (.v (.int .i64 0)))] := by kernel_rfl
theorem zeroC_55 : zeroC Try.prog 103 = some [(.f (.v (.pointer none)))] := by kernel_rfl
theorem zeroC_56 : zeroC Try.prog 107 = some [(.f (.v (.int .i64 0))), (.f (.v (.int .i64 0)))] := by kernel_rfl
theorem zeroC_57 : zeroC Try.prog 108 = some [(.f (.v (.int .i64 0))), (.f (.v (.int .i64 0)))] := by kernel_rfl
theorem zeroC_58 : zeroC Try.prog 112 = some [(.f (.v (.pointer none))), (.f (.v (.pointer none))), (.f (.v (.pointer none))), (.f (.v (.string ⟨#[]⟩)))] := by kernel_rfl
theorem zeroC_59 : zeroC Try.prog 113 = some [(.f (.v (.pointer none))), (.f (.v (.pointer none))), (.f (.v (.pointer none))), (.f (.v (.string ⟨#[]⟩)))] := by kernel_rfl
theorem zeroC_60 : zeroC Try.prog 114 = some [] := by kernel_rfl
theorem zeroC_61 : zeroC Try.prog 115 = some [] := by kernel_rfl
theorem zeroC_62 : zeroC Try.prog 116 = some [] := by kernel_rfl
theorem zeroC_63 : zeroC Try.prog 117 = some [(.f (.v (.int .u8 0)))] := by kernel_rfl
theorem zeroC_64 : zeroC Try.prog 118 = some [(.f (.v (.int .u8 0)))] := by kernel_rfl
theorem zeroC_65 : zeroC Try.prog 120 = some [(.f (.v (.pointer none)))] := by kernel_rfl
theorem zeroC_66 : zeroC Try.prog 121 = some [(.f (.v (.int .i32 0)))] := by kernel_rfl
theorem zeroC_67 : zeroC Try.prog 122 = some [(.f (.v (.int .i32 0)))] := by kernel_rfl
theorem zeroC_68 : zeroC Try.prog 123 = some [(.f (.v (.int .u64 0))), (.f (.v (.int .u64 0))), (.f (.v (.int .u32 0))), (.f (.v (.int .u8 0))), (.f (.v (.int .u8 0))), (.f (.v (.int .u8 0))), (.f (.v (.int .u8 0))), (.f (.v .nilFunc)), (.f (.v (.pointer none))), (.f (.v (.int .i32 0))), (.f (.v (.int .i32 0)))] := by kernel_rfl
theorem zeroC_69 : zeroC Try.prog 124 = some [(.f (.v (.int .u64 0))), (.f (.v (.int .u64 0))), (.f (.v (.int .u32 0))), (.f (.v (.int .u8 0))), (.f (.v (.int .u8 0))), (.f (.v (.int .u8 0))), (.f (.v (.int .u8 0))), (.f (.v .nilFunc)), (.f (.v (.pointer none))), (.f (.v (.int .i32 0))), (.f (.v (.int .i32 0)))] := by kernel_rfl
theorem zeroC_70 : zeroC Try.prog 125 = some [(.f (.v (.pointer none)))] := by kernel_rfl
theorem zeroCAll : (zeroC Try.prog 2 = some [(.f (.v (.int .i64 0)))]) ∧ (zeroC Try.prog 3 = some [(.f (.v (.int .i64 0)))]) ∧ (zeroC Try.prog 4 = some [(.f (.v (.bool false)))]) ∧ (zeroC Try.prog 5 = some [(.f (.v (.int .u8 0)))]) ∧ (zeroC Try.prog 6 = some [(.f (.v (.int .u8 0)))]) ∧ (zeroC Try.prog 7 = some [(.f (.v (.int .i64 0))), (.f (.v (.int .i64 0))), (.f (.v (.bool false))), (.f (.v (.int .u8 0)))]) ∧ (zeroC Try.prog 8 = some [(.f (.v (.int .i64 0))), (.f (.v (.int .i64 0))), (.f (.v (.bool false))), (.f (.v (.int .u8 0)))]) ∧ (zeroC Try.prog 9 = some [(.f (.v (.string ⟨#[]⟩)))]) ∧ (zeroC Try.prog 10 = some [(.f (.v (.string ⟨#[]⟩)))]) ∧ (zeroC Try.prog 11 = some [(.f (.v (.string ⟨#[]⟩)))]) ∧ (zeroC Try.prog 12 = some [(.f (.v (.int .u64 0)))]) ∧ (zeroC Try.prog 13 = some [(.f (.v (.string ⟨#[]⟩))), (.f (.v (.int .u64 0)))]) ∧ (zeroC Try.prog 14 = some [(.f (.v (.string ⟨#[]⟩))), (.f (.v (.int .u64 0)))]) ∧ (zeroC Try.prog 15 = some [(.f (.v (.pointer none)))]) ∧ (zeroC Try.prog 16 = some [(.f (.v (.pointer none)))]) ∧ (zeroC Try.prog 17 = some [(.f (.v (.pointer none)))]) ∧ (zeroC Try.prog 18 = some [(.f (.v (.pointer none)))]) ∧ (zeroC Try.prog 19 = some [(.f (.v (.pointer none)))]) ∧ (zeroC Try.prog 21 = some [(.f (.v (.int .i32 0)))]) ∧ (zeroC Try.prog 22 = some [(.f (.v (.int .i64 0)))]) ∧ (zeroC Try.prog 25 = some [(.f .nils)]) ∧ (zeroC Try.prog 26 = some [(.f .nils)]) ∧ (zeroC Try.prog 27 = some [(.f .nils)]) ∧ (zeroC Try.prog 28 = some [(.f .nils), (.f .nils), (.f .nils), (.f .nils)]) ∧ (zeroC Try.prog 29 = some [(.f .nils), (.f .nils), (.f .nils), (.f .nils)]) ∧ (zeroC Try.prog 31 = some [(.f (.v (.int .u32 0)))]) ∧ (zeroC Try.prog 34 = some [(.f .nils)]) ∧ (zeroC Try.prog 37 = some [(.f .nils)]) ∧ (zeroC Try.prog 41 = some [(.f .nils)]) ∧ (zeroC Try.prog 42 = some [(.f (.v (.int .u64 0)))]) ∧ (zeroC Try.prog 51 = some [(.f (.v (.int .i64 0))), (.f (.v (.int .i64 0))), (.f (.v (.int .i64 0))), (.f (.v (.int .i64 0)))]) ∧ (zeroC Try.prog 53 = some [(.f .nils), (.f .nils)]) ∧ (zeroC Try.prog 55 = some [(.f (.v (.string ⟨#[]⟩))), (.f (.v (.int .i64 0))), (.f (.v (.int .i64 0))), (.f (.v (.int .i64 0))), (.f (.v (.int .i64 0)))]) ∧ (zeroC Try.prog 56 = some [(.f (.v (.string ⟨#[]⟩))), (.f (.v (.int .i64 0))), (.f (.v (.int .i64 0))), (.f (.v (.int .i64 0))), (.f (.v (.int .i64 0)))]) ∧ (zeroC Try.prog 57 = some [(.f (.v (.int .i64 0))), (.f (.v (.int .i64 0))), (.f (.v (.int .i64 0))), (.f (.v (.int .i64 0))), (.f (.v (.int .i64 0))), (.f (.v (.int .i64 0)))]) ∧ (zeroC Try.prog 58 = some [(.f (.v (.int .i64 0))), (.f (.v (.int .i64 0))), (.f (.v (.int .i64 0))), (.f (.v (.int .i64 0))), (.f (.v (.int .i64 0))), (.f (.v (.int .i64 0)))]) ∧ (zeroC Try.prog 59 = some [(.f .nils)]) ∧ (zeroC Try.prog 60 = some [(.f .nils), (.f .nils), (.f .nils), (.f .nils), (.f .nils), (.f .nils), (.f .nils)]) ∧ (zeroC Try.prog 61 = some [(.f .nils), (.f .nils), (.f .nils), (.f .nils), (.f .nils), (.f .nils), (.f .nils)]) ∧ (zeroC Try.prog 62 = some [(.f (.v (.pointer none)))]) ∧ (zeroC Try.prog 64 = some [(.f (.v (.pointer none)))]) ∧ (zeroC Try.prog 66 = some [(.f (.v (.pointer none)))]) ∧ (zeroC Try.prog 67 = some [(.f (.v (.pointer none)))]) ∧ (zeroC Try.prog 70 = some [(.f (.v (.int .u64 0)))]) ∧ (zeroC Try.prog 71 = some [(.f (.v (.pointer none)))]) ∧ (zeroC Try.prog 72 = some [(.f (.v (.string ⟨#[]⟩))), (.f (.v (.int .i64 0))), (.f (.v (.bool false)))]) ∧ (zeroC Try.prog 73 = some [(.f (.v (.string ⟨#[]⟩))), (.f (.v (.int .i64 0))), (.f (.v (.bool false)))]) ∧ (zeroC Try.prog 87 = some [(.f .nils), (.f (.v (.int .i64 0)))]) ∧ (zeroC Try.prog 88 = some [(.f .nils), (.f (.v (.int .i64 0)))]) ∧ (zeroC Try.prog 93 = some [(.f (.v (.pointer none)))]) ∧ (zeroC Try.prog 94 = some [(.f (.v (.string ⟨#[]⟩))), (.f (.v (.int .i64 0))), (.f (.v (.bool false)))]) ∧ (zeroC Try.prog 95 = some [(.f (.v (.string ⟨#[]⟩))), (.f (.v (.int .i64 0))), (.f (.v (.bool false)))]) ∧ (zeroC Try.prog 97 = some [(.f .nils)]) ∧ (zeroC Try.prog 99 = some [(.f (.v (.int .i64 0))), (.f (.v (.int .i64 0)))]) ∧ (zeroC Try.prog 100 = some [(.f (.v (.int .i64 0))), (.f (.v (.int .i64 0)))]) ∧ (zeroC Try.prog 103 = some [(.f (.v (.pointer none)))]) ∧ (zeroC Try.prog 107 = some [(.f (.v (.int .i64 0))), (.f (.v (.int .i64 0)))]) ∧ (zeroC Try.prog 108 = some [(.f (.v (.int .i64 0))), (.f (.v (.int .i64 0)))]) ∧ (zeroC Try.prog 112 = some [(.f (.v (.pointer none))), (.f (.v (.pointer none))), (.f (.v (.pointer none))), (.f (.v (.string ⟨#[]⟩)))]) ∧ (zeroC Try.prog 113 = some [(.f (.v (.pointer none))), (.f (.v (.pointer none))), (.f (.v (.pointer none))), (.f (.v (.string ⟨#[]⟩)))]) ∧ (zeroC Try.prog 114 = some []) ∧ (zeroC Try.prog 115 = some []) ∧ (zeroC Try.prog 116 = some []) ∧ (zeroC Try.prog 117 = some [(.f (.v (.int .u8 0)))]) ∧ (zeroC Try.prog 118 = some [(.f (.v (.int .u8 0)))]) ∧ (zeroC Try.prog 120 = some [(.f (.v (.pointer none)))]) ∧ (zeroC Try.prog 121 = some [(.f (.v (.int .i32 0)))]) ∧ (zeroC Try.prog 122 = some [(.f (.v (.int .i32 0)))]) ∧ (zeroC Try.prog 123 = some [(.f (.v (.int .u64 0))), (.f (.v (.int .u64 0))), (.f (.v (.int .u32 0))), (.f (.v (.int .u8 0))), (.f (.v (.int .u8 0))), (.f (.v (.int .u8 0))), (.f (.v (.int .u8 0))), (.f (.v .nilFunc)), (.f (.v (.pointer none))), (.f (.v (.int .i32 0))), (.f (.v (.int .i32 0)))]) ∧ (zeroC Try.prog 124 = some [(.f (.v (.int .u64 0))), (.f (.v (.int .u64 0))), (.f (.v (.int .u32 0))), (.f (.v (.int .u8 0))), (.f (.v (.int .u8 0))), (.f (.v (.int .u8 0))), (.f (.v (.int .u8 0))), (.f (.v .nilFunc)), (.f (.v (.pointer none))), (.f (.v (.int .i32 0))), (.f (.v (.int .i32 0)))]) ∧ (zeroC Try.prog 125 = some [(.f (.v (.pointer none)))]) := ⟨zeroC_0, zeroC_1, zeroC_2, zeroC_3, zeroC_4, zeroC_5, zeroC_6, zeroC_7, zeroC_8, zeroC_9, zeroC_10, zeroC_11, zeroC_12, zeroC_13, zeroC_14, zeroC_15, zeroC_16, zeroC_17, zeroC_18, zeroC_19, zeroC_20, zeroC_21, zeroC_22, zeroC_23, zeroC_24, zeroC_25, zeroC_26, zeroC_27, zeroC_28, zeroC_29, zeroC_30, zeroC_31, zeroC_32, zeroC_33, zeroC_34, zeroC_35, zeroC_36, zeroC_37, zeroC_38, zeroC_39, zeroC_40, zeroC_41, zeroC_42, zeroC_43, zeroC_44, zeroC_45, zeroC_46, zeroC_47, zeroC_48, zeroC_49, zeroC_50, zeroC_51, zeroC_52, zeroC_53, zeroC_54, zeroC_55, zeroC_56, zeroC_57, zeroC_58, zeroC_59, zeroC_60, zeroC_61, zeroC_62, zeroC_63, zeroC_64, zeroC_65, zeroC_66, zeroC_67, zeroC_68, zeroC_69, zeroC_70⟩
theorem und_0 : Try.prog.underlying 2 = some (.int .i64) := by kernel_rfl
theorem und_1 : Try.prog.underlying 3 = some (.int .i64) := by kernel_rfl
theorem und_2 : Try.prog.underlying 4 = some .bool := by kernel_rfl
theorem und_3 : Try.prog.underlying 5 = some (.int .u8) := by kernel_rfl
theorem und_4 : Try.prog.underlying 6 = some (.int .u8) := by kernel_rfl
theorem und_5 : Try.prog.underlying 9 = some .string := by kernel_rfl
theorem und_6 : Try.prog.underlying 10 = some .string := by kernel_rfl
theorem und_7 : Try.prog.underlying 11 = some .string := by kernel_rfl
theorem und_8 : Try.prog.underlying 12 = some (.int .u64) := by kernel_rfl
theorem und_9 : Try.prog.underlying 21 = some (.int .i32) := by kernel_rfl
theorem und_10 : Try.prog.underlying 22 = some (.int .i64) := by kernel_rfl
theorem und_11 : Try.prog.underlying 25 = some (.slice 9) := by kernel_rfl
theorem und_12 : Try.prog.underlying 26 = some (.slice 56) := by kernel_rfl
theorem und_13 : Try.prog.underlying 27 = some (.slice 58) := by kernel_rfl
theorem und_14 : Try.prog.underlying 31 = some (.int .u32) := by kernel_rfl
theorem und_15 : Try.prog.underlying 34 = some (.slice 3) := by kernel_rfl
theorem und_16 : Try.prog.underlying 37 = some (.slice 29) := by kernel_rfl
theorem und_17 : Try.prog.underlying 41 = some (.slice 5) := by kernel_rfl
theorem und_18 : Try.prog.underlying 42 = some (.int .u64) := by kernel_rfl
theorem und_19 : Try.prog.underlying 59 = some (.slice 34) := by kernel_rfl
theorem und_20 : Try.prog.underlying 70 = some (.int .u64) := by kernel_rfl
theorem und_21 : Try.prog.underlying 97 = some (.slice 27) := by kernel_rfl
theorem und_22 : Try.prog.underlying 117 = some (.int .u8) := by kernel_rfl
theorem und_23 : Try.prog.underlying 118 = some (.int .u8) := by kernel_rfl
theorem und_24 : Try.prog.underlying 121 = some (.int .i32) := by kernel_rfl
theorem und_25 : Try.prog.underlying 122 = some (.int .i32) := by kernel_rfl
theorem undAll : (Try.prog.underlying 2 = some (.int .i64)) ∧ (Try.prog.underlying 3 = some (.int .i64)) ∧ (Try.prog.underlying 4 = some .bool) ∧ (Try.prog.underlying 5 = some (.int .u8)) ∧ (Try.prog.underlying 6 = some (.int .u8)) ∧ (Try.prog.underlying 9 = some .string) ∧ (Try.prog.underlying 10 = some .string) ∧ (Try.prog.underlying 11 = some .string) ∧ (Try.prog.underlying 12 = some (.int .u64)) ∧ (Try.prog.underlying 21 = some (.int .i32)) ∧ (Try.prog.underlying 22 = some (.int .i64)) ∧ (Try.prog.underlying 25 = some (.slice 9)) ∧ (Try.prog.underlying 26 = some (.slice 56)) ∧ (Try.prog.underlying 27 = some (.slice 58)) ∧ (Try.prog.underlying 31 = some (.int .u32)) ∧ (Try.prog.underlying 34 = some (.slice 3)) ∧ (Try.prog.underlying 37 = some (.slice 29)) ∧ (Try.prog.underlying 41 = some (.slice 5)) ∧ (Try.prog.underlying 42 = some (.int .u64)) ∧ (Try.prog.underlying 59 = some (.slice 34)) ∧ (Try.prog.underlying 70 = some (.int .u64)) ∧ (Try.prog.underlying 97 = some (.slice 27)) ∧ (Try.prog.underlying 117 = some (.int .u8)) ∧ (Try.prog.underlying 118 = some (.int .u8)) ∧ (Try.prog.underlying 121 = some (.int .i32)) ∧ (Try.prog.underlying 122 = some (.int .i32)) := ⟨und_0, und_1, und_2, und_3, und_4, und_5, und_6, und_7, und_8, und_9, und_10, und_11, und_12, und_13, und_14, und_15, und_16, und_17, und_18, und_19, und_20, und_21, und_22, und_23, und_24, und_25⟩
theorem mixed : Try.prog.follows .mixedOrders = true := by kernel_rfl
end Go.Proofs.Ythnfliopmjpdmaa.Av
