/- Facts on this seat's types and functions. -/
import Derived.Test.YtnhmeckhlajeaaaProg
import Derived.Test.YtnhmeckhlajeaaaRange
namespace Go.Proofs.Ytnhmeckhlajeaaa
open Go Go.RowKit Go.Shelf
theorem info_2 : (Try.prog.info? 2).map (fun i => (i.zero, i.size, i.bytes)) = some (some (Value.int .i64 0), 1, 8) := by kernel_rfl
theorem info_3 : (Try.prog.info? 3).map (fun i => (i.zero, i.size, i.bytes)) = some (some (Value.int .i64 0), 1, 8) := by kernel_rfl
theorem info_4 : (Try.prog.info? 4).map (fun i => (i.zero, i.size, i.bytes)) = some (some (Value.bool (false)), 1, 1) := by kernel_rfl
theorem info_5 : (Try.prog.info? 5).map (fun i => (i.zero, i.size, i.bytes)) = some (some (Value.int .u8 0), 1, 1) := by kernel_rfl
theorem info_6 : (Try.prog.info? 6).map (fun i => (i.zero, i.size, i.bytes)) = some (some (Value.int .u8 0), 1, 1) := by kernel_rfl
theorem info_7 : (Try.prog.info? 7).map (fun i => (i.zero, i.size, i.bytes)) = some (some (Value.agg #[(Value.int .i64 0), (Value.int .i64 0), (Value.bool (false)), (Value.int .u8 0)]), 4, 24) := by kernel_rfl
theorem info_8 : (Try.prog.info? 8).map (fun i => (i.zero, i.size, i.bytes)) = some (some (Value.agg #[(Value.int .i64 0), (Value.int .i64 0), (Value.bool (false)), (Value.int .u8 0)]), 4, 24) := by kernel_rfl
theorem info_9 : (Try.prog.info? 9).map (fun i => (i.zero, i.size, i.bytes)) = some (some (Value.string ⟨#[]⟩), 1, 16) := by kernel_rfl
theorem info_10 : (Try.prog.info? 10).map (fun i => (i.zero, i.size, i.bytes)) = some (some (Value.string ⟨#[]⟩), 1, 16) := by kernel_rfl
theorem info_11 : (Try.prog.info? 11).map (fun i => (i.zero, i.size, i.bytes)) = some (some (Value.string ⟨#[]⟩), 1, 16) := by kernel_rfl
theorem info_12 : (Try.prog.info? 12).map (fun i => (i.zero, i.size, i.bytes)) = some (some (Value.int .u64 0), 1, 8) := by kernel_rfl
theorem info_13 : (Try.prog.info? 13).map (fun i => (i.zero, i.size, i.bytes)) = some (some (Value.agg #[(Value.string ⟨#[]⟩), (Value.int .u64 0)]), 2, 24) := by kernel_rfl
theorem info_14 : (Try.prog.info? 14).map (fun i => (i.zero, i.size, i.bytes)) = some (some (Value.agg #[(Value.string ⟨#[]⟩), (Value.int .u64 0)]), 2, 24) := by kernel_rfl
theorem info_15 : (Try.prog.info? 15).map (fun i => (i.zero, i.size, i.bytes)) = some (some (Value.pointer none), 1, 8) := by kernel_rfl
theorem info_16 : (Try.prog.info? 16).map (fun i => (i.zero, i.size, i.bytes)) = some (some (Value.pointer none), 1, 8) := by kernel_rfl
theorem info_17 : (Try.prog.info? 17).map (fun i => (i.zero, i.size, i.bytes)) = some (some (Value.pointer none), 1, 8) := by kernel_rfl
theorem info_18 : (Try.prog.info? 18).map (fun i => (i.zero, i.size, i.bytes)) = some (some (Value.agg #[(Value.pointer none)]), 1, 8) := by kernel_rfl
theorem info_19 : (Try.prog.info? 19).map (fun i => (i.zero, i.size, i.bytes)) = some (some (Value.agg #[(Value.pointer none)]), 1, 8) := by kernel_rfl
theorem info_21 : (Try.prog.info? 21).map (fun i => (i.zero, i.size, i.bytes)) = some (some (Value.int .i32 0), 1, 4) := by kernel_rfl
theorem info_22 : (Try.prog.info? 22).map (fun i => (i.zero, i.size, i.bytes)) = some (some (Value.slice none 0 0), 1, 24) := by kernel_rfl
theorem info_23 : (Try.prog.info? 23).map (fun i => (i.zero, i.size, i.bytes)) = some (some (Value.agg #[(Value.int .i64 0), (Value.slice none 0 0)]), 2, 32) := by kernel_rfl
theorem info_24 : (Try.prog.info? 24).map (fun i => (i.zero, i.size, i.bytes)) = some (some (Value.agg #[(Value.int .i64 0), (Value.slice none 0 0)]), 2, 32) := by kernel_rfl
theorem info_25 : (Try.prog.info? 25).map (fun i => (i.zero, i.size, i.bytes)) = some (some (Value.slice none 0 0), 1, 24) := by kernel_rfl
theorem info_26 : (Try.prog.info? 26).map (fun i => (i.zero, i.size, i.bytes)) = some (some (Value.slice none 0 0), 1, 24) := by kernel_rfl
theorem info_30 : (Try.prog.info? 30).map (fun i => (i.zero, i.size, i.bytes)) = some (some (Value.slice none 0 0), 1, 24) := by kernel_rfl
theorem info_31 : (Try.prog.info? 31).map (fun i => (i.zero, i.size, i.bytes)) = some (some (Value.int .i64 0), 1, 8) := by kernel_rfl
theorem info_39 : (Try.prog.info? 39).map (fun i => (i.zero, i.size, i.bytes)) = some (some (Value.agg #[(Value.int .u8 0), (Value.int .u8 0)]), 2, 2) := by kernel_rfl
theorem info_64 : (Try.prog.info? 64).map (fun i => (i.zero, i.size, i.bytes)) = some (some (Value.agg #[(Value.int .i64 0), (Value.slice none 0 0), (Value.slice none 0 0), (Value.slice none 0 0)]), 4, 80) := by kernel_rfl
theorem info_65 : (Try.prog.info? 65).map (fun i => (i.zero, i.size, i.bytes)) = some (some (Value.agg #[(Value.int .i64 0), (Value.slice none 0 0), (Value.slice none 0 0), (Value.slice none 0 0)]), 4, 80) := by kernel_rfl
theorem info_72 : (Try.prog.info? 72).map (fun i => (i.zero, i.size, i.bytes)) = some (some (Value.agg #[(Value.int .i64 0), (Value.slice none 0 0)]), 2, 32) := by kernel_rfl
theorem info_73 : (Try.prog.info? 73).map (fun i => (i.zero, i.size, i.bytes)) = some (some (Value.agg #[(Value.int .i64 0), (Value.slice none 0 0)]), 2, 32) := by kernel_rfl
theorem info_93 : (Try.prog.info? 93).map (fun i => (i.zero, i.size, i.bytes)) = some (some (Value.pointer none), 1, 8) := by kernel_rfl
theorem info_102 : (Try.prog.info? 102).map (fun i => (i.zero, i.size, i.bytes)) = some (some (Value.slice none 0 0), 1, 24) := by kernel_rfl
theorem info_116 : (Try.prog.info? 116).map (fun i => (i.zero, i.size, i.bytes)) = some (some (Value.agg #[(Value.int .i64 0), (Value.int .i64 0), (Value.int .i64 0)]), 3, 24) := by kernel_rfl
theorem info_117 : (Try.prog.info? 117).map (fun i => (i.zero, i.size, i.bytes)) = some (some (Value.agg #[(Value.int .i64 0), (Value.int .i64 0), (Value.int .i64 0)]), 3, 24) := by kernel_rfl
theorem info_118 : (Try.prog.info? 118).map (fun i => (i.zero, i.size, i.bytes)) = some (some (Value.agg #[Value.nilFunc]), 1, 8) := by kernel_rfl
theorem info_119 : (Try.prog.info? 119).map (fun i => (i.zero, i.size, i.bytes)) = some (some (Value.agg #[Value.nilFunc]), 1, 8) := by kernel_rfl
theorem info_125 : (Try.prog.info? 125).map (fun i => (i.zero, i.size, i.bytes)) = some (some Value.nilFunc, 1, 8) := by kernel_rfl
theorem info_127 : (Try.prog.info? 127).map (fun i => (i.zero, i.size, i.bytes)) = some (some (Value.slice none 0 0), 1, 24) := by kernel_rfl
theorem info_131 : (Try.prog.info? 131).map (fun i => (i.zero, i.size, i.bytes)) = some (some Value.nilFunc, 1, 8) := by kernel_rfl
theorem info_136 : (Try.prog.info? 136).map (fun i => (i.zero, i.size, i.bytes)) = some (some (Value.agg #[(Value.int .i64 0), (Value.slice none 0 0), (Value.int .i64 0), (Value.slice none 0 0), (Value.slice none 0 0), (Value.int .i64 0)]), 6, 96) := by kernel_rfl
theorem info_137 : (Try.prog.info? 137).map (fun i => (i.zero, i.size, i.bytes)) = some (some (Value.agg #[(Value.int .i64 0), (Value.slice none 0 0), (Value.int .i64 0), (Value.slice none 0 0), (Value.slice none 0 0), (Value.int .i64 0)]), 6, 96) := by kernel_rfl
theorem info_154 : (Try.prog.info? 154).map (fun i => (i.zero, i.size, i.bytes)) = some (some (Value.agg #[(Value.int .i64 0), (Value.int .i64 0)]), 2, 16) := by kernel_rfl
theorem info_155 : (Try.prog.info? 155).map (fun i => (i.zero, i.size, i.bytes)) = some (some (Value.agg #[(Value.int .i64 0), (Value.int .i64 0)]), 2, 16) := by kernel_rfl
theorem info_161 : (Try.prog.info? 161).map (fun i => (i.zero, i.size, i.bytes)) = some (some (Value.slice none 0 0), 1, 24) := by kernel_rfl
theorem info_166 : (Try.prog.info? 166).map (fun i => (i.zero, i.size, i.bytes)) = some (some Value.nilFunc, 1, 8) := by kernel_rfl
theorem info_174 : (Try.prog.info? 174).map (fun i => (i.zero, i.size, i.bytes)) = some (some (Value.agg #[(Value.int .i64 0), (Value.int .i64 0), (Value.int .i64 0), (Value.int .i64 0), (Value.int .i64 0), (Value.int .i64 0), (Value.int .i64 0), (Value.int .i64 0), (Value.int .i64 0), (Value.int .i64 0), (Value.int .i64 0), (Value.int .i64 0)]), 12, 96) := by kernel_rfl
theorem info_175 : (Try.prog.info? 175).map (fun i => (i.zero, i.size, i.bytes)) = some (some (Value.agg #[(Value.int .i64 0), (Value.int .i64 0), (Value.int .i64 0), (Value.int .i64 0), (Value.int .i64 0), (Value.int .i64 0), (Value.int .i64 0), (Value.int .i64 0), (Value.int .i64 0), (Value.int .i64 0), (Value.int .i64 0), (Value.int .i64 0)]), 12, 96) := by kernel_rfl
theorem info_178 : (Try.prog.info? 178).map (fun i => (i.zero, i.size, i.bytes)) = some (some (Value.int .u64 0), 1, 8) := by kernel_rfl
theorem info_183 : (Try.prog.info? 183).map (fun i => (i.zero, i.size, i.bytes)) = some (some (Value.slice none 0 0), 1, 24) := by kernel_rfl
theorem info_187 : (Try.prog.info? 187).map (fun i => (i.zero, i.size, i.bytes)) = some (some (Value.pointer none), 1, 8) := by kernel_rfl
theorem info_190 : (Try.prog.info? 190).map (fun i => (i.zero, i.size, i.bytes)) = some (some (Value.int .u32 0), 1, 4) := by kernel_rfl
theorem info_193 : (Try.prog.info? 193).map (fun i => (i.zero, i.size, i.bytes)) = some (some (Value.int .u64 0), 1, 8) := by kernel_rfl
theorem info_196 : (Try.prog.info? 196).map (fun i => (i.zero, i.size, i.bytes)) = some (some (Value.agg #[(Value.int .i64 0), (Value.int .i64 0)]), 2, 16) := by kernel_rfl
theorem info_198 : (Try.prog.info? 198).map (fun i => (i.zero, i.size, i.bytes)) = some (some (Value.agg #[(Value.pointer none), (Value.pointer none), (Value.pointer none), (Value.string ⟨#[]⟩)]), 4, 40) := by kernel_rfl
theorem info_199 : (Try.prog.info? 199).map (fun i => (i.zero, i.size, i.bytes)) = some (some (Value.agg #[(Value.pointer none), (Value.pointer none), (Value.pointer none), (Value.string ⟨#[]⟩)]), 4, 40) := by kernel_rfl
theorem info_204 : (Try.prog.info? 204).map (fun i => (i.zero, i.size, i.bytes)) = some (some (Value.int .u8 0), 1, 1) := by kernel_rfl
theorem info_205 : (Try.prog.info? 205).map (fun i => (i.zero, i.size, i.bytes)) = some (some (Value.int .u8 0), 1, 1) := by kernel_rfl
theorem info_207 : (Try.prog.info? 207).map (fun i => (i.zero, i.size, i.bytes)) = some (some (Value.pointer none), 1, 8) := by kernel_rfl
theorem info_208 : (Try.prog.info? 208).map (fun i => (i.zero, i.size, i.bytes)) = some (some (Value.int .i32 0), 1, 4) := by kernel_rfl
theorem info_209 : (Try.prog.info? 209).map (fun i => (i.zero, i.size, i.bytes)) = some (some (Value.int .i32 0), 1, 4) := by kernel_rfl
theorem info_210 : (Try.prog.info? 210).map (fun i => (i.zero, i.size, i.bytes)) = some (some (Value.agg #[(Value.int .u64 0), (Value.int .u64 0), (Value.int .u32 0), (Value.int .u8 0), (Value.int .u8 0), (Value.int .u8 0), (Value.int .u8 0), Value.nilFunc, (Value.pointer none), (Value.int .i32 0), (Value.int .i32 0)]), 11, 48) := by kernel_rfl
theorem info_211 : (Try.prog.info? 211).map (fun i => (i.zero, i.size, i.bytes)) = some (some (Value.agg #[(Value.int .u64 0), (Value.int .u64 0), (Value.int .u32 0), (Value.int .u8 0), (Value.int .u8 0), (Value.int .u8 0), (Value.int .u8 0), Value.nilFunc, (Value.pointer none), (Value.int .i32 0), (Value.int .i32 0)]), 11, 48) := by kernel_rfl
theorem enter_2 : Enters Try.prog 2 := enters_of Try.func2 (by kernel_rfl) rfl
theorem enter_3 : Enters Try.prog 3 := enters_of Try.func3 (by kernel_rfl) rfl
theorem enter_4 : Enters Try.prog 4 := enters_of Try.func4 (by kernel_rfl) rfl
theorem enter_5 : Enters Try.prog 5 := enters_of Try.func5 (by kernel_rfl) rfl
theorem enter_6 : Enters Try.prog 6 := enters_of Try.func6 (by kernel_rfl) rfl
theorem enter_7 : Enters Try.prog 7 := enters_of Try.func7 (by kernel_rfl) rfl
theorem enter_8 : Enters Try.prog 8 := enters_of Try.func8 (by kernel_rfl) rfl
theorem enter_9 : Enters Try.prog 9 := enters_of Try.func9 (by kernel_rfl) rfl
theorem enter_10 : Enters Try.prog 10 := enters_of Try.func10 (by kernel_rfl) rfl
theorem enter_11 : Enters Try.prog 11 := enters_of Try.func11 (by kernel_rfl) rfl
theorem enter_12 : Enters Try.prog 12 := enters_of Try.func12 (by kernel_rfl) rfl
theorem enter_13 : Enters Try.prog 13 := enters_of Try.func13 (by kernel_rfl) rfl
theorem enter_14 : Enters Try.prog 14 := enters_of Try.func14 (by kernel_rfl) rfl
theorem enter_15 : Enters Try.prog 15 := enters_of Try.func15 (by kernel_rfl) rfl
theorem enter_16 : Enters Try.prog 16 := enters_of Try.func16 (by kernel_rfl) rfl
theorem enter_17 : Enters Try.prog 17 := enters_of Try.func17 (by kernel_rfl) rfl
theorem enter_18 : Enters Try.prog 18 := enters_of Try.func18 (by kernel_rfl) rfl
theorem enter_19 : Enters Try.prog 19 := enters_of Try.func19 (by kernel_rfl) rfl
theorem enter_20 : Enters Try.prog 20 := enters_of Try.func20 (by kernel_rfl) rfl
theorem enter_21 : Enters Try.prog 21 := enters_of Try.func21 (by kernel_rfl) rfl
theorem enter_22 : Enters Try.prog 22 := enters_of Try.func22 (by kernel_rfl) rfl
theorem enter_23 : Enters Try.prog 23 := enters_of Try.func23 (by kernel_rfl) rfl
theorem enter_24 : Enters Try.prog 24 := enters_of Try.func24 (by kernel_rfl) rfl
theorem enter_25 : Enters Try.prog 25 := enters_of Try.func25 (by kernel_rfl) rfl
theorem enter_26 : Enters Try.prog 26 := enters_of Try.func26 (by kernel_rfl) rfl
theorem enter_27 : Enters Try.prog 27 := enters_of Try.func27 (by kernel_rfl) rfl
theorem enter_28 : Enters Try.prog 28 := enters_of Try.func28 (by kernel_rfl) rfl
theorem enter_29 : Enters Try.prog 29 := enters_of Try.func29 (by kernel_rfl) rfl
theorem enter_30 : Enters Try.prog 30 := enters_of Try.func30 (by kernel_rfl) rfl
theorem enter_31 : Enters Try.prog 31 := enters_of Try.func31 (by kernel_rfl) rfl
theorem enter_32 : Enters Try.prog 32 := enters_of Try.func32 (by kernel_rfl) rfl
theorem enter_33 : Enters Try.prog 33 := enters_of Try.func33 (by kernel_rfl) rfl
theorem enter_34 : Enters Try.prog 34 := enters_of Try.func34 (by kernel_rfl) rfl
theorem enter_35 : Enters Try.prog 35 := enters_of Try.func35 (by kernel_rfl) rfl
theorem enter_36 : Enters Try.prog 36 := enters_of Try.func36 (by kernel_rfl) rfl
theorem enter_37 : Enters Try.prog 37 := enters_of Try.func37 (by kernel_rfl) rfl
theorem enter_38 : Enters Try.prog 38 := enters_of Try.func38 (by kernel_rfl) rfl
theorem enter_39 : Enters Try.prog 39 := enters_of Try.func39 (by kernel_rfl) rfl
theorem enter_40 : Enters Try.prog 40 := enters_of Try.func40 (by kernel_rfl) rfl
theorem enter_41 : Enters Try.prog 41 := enters_of Try.func41 (by kernel_rfl) rfl
theorem enter_42 : Enters Try.prog 42 := enters_of Try.func42 (by kernel_rfl) rfl
theorem enter_43 : Enters Try.prog 43 := enters_of Try.func43 (by kernel_rfl) rfl
theorem enter_44 : Enters Try.prog 44 := enters_of Try.func44 (by kernel_rfl) rfl
theorem enter_45 : Enters Try.prog 45 := enters_of Try.func45 (by kernel_rfl) rfl
theorem enter_46 : Enters Try.prog 46 := enters_of Try.func46 (by kernel_rfl) rfl
theorem enter_47 : Enters Try.prog 47 := enters_of Try.func47 (by kernel_rfl) rfl
theorem enter_48 : Enters Try.prog 48 := enters_of Try.func48 (by kernel_rfl) rfl
theorem enter_49 : Enters Try.prog 49 := enters_of Try.func49 (by kernel_rfl) rfl
theorem enter_50 : Enters Try.prog 50 := enters_of Try.func50 (by kernel_rfl) rfl
theorem enter_51 : Enters Try.prog 51 := enters_of Try.func51 (by kernel_rfl) rfl
theorem enter_52 : Enters Try.prog 52 := enters_of Try.func52 (by kernel_rfl) rfl
theorem enter_53 : Enters Try.prog 53 := enters_of Try.func53 (by kernel_rfl) rfl
theorem enter_54 : Enters Try.prog 54 := enters_of Try.func54 (by kernel_rfl) rfl
theorem enter_55 : Enters Try.prog 55 := enters_of Try.func55 (by kernel_rfl) rfl
theorem enter_56 : Enters Try.prog 56 := enters_of Try.func56 (by kernel_rfl) rfl
theorem enter_57 : Enters Try.prog 57 := enters_of Try.func57 (by kernel_rfl) rfl
theorem enter_58 : Enters Try.prog 58 := enters_of Try.func58 (by kernel_rfl) rfl
theorem enter_59 : Enters Try.prog 59 := enters_of Try.func59 (by kernel_rfl) rfl
theorem enter_60 : Enters Try.prog 60 := enters_of Try.func60 (by kernel_rfl) rfl
theorem enter_61 : Enters Try.prog 61 := enters_of Try.func61 (by kernel_rfl) rfl
theorem enter_62 : Enters Try.prog 62 := enters_of Try.func62 (by kernel_rfl) rfl
theorem enter_63 : Enters Try.prog 63 := enters_of Try.func63 (by kernel_rfl) rfl
theorem enter_64 : Enters Try.prog 64 := enters_of Try.func64 (by kernel_rfl) rfl
theorem enter_65 : Enters Try.prog 65 := enters_of Try.func65 (by kernel_rfl) rfl
theorem enter_66 : Enters Try.prog 66 := enters_of Try.func66 (by kernel_rfl) rfl
theorem enter_67 : Enters Try.prog 67 := enters_of Try.func67 (by kernel_rfl) rfl
theorem enter_68 : Enters Try.prog 68 := enters_of Try.func68 (by kernel_rfl) rfl
theorem enter_69 : Enters Try.prog 69 := enters_of Try.func69 (by kernel_rfl) rfl
theorem enter_70 : Enters Try.prog 70 := enters_of Try.func70 (by kernel_rfl) rfl
theorem enter_71 : Enters Try.prog 71 := enters_of Try.func71 (by kernel_rfl) rfl
theorem enter_72 : Enters Try.prog 72 := enters_of Try.func72 (by kernel_rfl) rfl
theorem enter_73 : Enters Try.prog 73 := enters_of Try.func73 (by kernel_rfl) rfl
theorem enter_74 : Enters Try.prog 74 := enters_of Try.func74 (by kernel_rfl) rfl
theorem enter_75 : Enters Try.prog 75 := enters_of Try.func75 (by kernel_rfl) rfl
theorem enter_76 : Enters Try.prog 76 := enters_of Try.func76 (by kernel_rfl) rfl
theorem enter_77 : Enters Try.prog 77 := enters_of Try.func77 (by kernel_rfl) rfl
theorem enter_78 : Enters Try.prog 78 := enters_of Try.func78 (by kernel_rfl) rfl
theorem enter_79 : Enters Try.prog 79 := enters_of Try.func79 (by kernel_rfl) rfl
theorem enter_80 : Enters Try.prog 80 := enters_of Try.func80 (by kernel_rfl) rfl
theorem enter_81 : Enters Try.prog 81 := enters_of Try.func81 (by kernel_rfl) rfl
theorem enter_82 : Enters Try.prog 82 := enters_of Try.func82 (by kernel_rfl) rfl
theorem enter_83 : Enters Try.prog 83 := enters_of Try.func83 (by kernel_rfl) rfl
theorem enter_84 : Enters Try.prog 84 := enters_of Try.func84 (by kernel_rfl) rfl
theorem enter_85 : Enters Try.prog 85 := enters_of Try.func85 (by kernel_rfl) rfl
theorem enter_86 : Enters Try.prog 86 := enters_of Try.func86 (by kernel_rfl) rfl
theorem enter_87 : Enters Try.prog 87 := enters_of Try.func87 (by kernel_rfl) rfl
theorem enter_88 : Enters Try.prog 88 := enters_of Try.func88 (by kernel_rfl) rfl
theorem enter_89 : Enters Try.prog 89 := enters_of Try.func89 (by kernel_rfl) rfl
theorem enter_90 : Enters Try.prog 90 := enters_of Try.func90 (by kernel_rfl) rfl
theorem enter_91 : Enters Try.prog 91 := enters_of Try.func91 (by kernel_rfl) rfl
theorem enter_92 : Enters Try.prog 92 := enters_of Try.func92 (by kernel_rfl) rfl
theorem enter_93 : Enters Try.prog 93 := enters_of Try.func93 (by kernel_rfl) rfl
theorem enter_94 : Enters Try.prog 94 := enters_of Try.func94 (by kernel_rfl) rfl
theorem enter_95 : Enters Try.prog 95 := enters_of Try.func95 (by kernel_rfl) rfl
theorem enter_96 : Enters Try.prog 96 := enters_of Try.func96 (by kernel_rfl) rfl
theorem enter_97 : Enters Try.prog 97 := enters_of Try.func97 (by kernel_rfl) rfl
theorem enter_98 : Enters Try.prog 98 := enters_of Try.func98 (by kernel_rfl) rfl
theorem enter_99 : Enters Try.prog 99 := enters_of Try.func99 (by kernel_rfl) rfl
theorem enter_100 : Enters Try.prog 100 := enters_of Try.func100 (by kernel_rfl) rfl
theorem enter_101 : Enters Try.prog 101 := enters_of Try.func101 (by kernel_rfl) rfl
theorem enter_102 : Enters Try.prog 102 := enters_of Try.func102 (by kernel_rfl) rfl
theorem enter_103 : Enters Try.prog 103 := enters_of Try.func103 (by kernel_rfl) rfl
theorem enter_104 : Enters Try.prog 104 := enters_of Try.func104 (by kernel_rfl) rfl
theorem enter_105 : Enters Try.prog 105 := enters_of Try.func105 (by kernel_rfl) rfl
theorem enter_106 : Enters Try.prog 106 := enters_of Try.func106 (by kernel_rfl) rfl
theorem enter_107 : Enters Try.prog 107 := enters_of Try.func107 (by kernel_rfl) rfl
theorem enter_108 : Enters Try.prog 108 := enters_of Try.func108 (by kernel_rfl) rfl
theorem enter_109 : Enters Try.prog 109 := enters_of Try.func109 (by kernel_rfl) rfl
theorem enter_110 : Enters Try.prog 110 := enters_of Try.func110 (by kernel_rfl) rfl
theorem enter_111 : Enters Try.prog 111 := enters_of Try.func111 (by kernel_rfl) rfl
theorem enter_112 : Enters Try.prog 112 := enters_of Try.func112 (by kernel_rfl) rfl
theorem enter_113 : Enters Try.prog 113 := enters_of Try.func113 (by kernel_rfl) rfl
theorem enter_114 : Enters Try.prog 114 := enters_of Try.func114 (by kernel_rfl) rfl
theorem enter_115 : Enters Try.prog 115 := enters_of Try.func115 (by kernel_rfl) rfl
theorem enter_116 : Enters Try.prog 116 := enters_of Try.func116 (by kernel_rfl) rfl
theorem enter_117 : Enters Try.prog 117 := enters_of Try.func117 (by kernel_rfl) rfl
theorem enter_118 : Enters Try.prog 118 := enters_of Try.func118 (by kernel_rfl) rfl
theorem enter_119 : Enters Try.prog 119 := enters_of Try.func119 (by kernel_rfl) rfl
theorem enter_120 : Enters Try.prog 120 := enters_of Try.func120 (by kernel_rfl) rfl
theorem enter_121 : Enters Try.prog 121 := enters_of Try.func121 (by kernel_rfl) rfl
theorem enter_122 : Enters Try.prog 122 := enters_of Try.func122 (by kernel_rfl) rfl
theorem enter_123 : Enters Try.prog 123 := enters_of Try.func123 (by kernel_rfl) rfl
theorem enter_124 : Enters Try.prog 124 := enters_of Try.func124 (by kernel_rfl) rfl
theorem enter_125 : Enters Try.prog 125 := enters_of Try.func125 (by kernel_rfl) rfl
theorem enter_126 : Enters Try.prog 126 := enters_of Try.func126 (by kernel_rfl) rfl
theorem enter_127 : Enters Try.prog 127 := enters_of Try.func127 (by kernel_rfl) rfl
theorem enter_128 : Enters Try.prog 128 := enters_of Try.func128 (by kernel_rfl) rfl
theorem enter_129 : Enters Try.prog 129 := enters_of Try.func129 (by kernel_rfl) rfl
theorem enter_130 : Enters Try.prog 130 := enters_of Try.func130 (by kernel_rfl) rfl
theorem enter_131 : Enters Try.prog 131 := enters_of Try.func131 (by kernel_rfl) rfl
theorem enter_132 : Enters Try.prog 132 := enters_of Try.func132 (by kernel_rfl) rfl
theorem enter_133 : Enters Try.prog 133 := enters_of Try.func133 (by kernel_rfl) rfl
theorem enter_134 : Enters Try.prog 134 := enters_of Try.func134 (by kernel_rfl) rfl
theorem enter_135 : Enters Try.prog 135 := enters_of Try.func135 (by kernel_rfl) rfl
theorem enter_136 : Enters Try.prog 136 := enters_of Try.func136 (by kernel_rfl) rfl
theorem enter_137 : Enters Try.prog 137 := enters_of Try.func137 (by kernel_rfl) rfl
theorem enter_138 : Enters Try.prog 138 := enters_of Try.func138 (by kernel_rfl) rfl
theorem enter_139 : Enters Try.prog 139 := enters_of Try.func139 (by kernel_rfl) rfl
theorem enter_140 : Enters Try.prog 140 := enters_of Try.func140 (by kernel_rfl) rfl
theorem enter_141 : Enters Try.prog 141 := enters_of Try.func141 (by kernel_rfl) rfl
theorem enter_142 : Enters Try.prog 142 := enters_of Try.func142 (by kernel_rfl) rfl
theorem enter_143 : Enters Try.prog 143 := enters_of Try.func143 (by kernel_rfl) rfl
theorem enter_144 : Enters Try.prog 144 := enters_of Try.func144 (by kernel_rfl) rfl
theorem enter_145 : Enters Try.prog 145 := enters_of Try.func145 (by kernel_rfl) rfl
theorem enter_146 : Enters Try.prog 146 := enters_of Try.func146 (by kernel_rfl) rfl
theorem enter_147 : Enters Try.prog 147 := enters_of Try.func147 (by kernel_rfl) rfl
theorem enter_148 : Enters Try.prog 148 := enters_of Try.func148 (by kernel_rfl) rfl
theorem enter_149 : Enters Try.prog 149 := enters_of Try.func149 (by kernel_rfl) rfl
theorem enter_150 : Enters Try.prog 150 := enters_of Try.func150 (by kernel_rfl) rfl
theorem enter_151 : Enters Try.prog 151 := enters_of Try.func151 (by kernel_rfl) rfl
theorem enter_152 : Enters Try.prog 152 := enters_of Try.func152 (by kernel_rfl) rfl
theorem enter_153 : Enters Try.prog 153 := enters_of Try.func153 (by kernel_rfl) rfl
theorem enter_154 : Enters Try.prog 154 := enters_of Try.func154 (by kernel_rfl) rfl
theorem enter_155 : Enters Try.prog 155 := enters_of Try.func155 (by kernel_rfl) rfl
theorem enter_156 : Enters Try.prog 156 := enters_of Try.func156 (by kernel_rfl) rfl
theorem enter_157 : Enters Try.prog 157 := enters_of Try.func157 (by kernel_rfl) rfl
theorem enter_158 : Enters Try.prog 158 := enters_of Try.func158 (by kernel_rfl) rfl
theorem enter_159 : Enters Try.prog 159 := enters_of Try.func159 (by kernel_rfl) rfl
theorem enter_160 : Enters Try.prog 160 := enters_of Try.func160 (by kernel_rfl) rfl
theorem enter_161 : Enters Try.prog 161 := enters_of Try.func161 (by kernel_rfl) rfl
theorem enter_162 : Enters Try.prog 162 := enters_of Try.func162 (by kernel_rfl) rfl
theorem enter_163 : Enters Try.prog 163 := enters_of Try.func163 (by kernel_rfl) rfl
theorem enter_164 : Enters Try.prog 164 := enters_of Try.func164 (by kernel_rfl) rfl
theorem enter_165 : Enters Try.prog 165 := enters_of Try.func165 (by kernel_rfl) rfl
theorem enter_166 : Enters Try.prog 166 := enters_of Try.func166 (by kernel_rfl) rfl
theorem enter_167 : Enters Try.prog 167 := enters_of Try.func167 (by kernel_rfl) rfl
theorem enter_168 : Enters Try.prog 168 := enters_of Try.func168 (by kernel_rfl) rfl
theorem enter_169 : Enters Try.prog 169 := enters_of Try.func169 (by kernel_rfl) rfl
theorem enter_170 : Enters Try.prog 170 := enters_of Try.func170 (by kernel_rfl) rfl
theorem enter_171 : Enters Try.prog 171 := enters_of Try.func171 (by kernel_rfl) rfl
theorem enter_172 : Enters Try.prog 172 := enters_of Try.func172 (by kernel_rfl) rfl
theorem enter_173 : Enters Try.prog 173 := enters_of Try.func173 (by kernel_rfl) rfl
theorem enter_174 : Enters Try.prog 174 := enters_of Try.func174 (by kernel_rfl) rfl
theorem enter_175 : Enters Try.prog 175 := enters_of Try.func175 (by kernel_rfl) rfl
end Go.Proofs.Ytnhmeckhlajeaaa
