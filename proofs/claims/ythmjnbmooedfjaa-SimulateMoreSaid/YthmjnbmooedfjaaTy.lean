/-
  The types of this program.
-/
import Derived.Test.YthmjnbmooedfjaaProg
import Derived.Test.YthmjnbmooedfjaaAmS
namespace Go.AM
open Go Go.Proofs

theorem tinfo_0 : tinfo Try.prog 0 = some (1, 0, some (Value.tuple (List.toArray []))) := by kernel_rfl
theorem agg_0 : aggT Try.prog 0 = some false := by kernel_rfl
theorem tinfo_1 : tinfo Try.prog 1 = some (1, 8, some Value.nilFunc) := by kernel_rfl
theorem agg_1 : aggT Try.prog 1 = some false := by kernel_rfl
theorem tinfo_2 : tinfo Try.prog 2 = some (1, 8, some (Value.int IntKind.i64 (0))) := by kernel_rfl
theorem agg_2 : aggT Try.prog 2 = some false := by kernel_rfl
theorem tinfo_3 : tinfo Try.prog 3 = some (1, 8, some (Value.int IntKind.i64 (0))) := by kernel_rfl
theorem agg_3 : aggT Try.prog 3 = some false := by kernel_rfl
theorem tinfo_4 : tinfo Try.prog 4 = some (1, 1, some (Value.bool false)) := by kernel_rfl
theorem agg_4 : aggT Try.prog 4 = some false := by kernel_rfl
theorem tinfo_5 : tinfo Try.prog 5 = some (1, 1, some (Value.int IntKind.u8 (0))) := by kernel_rfl
theorem agg_5 : aggT Try.prog 5 = some false := by kernel_rfl
theorem tinfo_6 : tinfo Try.prog 6 = some (1, 1, some (Value.int IntKind.u8 (0))) := by kernel_rfl
theorem agg_6 : aggT Try.prog 6 = some false := by kernel_rfl
theorem tinfo_7 : tinfo Try.prog 7 = some (4, 24, some (Value.agg (List.toArray [Value.int IntKind.i64 (0), Value.int IntKind.i64 (0), Value.bool false, Value.int IntKind.u8 (0)]))) := by kernel_rfl
theorem agg_7 : aggT Try.prog 7 = some true := by kernel_rfl
theorem tinfo_8 : tinfo Try.prog 8 = some (4, 24, some (Value.agg (List.toArray [Value.int IntKind.i64 (0), Value.int IntKind.i64 (0), Value.bool false, Value.int IntKind.u8 (0)]))) := by kernel_rfl
theorem agg_8 : aggT Try.prog 8 = some true := by kernel_rfl
theorem tinfo_9 : tinfo Try.prog 9 = some (1, 16, some (Value.string (ByteArray.mk (List.toArray [])))) := by kernel_rfl
theorem agg_9 : aggT Try.prog 9 = some false := by kernel_rfl
theorem tinfo_10 : tinfo Try.prog 10 = some (1, 16, some (Value.string (ByteArray.mk (List.toArray [])))) := by kernel_rfl
theorem agg_10 : aggT Try.prog 10 = some false := by kernel_rfl
theorem tinfo_11 : tinfo Try.prog 11 = some (1, 16, some (Value.string (ByteArray.mk (List.toArray [])))) := by kernel_rfl
theorem agg_11 : aggT Try.prog 11 = some false := by kernel_rfl
theorem tinfo_12 : tinfo Try.prog 12 = some (1, 8, some (Value.int IntKind.u64 (0))) := by kernel_rfl
theorem agg_12 : aggT Try.prog 12 = some false := by kernel_rfl
theorem tinfo_13 : tinfo Try.prog 13 = some (2, 24, some (Value.agg (List.toArray [Value.string (ByteArray.mk (List.toArray [])), Value.int IntKind.u64 (0)]))) := by kernel_rfl
theorem agg_13 : aggT Try.prog 13 = some true := by kernel_rfl
theorem tinfo_14 : tinfo Try.prog 14 = some (2, 24, some (Value.agg (List.toArray [Value.string (ByteArray.mk (List.toArray [])), Value.int IntKind.u64 (0)]))) := by kernel_rfl
theorem agg_14 : aggT Try.prog 14 = some true := by kernel_rfl
theorem tinfo_15 : tinfo Try.prog 15 = some (1, 8, some (Value.pointer none)) := by kernel_rfl
theorem agg_15 : aggT Try.prog 15 = some false := by kernel_rfl
theorem tinfo_16 : tinfo Try.prog 16 = some (1, 8, some (Value.pointer none)) := by kernel_rfl
theorem agg_16 : aggT Try.prog 16 = some false := by kernel_rfl
theorem tinfo_17 : tinfo Try.prog 17 = some (1, 8, some (Value.pointer none)) := by kernel_rfl
theorem agg_17 : aggT Try.prog 17 = some false := by kernel_rfl
theorem tinfo_18 : tinfo Try.prog 18 = some (1, 8, some (Value.agg (List.toArray [Value.pointer none]))) := by kernel_rfl
theorem agg_18 : aggT Try.prog 18 = some true := by kernel_rfl
theorem tinfo_19 : tinfo Try.prog 19 = some (1, 8, some (Value.agg (List.toArray [Value.pointer none]))) := by kernel_rfl
theorem agg_19 : aggT Try.prog 19 = some true := by kernel_rfl
theorem tinfo_20 : tinfo Try.prog 20 = some (1, 16, some Value.nilIface) := by kernel_rfl
theorem agg_20 : aggT Try.prog 20 = some false := by kernel_rfl
theorem tinfo_21 : tinfo Try.prog 21 = some (1, 4, some (Value.int IntKind.i32 (0))) := by kernel_rfl
theorem agg_21 : aggT Try.prog 21 = some false := by kernel_rfl
theorem tinfo_22 : tinfo Try.prog 22 = some (1, 24, some (Value.slice none 0 0)) := by kernel_rfl
theorem agg_22 : aggT Try.prog 22 = some false := by kernel_rfl
theorem tinfo_23 : tinfo Try.prog 23 = some (1, 8, some Value.nilFunc) := by kernel_rfl
theorem agg_23 : aggT Try.prog 23 = some false := by kernel_rfl
theorem tinfo_24 : tinfo Try.prog 24 = some (1, 8, some (Value.pointer none)) := by kernel_rfl
theorem agg_24 : aggT Try.prog 24 = some false := by kernel_rfl
theorem tinfo_25 : tinfo Try.prog 25 = some (1, 8, some Value.nilFunc) := by kernel_rfl
theorem agg_25 : aggT Try.prog 25 = some false := by kernel_rfl
theorem tinfo_26 : tinfo Try.prog 26 = some (1, 24, some (Value.slice none 0 0)) := by kernel_rfl
theorem agg_26 : aggT Try.prog 26 = some false := by kernel_rfl
theorem tinfo_27 : tinfo Try.prog 27 = some (1, 24, some (Value.agg (List.toArray [Value.slice none 0 0]))) := by kernel_rfl
theorem agg_27 : aggT Try.prog 27 = some true := by kernel_rfl
theorem tinfo_28 : tinfo Try.prog 28 = some (1, 24, some (Value.agg (List.toArray [Value.slice none 0 0]))) := by kernel_rfl
theorem agg_28 : aggT Try.prog 28 = some true := by kernel_rfl
theorem tinfo_29 : tinfo Try.prog 29 = some (1, 8, some Value.nilFunc) := by kernel_rfl
theorem agg_29 : aggT Try.prog 29 = some false := by kernel_rfl
theorem tinfo_30 : tinfo Try.prog 30 = some (1, 8, some (Value.int IntKind.i64 (0))) := by kernel_rfl
theorem agg_30 : aggT Try.prog 30 = some false := by kernel_rfl
theorem tinfo_31 : tinfo Try.prog 31 = some (1, 0, some (Value.tuple (List.toArray [Value.bool false, Value.int IntKind.i64 (0)]))) := by kernel_rfl
theorem agg_31 : aggT Try.prog 31 = some false := by kernel_rfl
theorem tinfo_32 : tinfo Try.prog 32 = some (1, 8, some Value.nilFunc) := by kernel_rfl
theorem agg_32 : aggT Try.prog 32 = some false := by kernel_rfl
theorem tinfo_33 : tinfo Try.prog 33 = some (1, 24, some (Value.slice none 0 0)) := by kernel_rfl
theorem agg_33 : aggT Try.prog 33 = some false := by kernel_rfl
theorem tinfo_34 : tinfo Try.prog 34 = some (1, 0, some (Value.tuple (List.toArray [Value.slice none 0 0, Value.bool false, Value.int IntKind.i64 (0)]))) := by kernel_rfl
theorem agg_34 : aggT Try.prog 34 = some false := by kernel_rfl
theorem tinfo_35 : tinfo Try.prog 35 = some (1, 8, some Value.nilFunc) := by kernel_rfl
theorem agg_35 : aggT Try.prog 35 = some false := by kernel_rfl
theorem tinfo_36 : tinfo Try.prog 36 = some (1, 8, some Value.nilFunc) := by kernel_rfl
theorem agg_36 : aggT Try.prog 36 = some false := by kernel_rfl
theorem tinfo_37 : tinfo Try.prog 37 = some (1, 8, some Value.nilFunc) := by kernel_rfl
theorem agg_37 : aggT Try.prog 37 = some false := by kernel_rfl
theorem tinfo_38 : tinfo Try.prog 38 = some (1, 8, some Value.nilFunc) := by kernel_rfl
theorem agg_38 : aggT Try.prog 38 = some false := by kernel_rfl
theorem tinfo_39 : tinfo Try.prog 39 = some (1, 24, some (Value.slice none 0 0)) := by kernel_rfl
theorem agg_39 : aggT Try.prog 39 = some false := by kernel_rfl
theorem tinfo_40 : tinfo Try.prog 40 = some (1, 0, some (Value.tuple (List.toArray [Value.slice none 0 0, Value.int IntKind.i64 (0)]))) := by kernel_rfl
theorem agg_40 : aggT Try.prog 40 = some false := by kernel_rfl
theorem tinfo_41 : tinfo Try.prog 41 = some (1, 8, some Value.nilFunc) := by kernel_rfl
theorem agg_41 : aggT Try.prog 41 = some false := by kernel_rfl
theorem tinfo_42 : tinfo Try.prog 42 = some (1, 24, some (Value.slice none 0 0)) := by kernel_rfl
theorem agg_42 : aggT Try.prog 42 = some false := by kernel_rfl
theorem tinfo_43 : tinfo Try.prog 43 = some (1, 8, some Value.nilFunc) := by kernel_rfl
theorem agg_43 : aggT Try.prog 43 = some false := by kernel_rfl
theorem tinfo_44 : tinfo Try.prog 44 = some (1, 8, some Value.nilFunc) := by kernel_rfl
theorem agg_44 : aggT Try.prog 44 = some false := by kernel_rfl
theorem tinfo_45 : tinfo Try.prog 45 = some (1, 24, some (Value.slice none 0 0)) := by kernel_rfl
theorem agg_45 : aggT Try.prog 45 = some false := by kernel_rfl
theorem tinfo_46 : tinfo Try.prog 46 = some (2, 16, some (Value.agg (List.toArray [Value.int IntKind.i64 (0), Value.int IntKind.i64 (0)]))) := by kernel_rfl
theorem agg_46 : aggT Try.prog 46 = some true := by kernel_rfl
theorem tinfo_47 : tinfo Try.prog 47 = some (2, 16, some (Value.agg (List.toArray [Value.int IntKind.i64 (0), Value.int IntKind.i64 (0)]))) := by kernel_rfl
theorem agg_47 : aggT Try.prog 47 = some true := by kernel_rfl
theorem tinfo_48 : tinfo Try.prog 48 = some (1, 24, some (Value.slice none 0 0)) := by kernel_rfl
theorem agg_48 : aggT Try.prog 48 = some false := by kernel_rfl
theorem tinfo_49 : tinfo Try.prog 49 = some (2, 48, some (Value.agg (List.toArray [Value.slice none 0 0, Value.slice none 0 0]))) := by kernel_rfl
theorem agg_49 : aggT Try.prog 49 = some true := by kernel_rfl
theorem tinfo_50 : tinfo Try.prog 50 = some (2, 48, some (Value.agg (List.toArray [Value.slice none 0 0, Value.slice none 0 0]))) := by kernel_rfl
theorem agg_50 : aggT Try.prog 50 = some true := by kernel_rfl
theorem tinfo_51 : tinfo Try.prog 51 = some (1, 8, some Value.nilFunc) := by kernel_rfl
theorem agg_51 : aggT Try.prog 51 = some false := by kernel_rfl
theorem tinfo_52 : tinfo Try.prog 52 = some (1, 24, some (Value.slice none 0 0)) := by kernel_rfl
theorem agg_52 : aggT Try.prog 52 = some false := by kernel_rfl
theorem tinfo_53 : tinfo Try.prog 53 = some (1, 0, some (Value.tuple (List.toArray [Value.agg (List.toArray [Value.slice none 0 0]), Value.int IntKind.i64 (0)]))) := by kernel_rfl
theorem agg_53 : aggT Try.prog 53 = some false := by kernel_rfl
theorem tinfo_54 : tinfo Try.prog 54 = some (1, 8, some Value.nilFunc) := by kernel_rfl
theorem agg_54 : aggT Try.prog 54 = some false := by kernel_rfl
theorem tinfo_55 : tinfo Try.prog 55 = some (1, 8, some Value.nilFunc) := by kernel_rfl
theorem agg_55 : aggT Try.prog 55 = some false := by kernel_rfl
theorem tinfo_56 : tinfo Try.prog 56 = some (1, 24, some (Value.slice none 0 0)) := by kernel_rfl
theorem agg_56 : aggT Try.prog 56 = some false := by kernel_rfl
theorem tinfo_57 : tinfo Try.prog 57 = some (1, 8, some Value.nilFunc) := by kernel_rfl
theorem agg_57 : aggT Try.prog 57 = some false := by kernel_rfl
theorem tinfo_58 : tinfo Try.prog 58 = some (1, 24, some (Value.slice none 0 0)) := by kernel_rfl
theorem agg_58 : aggT Try.prog 58 = some false := by kernel_rfl
theorem tinfo_59 : tinfo Try.prog 59 = some (1, 8, some Value.nilFunc) := by kernel_rfl
theorem agg_59 : aggT Try.prog 59 = some false := by kernel_rfl
theorem tinfo_60 : tinfo Try.prog 60 = some (1, 24, some (Value.slice none 0 0)) := by kernel_rfl
theorem agg_60 : aggT Try.prog 60 = some false := by kernel_rfl
theorem tinfo_61 : tinfo Try.prog 61 = some (1, 8, some Value.nilFunc) := by kernel_rfl
theorem agg_61 : aggT Try.prog 61 = some false := by kernel_rfl
theorem tinfo_62 : tinfo Try.prog 62 = some (2, 32, some (Value.agg (List.toArray [Value.slice none 0 0, Value.int IntKind.i64 (0)]))) := by kernel_rfl
theorem agg_62 : aggT Try.prog 62 = some true := by kernel_rfl
theorem tinfo_63 : tinfo Try.prog 63 = some (2, 32, some (Value.agg (List.toArray [Value.slice none 0 0, Value.int IntKind.i64 (0)]))) := by kernel_rfl
theorem agg_63 : aggT Try.prog 63 = some true := by kernel_rfl
theorem tinfo_64 : tinfo Try.prog 64 = some (1, 8, some Value.nilFunc) := by kernel_rfl
theorem agg_64 : aggT Try.prog 64 = some false := by kernel_rfl
theorem tinfo_65 : tinfo Try.prog 65 = some (1, 24, some (Value.slice none 0 0)) := by kernel_rfl
theorem agg_65 : aggT Try.prog 65 = some false := by kernel_rfl
theorem tinfo_66 : tinfo Try.prog 66 = some (3, 72, some (Value.agg (List.toArray [Value.slice none 0 0, Value.slice none 0 0, Value.slice none 0 0]))) := by kernel_rfl
theorem agg_66 : aggT Try.prog 66 = some true := by kernel_rfl
theorem tinfo_67 : tinfo Try.prog 67 = some (3, 72, some (Value.agg (List.toArray [Value.slice none 0 0, Value.slice none 0 0, Value.slice none 0 0]))) := by kernel_rfl
theorem agg_67 : aggT Try.prog 67 = some true := by kernel_rfl
theorem tinfo_68 : tinfo Try.prog 68 = some (1, 8, some Value.nilFunc) := by kernel_rfl
theorem agg_68 : aggT Try.prog 68 = some false := by kernel_rfl
theorem tinfo_69 : tinfo Try.prog 69 = some (1, 8, some (Value.map none)) := by kernel_rfl
theorem agg_69 : aggT Try.prog 69 = some false := by kernel_rfl
theorem tinfo_70 : tinfo Try.prog 70 = some (1, 24, some (Value.slice none 0 0)) := by kernel_rfl
theorem agg_70 : aggT Try.prog 70 = some false := by kernel_rfl
theorem tinfo_71 : tinfo Try.prog 71 = some (1, 8, some Value.nilFunc) := by kernel_rfl
theorem agg_71 : aggT Try.prog 71 = some false := by kernel_rfl
theorem tinfo_72 : tinfo Try.prog 72 = some (1, 8, some Value.nilFunc) := by kernel_rfl
theorem agg_72 : aggT Try.prog 72 = some false := by kernel_rfl
theorem tinfo_73 : tinfo Try.prog 73 = some (1, 8, some Value.nilFunc) := by kernel_rfl
theorem agg_73 : aggT Try.prog 73 = some false := by kernel_rfl
theorem tinfo_74 : tinfo Try.prog 74 = some (1, 24, some (Value.slice none 0 0)) := by kernel_rfl
theorem agg_74 : aggT Try.prog 74 = some false := by kernel_rfl
theorem tinfo_75 : tinfo Try.prog 75 = some (1, 8, some Value.nilFunc) := by kernel_rfl
theorem agg_75 : aggT Try.prog 75 = some false := by kernel_rfl
theorem tinfo_76 : tinfo Try.prog 76 = some (1, 8, some Value.nilFunc) := by kernel_rfl
theorem agg_76 : aggT Try.prog 76 = some false := by kernel_rfl
theorem tinfo_77 : tinfo Try.prog 77 = some (1, 8, some Value.nilFunc) := by kernel_rfl
theorem agg_77 : aggT Try.prog 77 = some false := by kernel_rfl
theorem tinfo_78 : tinfo Try.prog 78 = some (1, 8, some Value.nilFunc) := by kernel_rfl
theorem agg_78 : aggT Try.prog 78 = some false := by kernel_rfl
theorem tinfo_79 : tinfo Try.prog 79 = some (2, 32, some (Value.agg (List.toArray [Value.int IntKind.i64 (0), Value.slice none 0 0]))) := by kernel_rfl
theorem agg_79 : aggT Try.prog 79 = some true := by kernel_rfl
theorem tinfo_80 : tinfo Try.prog 80 = some (2, 32, some (Value.agg (List.toArray [Value.int IntKind.i64 (0), Value.slice none 0 0]))) := by kernel_rfl
theorem agg_80 : aggT Try.prog 80 = some true := by kernel_rfl
theorem tinfo_81 : tinfo Try.prog 81 = some (1, 8, some Value.nilFunc) := by kernel_rfl
theorem agg_81 : aggT Try.prog 81 = some false := by kernel_rfl
theorem tinfo_82 : tinfo Try.prog 82 = some (1, 8, some Value.nilFunc) := by kernel_rfl
theorem agg_82 : aggT Try.prog 82 = some false := by kernel_rfl
theorem tinfo_83 : tinfo Try.prog 83 = some (1, 8, some Value.nilFunc) := by kernel_rfl
theorem agg_83 : aggT Try.prog 83 = some false := by kernel_rfl
theorem tinfo_84 : tinfo Try.prog 84 = some (1, 8, some Value.nilFunc) := by kernel_rfl
theorem agg_84 : aggT Try.prog 84 = some false := by kernel_rfl
theorem tinfo_85 : tinfo Try.prog 85 = some (1, 8, some Value.nilFunc) := by kernel_rfl
theorem agg_85 : aggT Try.prog 85 = some false := by kernel_rfl
theorem tinfo_86 : tinfo Try.prog 86 = some (1, 8, some Value.nilFunc) := by kernel_rfl
theorem agg_86 : aggT Try.prog 86 = some false := by kernel_rfl
theorem tinfo_87 : tinfo Try.prog 87 = some (1, 8, some Value.nilFunc) := by kernel_rfl
theorem agg_87 : aggT Try.prog 87 = some false := by kernel_rfl
theorem tinfo_88 : tinfo Try.prog 88 = some (3, 72, some (Value.agg (List.toArray [Value.slice none 0 0, Value.slice none 0 0, Value.slice none 0 0]))) := by kernel_rfl
theorem agg_88 : aggT Try.prog 88 = some true := by kernel_rfl
theorem tinfo_89 : tinfo Try.prog 89 = some (3, 72, some (Value.agg (List.toArray [Value.slice none 0 0, Value.slice none 0 0, Value.slice none 0 0]))) := by kernel_rfl
theorem agg_89 : aggT Try.prog 89 = some true := by kernel_rfl
theorem tinfo_90 : tinfo Try.prog 90 = some (1, 24, some (Value.slice none 0 0)) := by kernel_rfl
theorem agg_90 : aggT Try.prog 90 = some false := by kernel_rfl
theorem tinfo_91 : tinfo Try.prog 91 = some (1, 8, some Value.nilFunc) := by kernel_rfl
theorem agg_91 : aggT Try.prog 91 = some false := by kernel_rfl
theorem tinfo_92 : tinfo Try.prog 92 = some (1, 8, some Value.nilFunc) := by kernel_rfl
theorem agg_92 : aggT Try.prog 92 = some false := by kernel_rfl
theorem tinfo_93 : tinfo Try.prog 93 = some (1, 8, some Value.nilFunc) := by kernel_rfl
theorem agg_93 : aggT Try.prog 93 = some false := by kernel_rfl
theorem tinfo_94 : tinfo Try.prog 94 = some (1, 8, some Value.nilFunc) := by kernel_rfl
theorem agg_94 : aggT Try.prog 94 = some false := by kernel_rfl
theorem tinfo_95 : tinfo Try.prog 95 = some (1, 8, some Value.nilFunc) := by kernel_rfl
theorem agg_95 : aggT Try.prog 95 = some false := by kernel_rfl
theorem tinfo_96 : tinfo Try.prog 96 = some (1, 8, some (Value.int IntKind.u64 (0))) := by kernel_rfl
theorem agg_96 : aggT Try.prog 96 = some false := by kernel_rfl
theorem tinfo_97 : tinfo Try.prog 97 = some (1, 0, some (Value.tuple (List.toArray [Value.int IntKind.u64 (0), Value.int IntKind.u64 (0)]))) := by kernel_rfl
theorem agg_97 : aggT Try.prog 97 = some false := by kernel_rfl
theorem tinfo_98 : tinfo Try.prog 98 = some (1, 8, some Value.nilFunc) := by kernel_rfl
theorem agg_98 : aggT Try.prog 98 = some false := by kernel_rfl
theorem tinfo_99 : tinfo Try.prog 99 = some (1, 8, some Value.nilFunc) := by kernel_rfl
theorem agg_99 : aggT Try.prog 99 = some false := by kernel_rfl
theorem tinfo_100 : tinfo Try.prog 100 = some (1, 8, some Value.nilFunc) := by kernel_rfl
theorem agg_100 : aggT Try.prog 100 = some false := by kernel_rfl
theorem tinfo_101 : tinfo Try.prog 101 = some (1, 8, some Value.nilFunc) := by kernel_rfl
theorem agg_101 : aggT Try.prog 101 = some false := by kernel_rfl
theorem tinfo_102 : tinfo Try.prog 102 = some (1, 8, some Value.nilFunc) := by kernel_rfl
theorem agg_102 : aggT Try.prog 102 = some false := by kernel_rfl
theorem tinfo_103 : tinfo Try.prog 103 = some (1, 8, some Value.nilFunc) := by kernel_rfl
theorem agg_103 : aggT Try.prog 103 = some false := by kernel_rfl
theorem tinfo_104 : tinfo Try.prog 104 = some (1, 4, some (Value.int IntKind.u32 (0))) := by kernel_rfl
theorem agg_104 : aggT Try.prog 104 = some false := by kernel_rfl
theorem tinfo_105 : tinfo Try.prog 105 = some (1, 0, some (Value.tuple (List.toArray [Value.int IntKind.u32 (0), Value.int IntKind.u32 (0)]))) := by kernel_rfl
theorem agg_105 : aggT Try.prog 105 = some false := by kernel_rfl
theorem tinfo_106 : tinfo Try.prog 106 = some (1, 8, some Value.nilFunc) := by kernel_rfl
theorem agg_106 : aggT Try.prog 106 = some false := by kernel_rfl
theorem tinfo_107 : tinfo Try.prog 107 = some (1, 8, some (Value.int IntKind.u64 (0))) := by kernel_rfl
theorem agg_107 : aggT Try.prog 107 = some false := by kernel_rfl
theorem tinfo_108 : tinfo Try.prog 108 = some (1, 0, some (Value.tuple (List.toArray [Value.int IntKind.u64 (0), Value.int IntKind.u64 (0)]))) := by kernel_rfl
theorem agg_108 : aggT Try.prog 108 = some false := by kernel_rfl
theorem tinfo_109 : tinfo Try.prog 109 = some (1, 8, some Value.nilFunc) := by kernel_rfl
theorem agg_109 : aggT Try.prog 109 = some false := by kernel_rfl
theorem tinfo_110 : tinfo Try.prog 110 = some (1, 8, some Value.nilFunc) := by kernel_rfl
theorem agg_110 : aggT Try.prog 110 = some false := by kernel_rfl
theorem tinfo_111 : tinfo Try.prog 111 = some (1, 8, some Value.nilFunc) := by kernel_rfl
theorem agg_111 : aggT Try.prog 111 = some false := by kernel_rfl
theorem tinfo_112 : tinfo Try.prog 112 = some (1, 8, some Value.nilFunc) := by kernel_rfl
theorem agg_112 : aggT Try.prog 112 = some false := by kernel_rfl
theorem tinfo_113 : tinfo Try.prog 113 = some (1, 8, some Value.nilFunc) := by kernel_rfl
theorem agg_113 : aggT Try.prog 113 = some false := by kernel_rfl
theorem tinfo_114 : tinfo Try.prog 114 = some (1, 8, some (Value.int IntKind.i64 (0))) := by kernel_rfl
theorem agg_114 : aggT Try.prog 114 = some false := by kernel_rfl
theorem tinfo_115 : tinfo Try.prog 115 = some (1, 0, some (Value.tuple (List.toArray [Value.int IntKind.i64 (0), Value.int IntKind.i64 (0)]))) := by kernel_rfl
theorem agg_115 : aggT Try.prog 115 = some false := by kernel_rfl
theorem tinfo_116 : tinfo Try.prog 116 = some (1, 8, some Value.nilFunc) := by kernel_rfl
theorem agg_116 : aggT Try.prog 116 = some false := by kernel_rfl
theorem tinfo_117 : tinfo Try.prog 117 = some (1, 8, some Value.nilFunc) := by kernel_rfl
theorem agg_117 : aggT Try.prog 117 = some false := by kernel_rfl
theorem tinfo_118 : tinfo Try.prog 118 = some (1, 8, some Value.nilFunc) := by kernel_rfl
theorem agg_118 : aggT Try.prog 118 = some false := by kernel_rfl
theorem tinfo_119 : tinfo Try.prog 119 = some (1, 8, some Value.nilFunc) := by kernel_rfl
theorem agg_119 : aggT Try.prog 119 = some false := by kernel_rfl
theorem tinfo_120 : tinfo Try.prog 120 = some (1, 0, some (Value.tuple (List.toArray [Value.int IntKind.i64 (0), Value.bool false]))) := by kernel_rfl
theorem agg_120 : aggT Try.prog 120 = some false := by kernel_rfl
theorem tinfo_121 : tinfo Try.prog 121 = some (1, 8, some Value.nilFunc) := by kernel_rfl
theorem agg_121 : aggT Try.prog 121 = some false := by kernel_rfl
theorem tinfo_122 : tinfo Try.prog 122 = some (1, 8, some Value.nilFunc) := by kernel_rfl
theorem agg_122 : aggT Try.prog 122 = some false := by kernel_rfl
theorem tinfo_123 : tinfo Try.prog 123 = some (1, 8, some Value.nilFunc) := by kernel_rfl
theorem agg_123 : aggT Try.prog 123 = some false := by kernel_rfl
theorem tinfo_124 : tinfo Try.prog 124 = some (1, 8, some Value.nilFunc) := by kernel_rfl
theorem agg_124 : aggT Try.prog 124 = some false := by kernel_rfl
theorem tinfo_125 : tinfo Try.prog 125 = some (1, 8, some (Value.int IntKind.u64 (0))) := by kernel_rfl
theorem agg_125 : aggT Try.prog 125 = some false := by kernel_rfl
theorem tinfo_126 : tinfo Try.prog 126 = some (1, 8, some Value.nilFunc) := by kernel_rfl
theorem agg_126 : aggT Try.prog 126 = some false := by kernel_rfl
theorem tinfo_127 : tinfo Try.prog 127 = some (1, 8, some Value.nilFunc) := by kernel_rfl
theorem agg_127 : aggT Try.prog 127 = some false := by kernel_rfl
theorem tinfo_128 : tinfo Try.prog 128 = some (1, 8, some Value.nilFunc) := by kernel_rfl
theorem agg_128 : aggT Try.prog 128 = some false := by kernel_rfl
theorem tinfo_129 : tinfo Try.prog 129 = some (1, 8, some (Value.pointer none)) := by kernel_rfl
theorem agg_129 : aggT Try.prog 129 = some false := by kernel_rfl
theorem tinfo_130 : tinfo Try.prog 130 = some (1, 8, some Value.nilFunc) := by kernel_rfl
theorem agg_130 : aggT Try.prog 130 = some false := by kernel_rfl
theorem tinfo_131 : tinfo Try.prog 131 = some (1, 8, some Value.nilFunc) := by kernel_rfl
theorem agg_131 : aggT Try.prog 131 = some false := by kernel_rfl
theorem tinfo_132 : tinfo Try.prog 132 = some (1, 8, some Value.nilFunc) := by kernel_rfl
theorem agg_132 : aggT Try.prog 132 = some false := by kernel_rfl
theorem tinfo_133 : tinfo Try.prog 133 = some (1, 8, some Value.nilFunc) := by kernel_rfl
theorem agg_133 : aggT Try.prog 133 = some false := by kernel_rfl
theorem tinfo_134 : tinfo Try.prog 134 = some (1, 8, some Value.nilFunc) := by kernel_rfl
theorem agg_134 : aggT Try.prog 134 = some false := by kernel_rfl
theorem tinfo_135 : tinfo Try.prog 135 = some (1, 8, some (Value.pointer none)) := by kernel_rfl
theorem agg_135 : aggT Try.prog 135 = some false := by kernel_rfl
theorem tinfo_136 : tinfo Try.prog 136 = some (1, 0, some (Value.tuple (List.toArray [Value.int IntKind.i64 (0), Value.int IntKind.i64 (0)]))) := by kernel_rfl
theorem agg_136 : aggT Try.prog 136 = some false := by kernel_rfl
theorem tinfo_137 : tinfo Try.prog 137 = some (1, 8, some Value.nilFunc) := by kernel_rfl
theorem agg_137 : aggT Try.prog 137 = some false := by kernel_rfl
theorem tinfo_138 : tinfo Try.prog 138 = some (4, 40, some (Value.agg (List.toArray [Value.pointer none, Value.pointer none, Value.pointer none, Value.string (ByteArray.mk (List.toArray []))]))) := by kernel_rfl
theorem agg_138 : aggT Try.prog 138 = some true := by kernel_rfl
theorem tinfo_139 : tinfo Try.prog 139 = some (4, 40, some (Value.agg (List.toArray [Value.pointer none, Value.pointer none, Value.pointer none, Value.string (ByteArray.mk (List.toArray []))]))) := by kernel_rfl
theorem agg_139 : aggT Try.prog 139 = some true := by kernel_rfl
theorem tinfo_140 : tinfo Try.prog 140 = some (0, 0, some (Value.agg (List.toArray []))) := by kernel_rfl
theorem agg_140 : aggT Try.prog 140 = some true := by kernel_rfl
theorem tinfo_141 : tinfo Try.prog 141 = some (0, 0, some (Value.agg (List.toArray []))) := by kernel_rfl
theorem agg_141 : aggT Try.prog 141 = some true := by kernel_rfl
theorem tinfo_142 : tinfo Try.prog 142 = some (0, 0, some (Value.agg (List.toArray []))) := by kernel_rfl
theorem agg_142 : aggT Try.prog 142 = some true := by kernel_rfl
theorem tinfo_143 : tinfo Try.prog 143 = some (1, 8, some Value.nilFunc) := by kernel_rfl
theorem agg_143 : aggT Try.prog 143 = some false := by kernel_rfl
theorem tinfo_144 : tinfo Try.prog 144 = some (1, 1, some (Value.int IntKind.u8 (0))) := by kernel_rfl
theorem agg_144 : aggT Try.prog 144 = some false := by kernel_rfl
theorem tinfo_145 : tinfo Try.prog 145 = some (1, 1, some (Value.int IntKind.u8 (0))) := by kernel_rfl
theorem agg_145 : aggT Try.prog 145 = some false := by kernel_rfl
theorem tinfo_146 : tinfo Try.prog 146 = some (1, 8, some Value.nilFunc) := by kernel_rfl
theorem agg_146 : aggT Try.prog 146 = some false := by kernel_rfl
theorem tinfo_147 : tinfo Try.prog 147 = some (1, 8, some (Value.pointer none)) := by kernel_rfl
theorem agg_147 : aggT Try.prog 147 = some false := by kernel_rfl
theorem tinfo_148 : tinfo Try.prog 148 = some (1, 4, some (Value.int IntKind.i32 (0))) := by kernel_rfl
theorem agg_148 : aggT Try.prog 148 = some false := by kernel_rfl
theorem tinfo_149 : tinfo Try.prog 149 = some (1, 4, some (Value.int IntKind.i32 (0))) := by kernel_rfl
theorem agg_149 : aggT Try.prog 149 = some false := by kernel_rfl
theorem tinfo_150 : tinfo Try.prog 150 = some (11, 48, some (Value.agg (List.toArray [Value.int IntKind.u64 (0), Value.int IntKind.u64 (0), Value.int IntKind.u32 (0), Value.int IntKind.u8 (0), Value.int IntKind.u8 (0), Value.int IntKind.u8 (0), Value.int IntKind.u8 (0), Value.nilFunc, Value.pointer none, Value.int IntKind.i32 (0), Value.int IntKind.i32 (0)]))) := by kernel_rfl
theorem agg_150 : aggT Try.prog 150 = some true := by kernel_rfl
theorem tinfo_151 : tinfo Try.prog 151 = some (11, 48, some (Value.agg (List.toArray [Value.int IntKind.u64 (0), Value.int IntKind.u64 (0), Value.int IntKind.u32 (0), Value.int IntKind.u8 (0), Value.int IntKind.u8 (0), Value.int IntKind.u8 (0), Value.int IntKind.u8 (0), Value.nilFunc, Value.pointer none, Value.int IntKind.i32 (0), Value.int IntKind.i32 (0)]))) := by kernel_rfl
theorem agg_151 : aggT Try.prog 151 = some true := by kernel_rfl
theorem tinfo_152 : tinfo Try.prog 152 = some (1, 8, some (Value.pointer none)) := by kernel_rfl
theorem agg_152 : aggT Try.prog 152 = some false := by kernel_rfl
theorem places_7 : placesOf Try.prog 7 = some [(0, 1), (1, 1), (2, 1), (3, 1)] := by kernel_rfl
theorem field_7_0 : fieldOf Try.prog 7 0 = some (0, 2) := by kernel_rfl
theorem field_7_1 : fieldOf Try.prog 7 1 = some (1, 3) := by kernel_rfl
theorem field_7_2 : fieldOf Try.prog 7 2 = some (2, 4) := by kernel_rfl
theorem field_7_3 : fieldOf Try.prog 7 3 = some (3, 6) := by kernel_rfl
theorem places_8 : placesOf Try.prog 8 = some [(0, 1), (1, 1), (2, 1), (3, 1)] := by kernel_rfl
theorem field_8_0 : fieldOf Try.prog 8 0 = some (0, 2) := by kernel_rfl
theorem field_8_1 : fieldOf Try.prog 8 1 = some (1, 3) := by kernel_rfl
theorem field_8_2 : fieldOf Try.prog 8 2 = some (2, 4) := by kernel_rfl
theorem field_8_3 : fieldOf Try.prog 8 3 = some (3, 6) := by kernel_rfl
theorem places_13 : placesOf Try.prog 13 = some [(0, 1), (1, 1)] := by kernel_rfl
theorem field_13_0 : fieldOf Try.prog 13 0 = some (0, 9) := by kernel_rfl
theorem field_13_1 : fieldOf Try.prog 13 1 = some (1, 12) := by kernel_rfl
theorem places_14 : placesOf Try.prog 14 = some [(0, 1), (1, 1)] := by kernel_rfl
theorem field_14_0 : fieldOf Try.prog 14 0 = some (0, 9) := by kernel_rfl
theorem field_14_1 : fieldOf Try.prog 14 1 = some (1, 12) := by kernel_rfl
theorem places_18 : placesOf Try.prog 18 = some [(0, 1)] := by kernel_rfl
theorem field_18_0 : fieldOf Try.prog 18 0 = some (0, 17) := by kernel_rfl
theorem places_19 : placesOf Try.prog 19 = some [(0, 1)] := by kernel_rfl
theorem field_19_0 : fieldOf Try.prog 19 0 = some (0, 17) := by kernel_rfl
theorem places_27 : placesOf Try.prog 27 = some [(0, 1)] := by kernel_rfl
theorem field_27_0 : fieldOf Try.prog 27 0 = some (0, 26) := by kernel_rfl
theorem places_28 : placesOf Try.prog 28 = some [(0, 1)] := by kernel_rfl
theorem field_28_0 : fieldOf Try.prog 28 0 = some (0, 26) := by kernel_rfl
theorem places_46 : placesOf Try.prog 46 = some [(0, 1), (1, 1)] := by kernel_rfl
theorem field_46_0 : fieldOf Try.prog 46 0 = some (0, 3) := by kernel_rfl
theorem field_46_1 : fieldOf Try.prog 46 1 = some (1, 3) := by kernel_rfl
theorem places_47 : placesOf Try.prog 47 = some [(0, 1), (1, 1)] := by kernel_rfl
theorem field_47_0 : fieldOf Try.prog 47 0 = some (0, 3) := by kernel_rfl
theorem field_47_1 : fieldOf Try.prog 47 1 = some (1, 3) := by kernel_rfl
theorem places_49 : placesOf Try.prog 49 = some [(0, 1), (1, 1)] := by kernel_rfl
theorem field_49_0 : fieldOf Try.prog 49 0 = some (0, 48) := by kernel_rfl
theorem field_49_1 : fieldOf Try.prog 49 1 = some (1, 26) := by kernel_rfl
theorem places_50 : placesOf Try.prog 50 = some [(0, 1), (1, 1)] := by kernel_rfl
theorem field_50_0 : fieldOf Try.prog 50 0 = some (0, 48) := by kernel_rfl
theorem field_50_1 : fieldOf Try.prog 50 1 = some (1, 26) := by kernel_rfl
theorem places_62 : placesOf Try.prog 62 = some [(0, 1), (1, 1)] := by kernel_rfl
theorem field_62_0 : fieldOf Try.prog 62 0 = some (0, 22) := by kernel_rfl
theorem field_62_1 : fieldOf Try.prog 62 1 = some (1, 3) := by kernel_rfl
theorem places_63 : placesOf Try.prog 63 = some [(0, 1), (1, 1)] := by kernel_rfl
theorem field_63_0 : fieldOf Try.prog 63 0 = some (0, 22) := by kernel_rfl
theorem field_63_1 : fieldOf Try.prog 63 1 = some (1, 3) := by kernel_rfl
theorem places_66 : placesOf Try.prog 66 = some [(0, 1), (1, 1), (2, 1)] := by kernel_rfl
theorem field_66_0 : fieldOf Try.prog 66 0 = some (0, 33) := by kernel_rfl
theorem field_66_1 : fieldOf Try.prog 66 1 = some (1, 65) := by kernel_rfl
theorem field_66_2 : fieldOf Try.prog 66 2 = some (2, 65) := by kernel_rfl
theorem places_67 : placesOf Try.prog 67 = some [(0, 1), (1, 1), (2, 1)] := by kernel_rfl
theorem field_67_0 : fieldOf Try.prog 67 0 = some (0, 33) := by kernel_rfl
theorem field_67_1 : fieldOf Try.prog 67 1 = some (1, 65) := by kernel_rfl
theorem field_67_2 : fieldOf Try.prog 67 2 = some (2, 65) := by kernel_rfl
theorem places_79 : placesOf Try.prog 79 = some [(0, 1), (1, 1)] := by kernel_rfl
theorem field_79_0 : fieldOf Try.prog 79 0 = some (0, 3) := by kernel_rfl
theorem field_79_1 : fieldOf Try.prog 79 1 = some (1, 48) := by kernel_rfl
theorem places_80 : placesOf Try.prog 80 = some [(0, 1), (1, 1)] := by kernel_rfl
theorem field_80_0 : fieldOf Try.prog 80 0 = some (0, 3) := by kernel_rfl
theorem field_80_1 : fieldOf Try.prog 80 1 = some (1, 48) := by kernel_rfl
theorem places_88 : placesOf Try.prog 88 = some [(0, 1), (1, 1), (2, 1)] := by kernel_rfl
theorem field_88_0 : fieldOf Try.prog 88 0 = some (0, 33) := by kernel_rfl
theorem field_88_1 : fieldOf Try.prog 88 1 = some (1, 33) := by kernel_rfl
theorem field_88_2 : fieldOf Try.prog 88 2 = some (2, 33) := by kernel_rfl
theorem places_89 : placesOf Try.prog 89 = some [(0, 1), (1, 1), (2, 1)] := by kernel_rfl
theorem field_89_0 : fieldOf Try.prog 89 0 = some (0, 33) := by kernel_rfl
theorem field_89_1 : fieldOf Try.prog 89 1 = some (1, 33) := by kernel_rfl
theorem field_89_2 : fieldOf Try.prog 89 2 = some (2, 33) := by kernel_rfl
theorem places_138 : placesOf Try.prog 138 = some [(0, 1), (1, 1), (2, 1), (3, 1)] := by kernel_rfl
theorem field_138_0 : fieldOf Try.prog 138 0 = some (0, 17) := by kernel_rfl
theorem field_138_1 : fieldOf Try.prog 138 1 = some (1, 17) := by kernel_rfl
theorem field_138_2 : fieldOf Try.prog 138 2 = some (2, 17) := by kernel_rfl
theorem field_138_3 : fieldOf Try.prog 138 3 = some (3, 9) := by kernel_rfl
theorem places_139 : placesOf Try.prog 139 = some [(0, 1), (1, 1), (2, 1), (3, 1)] := by kernel_rfl
theorem field_139_0 : fieldOf Try.prog 139 0 = some (0, 17) := by kernel_rfl
theorem field_139_1 : fieldOf Try.prog 139 1 = some (1, 17) := by kernel_rfl
theorem field_139_2 : fieldOf Try.prog 139 2 = some (2, 17) := by kernel_rfl
theorem field_139_3 : fieldOf Try.prog 139 3 = some (3, 9) := by kernel_rfl
theorem places_140 : placesOf Try.prog 140 = some [] := by kernel_rfl
theorem places_141 : placesOf Try.prog 141 = some [(0, 0)] := by kernel_rfl
theorem field_141_0 : fieldOf Try.prog 141 0 = some (0, 140) := by kernel_rfl
theorem places_142 : placesOf Try.prog 142 = some [(0, 0)] := by kernel_rfl
theorem field_142_0 : fieldOf Try.prog 142 0 = some (0, 140) := by kernel_rfl
theorem places_150 : placesOf Try.prog 150 = some [(0, 1), (1, 1), (2, 1), (3, 1), (4, 1), (5, 1), (6, 1), (7, 1), (8, 1), (9, 1), (10, 1)] := by kernel_rfl
theorem field_150_0 : fieldOf Try.prog 150 0 = some (0, 12) := by kernel_rfl
theorem field_150_1 : fieldOf Try.prog 150 1 = some (1, 12) := by kernel_rfl
theorem field_150_2 : fieldOf Try.prog 150 2 = some (2, 104) := by kernel_rfl
theorem field_150_3 : fieldOf Try.prog 150 3 = some (3, 144) := by kernel_rfl
theorem field_150_4 : fieldOf Try.prog 150 4 = some (4, 5) := by kernel_rfl
theorem field_150_5 : fieldOf Try.prog 150 5 = some (5, 5) := by kernel_rfl
theorem field_150_6 : fieldOf Try.prog 150 6 = some (6, 145) := by kernel_rfl
theorem field_150_7 : fieldOf Try.prog 150 7 = some (7, 146) := by kernel_rfl
theorem places_151 : placesOf Try.prog 151 = some [(0, 1), (1, 1), (2, 1), (3, 1), (4, 1), (5, 1), (6, 1), (7, 1), (8, 1), (9, 1), (10, 1)] := by kernel_rfl
theorem field_151_0 : fieldOf Try.prog 151 0 = some (0, 12) := by kernel_rfl
theorem field_151_1 : fieldOf Try.prog 151 1 = some (1, 12) := by kernel_rfl
theorem field_151_2 : fieldOf Try.prog 151 2 = some (2, 104) := by kernel_rfl
theorem field_151_3 : fieldOf Try.prog 151 3 = some (3, 144) := by kernel_rfl
theorem field_151_4 : fieldOf Try.prog 151 4 = some (4, 5) := by kernel_rfl
theorem field_151_5 : fieldOf Try.prog 151 5 = some (5, 5) := by kernel_rfl
theorem field_151_6 : fieldOf Try.prog 151 6 = some (6, 145) := by kernel_rfl
theorem field_151_7 : fieldOf Try.prog 151 7 = some (7, 146) := by kernel_rfl
theorem mixed : Try.prog.follows .mixedOrders = true := by kernel_rfl
attribute [go_sem] tinfo_0 agg_0 Try.underlying0 tinfo_1 agg_1 Try.underlying1 tinfo_2 agg_2 Try.underlying2 tinfo_3 agg_3 Try.underlying3 tinfo_4 agg_4 Try.underlying4 tinfo_5 agg_5 Try.underlying5 tinfo_6 agg_6 Try.underlying6 tinfo_7 agg_7 Try.underlying7 tinfo_8 agg_8 Try.underlying8 tinfo_9 agg_9 Try.underlying9 tinfo_10 agg_10 Try.underlying10 tinfo_11 agg_11 Try.underlying11 tinfo_12 agg_12 Try.underlying12 tinfo_13 agg_13 Try.underlying13 tinfo_14 agg_14 Try.underlying14 tinfo_15 agg_15 Try.underlying15 tinfo_16 agg_16 Try.underlying16 tinfo_17 agg_17 Try.underlying17 tinfo_18 agg_18 Try.underlying18 tinfo_19 agg_19 Try.underlying19 tinfo_20 agg_20 Try.underlying20 tinfo_21 agg_21 Try.underlying21 tinfo_22 agg_22 Try.underlying22 tinfo_23 agg_23 Try.underlying23 tinfo_24 agg_24 Try.underlying24 tinfo_25 agg_25 Try.underlying25 tinfo_26 agg_26 Try.underlying26 tinfo_27 agg_27 Try.underlying27 tinfo_28 agg_28 Try.underlying28 tinfo_29 agg_29 Try.underlying29 tinfo_30 agg_30 Try.underlying30 tinfo_31 agg_31 Try.underlying31 tinfo_32 agg_32 Try.underlying32 tinfo_33 agg_33 Try.underlying33 tinfo_34 agg_34 Try.underlying34 tinfo_35 agg_35 Try.underlying35 tinfo_36 agg_36 Try.underlying36 tinfo_37 agg_37 Try.underlying37 tinfo_38 agg_38 Try.underlying38 tinfo_39 agg_39 Try.underlying39 tinfo_40 agg_40 Try.underlying40 tinfo_41 agg_41 Try.underlying41 tinfo_42 agg_42 Try.underlying42 tinfo_43 agg_43 Try.underlying43 tinfo_44 agg_44 Try.underlying44 tinfo_45 agg_45 Try.underlying45 tinfo_46 agg_46 Try.underlying46 tinfo_47 agg_47 Try.underlying47 tinfo_48 agg_48 Try.underlying48 tinfo_49 agg_49 Try.underlying49 tinfo_50 agg_50 Try.underlying50 tinfo_51 agg_51 Try.underlying51 tinfo_52 agg_52 Try.underlying52 tinfo_53 agg_53 Try.underlying53 tinfo_54 agg_54 Try.underlying54 tinfo_55 agg_55 Try.underlying55 tinfo_56 agg_56 Try.underlying56 tinfo_57 agg_57 Try.underlying57 tinfo_58 agg_58 Try.underlying58 tinfo_59 agg_59 Try.underlying59 tinfo_60 agg_60 Try.underlying60 tinfo_61 agg_61 Try.underlying61 tinfo_62 agg_62 Try.underlying62 tinfo_63 agg_63 Try.underlying63 tinfo_64 agg_64 Try.underlying64 tinfo_65 agg_65 Try.underlying65 tinfo_66 agg_66 Try.underlying66 tinfo_67 agg_67 Try.underlying67 tinfo_68 agg_68 Try.underlying68 tinfo_69 agg_69 Try.underlying69 tinfo_70 agg_70 Try.underlying70 tinfo_71 agg_71 Try.underlying71 tinfo_72 agg_72 Try.underlying72 tinfo_73 agg_73 Try.underlying73 tinfo_74 agg_74 Try.underlying74 tinfo_75 agg_75 Try.underlying75 tinfo_76 agg_76 Try.underlying76 tinfo_77 agg_77 Try.underlying77 tinfo_78 agg_78 Try.underlying78 tinfo_79 agg_79 Try.underlying79 tinfo_80 agg_80 Try.underlying80 tinfo_81 agg_81 Try.underlying81 tinfo_82 agg_82 Try.underlying82 tinfo_83 agg_83 Try.underlying83 tinfo_84 agg_84 Try.underlying84 tinfo_85 agg_85 Try.underlying85 tinfo_86 agg_86 Try.underlying86 tinfo_87 agg_87 Try.underlying87 tinfo_88 agg_88 Try.underlying88 tinfo_89 agg_89 Try.underlying89 tinfo_90 agg_90 Try.underlying90 tinfo_91 agg_91 Try.underlying91 tinfo_92 agg_92 Try.underlying92 tinfo_93 agg_93 Try.underlying93 tinfo_94 agg_94 Try.underlying94 tinfo_95 agg_95 Try.underlying95 tinfo_96 agg_96 Try.underlying96 tinfo_97 agg_97 Try.underlying97 tinfo_98 agg_98 Try.underlying98 tinfo_99 agg_99 Try.underlying99 tinfo_100 agg_100 Try.underlying100 tinfo_101 agg_101 Try.underlying101 tinfo_102 agg_102 Try.underlying102 tinfo_103 agg_103 Try.underlying103 tinfo_104 agg_104 Try.underlying104 tinfo_105 agg_105 Try.underlying105 tinfo_106 agg_106 Try.underlying106 tinfo_107 agg_107 Try.underlying107 tinfo_108 agg_108 Try.underlying108 tinfo_109 agg_109 Try.underlying109 tinfo_110 agg_110 Try.underlying110 tinfo_111 agg_111 Try.underlying111 tinfo_112 agg_112 Try.underlying112 tinfo_113 agg_113 Try.underlying113 tinfo_114 agg_114 Try.underlying114 tinfo_115 agg_115 Try.underlying115 tinfo_116 agg_116 Try.underlying116 tinfo_117 agg_117 Try.underlying117 tinfo_118 agg_118 Try.underlying118 tinfo_119 agg_119 Try.underlying119 tinfo_120 agg_120 Try.underlying120 tinfo_121 agg_121 Try.underlying121 tinfo_122 agg_122 Try.underlying122 tinfo_123 agg_123 Try.underlying123 tinfo_124 agg_124 Try.underlying124 tinfo_125 agg_125 Try.underlying125 tinfo_126 agg_126 Try.underlying126 tinfo_127 agg_127 Try.underlying127 tinfo_128 agg_128 Try.underlying128 tinfo_129 agg_129 Try.underlying129 tinfo_130 agg_130 Try.underlying130 tinfo_131 agg_131 Try.underlying131 tinfo_132 agg_132 Try.underlying132 tinfo_133 agg_133 Try.underlying133 tinfo_134 agg_134 Try.underlying134 tinfo_135 agg_135 Try.underlying135 tinfo_136 agg_136 Try.underlying136 tinfo_137 agg_137 Try.underlying137 tinfo_138 agg_138 Try.underlying138 tinfo_139 agg_139 Try.underlying139 tinfo_140 agg_140 Try.underlying140 tinfo_141 agg_141 Try.underlying141 tinfo_142 agg_142 Try.underlying142 tinfo_143 agg_143 Try.underlying143 tinfo_144 agg_144 Try.underlying144 tinfo_145 agg_145 Try.underlying145 tinfo_146 agg_146 Try.underlying146 tinfo_147 agg_147 Try.underlying147 tinfo_148 agg_148 Try.underlying148 tinfo_149 agg_149 Try.underlying149 tinfo_150 agg_150 Try.underlying150 tinfo_151 agg_151 Try.underlying151 tinfo_152 agg_152 Try.underlying152 places_7 field_7_0 field_7_1 field_7_2 field_7_3 places_8 field_8_0 field_8_1 field_8_2 field_8_3 places_13 field_13_0 field_13_1 places_14 field_14_0 field_14_1 places_18 field_18_0 places_19 field_19_0 places_27 field_27_0 places_28 field_28_0 places_46 field_46_0 field_46_1 places_47 field_47_0 field_47_1 places_49 field_49_0 field_49_1 places_50 field_50_0 field_50_1 places_62 field_62_0 field_62_1 places_63 field_63_0 field_63_1 places_66 field_66_0 field_66_1 field_66_2 places_67 field_67_0 field_67_1 field_67_2 places_79 field_79_0 field_79_1 places_80 field_80_0 field_80_1 places_88 field_88_0 field_88_1 field_88_2 places_89 field_89_0 field_89_1 field_89_2 places_138 field_138_0 field_138_1 field_138_2 field_138_3 places_139 field_139_0 field_139_1 field_139_2 field_139_3 places_140 places_141 field_141_0 places_142 field_142_0 places_150 field_150_0 field_150_1 field_150_2 field_150_3 field_150_4 field_150_5 field_150_6 field_150_7 places_151 field_151_0 field_151_1 field_151_2 field_151_3 field_151_4 field_151_5 field_151_6 field_151_7
end Go.AM
