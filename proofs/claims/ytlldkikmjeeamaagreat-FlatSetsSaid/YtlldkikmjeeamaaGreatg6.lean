/-
  The types of this program.
  The abstract machine: a region that draws its order, some of whose operations only name places: these may be taken ahead of all others.
  From the contract of a law to its row: arguments as they are read, and what the row asks behind the call.
  An abstract machine: variables of rounds that are over.
  The abstract machine: a region that draws its order, walked in every order that its edges allow (a tree of orders).
-/
import Derived.Test.YtlldkikmjeeamaaGreatProg
import Derived.Test.YtlldkikmjeeamaaGreatg5
import Derived.ProofKit
import Derived.Deep.Slices
import Derived.OpenShut
/-! ## Ty -/
namespace Go.AM
open Go Go.Proofs

theorem tinfo_0 : tinfo Tryz.prog 0 = some (1, 0, some (Value.tuple (List.toArray []))) := by kernel_rfl
theorem agg_0 : aggT Tryz.prog 0 = some false := by kernel_rfl
theorem tinfo_1 : tinfo Tryz.prog 1 = some (1, 8, some Value.nilFunc) := by kernel_rfl
theorem agg_1 : aggT Tryz.prog 1 = some false := by kernel_rfl
theorem tinfo_2 : tinfo Tryz.prog 2 = some (1, 8, some (Value.int IntKind.i64 (0))) := by kernel_rfl
theorem agg_2 : aggT Tryz.prog 2 = some false := by kernel_rfl
theorem tinfo_3 : tinfo Tryz.prog 3 = some (1, 8, some (Value.int IntKind.i64 (0))) := by kernel_rfl
theorem agg_3 : aggT Tryz.prog 3 = some false := by kernel_rfl
theorem tinfo_4 : tinfo Tryz.prog 4 = some (1, 1, some (Value.bool false)) := by kernel_rfl
theorem agg_4 : aggT Tryz.prog 4 = some false := by kernel_rfl
theorem tinfo_5 : tinfo Tryz.prog 5 = some (1, 1, some (Value.int IntKind.u8 (0))) := by kernel_rfl
theorem agg_5 : aggT Tryz.prog 5 = some false := by kernel_rfl
theorem tinfo_6 : tinfo Tryz.prog 6 = some (1, 1, some (Value.int IntKind.u8 (0))) := by kernel_rfl
theorem agg_6 : aggT Tryz.prog 6 = some false := by kernel_rfl
theorem tinfo_7 : tinfo Tryz.prog 7 = some (4, 24, some (Value.agg (List.toArray [Value.int IntKind.i64 (0), Value.int IntKind.i64 (0), Value.bool false, Value.int IntKind.u8 (0)]))) := by kernel_rfl
theorem agg_7 : aggT Tryz.prog 7 = some true := by kernel_rfl
theorem tinfo_8 : tinfo Tryz.prog 8 = some (4, 24, some (Value.agg (List.toArray [Value.int IntKind.i64 (0), Value.int IntKind.i64 (0), Value.bool false, Value.int IntKind.u8 (0)]))) := by kernel_rfl
theorem agg_8 : aggT Tryz.prog 8 = some true := by kernel_rfl
theorem tinfo_9 : tinfo Tryz.prog 9 = some (1, 16, some (Value.string (ByteArray.mk (List.toArray [])))) := by kernel_rfl
theorem agg_9 : aggT Tryz.prog 9 = some false := by kernel_rfl
theorem tinfo_10 : tinfo Tryz.prog 10 = some (1, 16, some (Value.string (ByteArray.mk (List.toArray [])))) := by kernel_rfl
theorem agg_10 : aggT Tryz.prog 10 = some false := by kernel_rfl
theorem tinfo_11 : tinfo Tryz.prog 11 = some (1, 16, some (Value.string (ByteArray.mk (List.toArray [])))) := by kernel_rfl
theorem agg_11 : aggT Tryz.prog 11 = some false := by kernel_rfl
theorem tinfo_12 : tinfo Tryz.prog 12 = some (1, 8, some (Value.int IntKind.u64 (0))) := by kernel_rfl
theorem agg_12 : aggT Tryz.prog 12 = some false := by kernel_rfl
theorem tinfo_13 : tinfo Tryz.prog 13 = some (2, 24, some (Value.agg (List.toArray [Value.string (ByteArray.mk (List.toArray [])), Value.int IntKind.u64 (0)]))) := by kernel_rfl
theorem agg_13 : aggT Tryz.prog 13 = some true := by kernel_rfl
theorem tinfo_14 : tinfo Tryz.prog 14 = some (2, 24, some (Value.agg (List.toArray [Value.string (ByteArray.mk (List.toArray [])), Value.int IntKind.u64 (0)]))) := by kernel_rfl
theorem agg_14 : aggT Tryz.prog 14 = some true := by kernel_rfl
theorem tinfo_15 : tinfo Tryz.prog 15 = some (1, 8, some (Value.pointer none)) := by kernel_rfl
theorem agg_15 : aggT Tryz.prog 15 = some false := by kernel_rfl
theorem tinfo_16 : tinfo Tryz.prog 16 = some (1, 8, some (Value.pointer none)) := by kernel_rfl
theorem agg_16 : aggT Tryz.prog 16 = some false := by kernel_rfl
theorem tinfo_17 : tinfo Tryz.prog 17 = some (1, 8, some (Value.pointer none)) := by kernel_rfl
theorem agg_17 : aggT Tryz.prog 17 = some false := by kernel_rfl
theorem tinfo_18 : tinfo Tryz.prog 18 = some (1, 8, some (Value.agg (List.toArray [Value.pointer none]))) := by kernel_rfl
theorem agg_18 : aggT Tryz.prog 18 = some true := by kernel_rfl
theorem tinfo_19 : tinfo Tryz.prog 19 = some (1, 8, some (Value.agg (List.toArray [Value.pointer none]))) := by kernel_rfl
theorem agg_19 : aggT Tryz.prog 19 = some true := by kernel_rfl
theorem tinfo_20 : tinfo Tryz.prog 20 = some (1, 16, some Value.nilIface) := by kernel_rfl
theorem agg_20 : aggT Tryz.prog 20 = some false := by kernel_rfl
theorem tinfo_21 : tinfo Tryz.prog 21 = some (1, 4, some (Value.int IntKind.i32 (0))) := by kernel_rfl
theorem agg_21 : aggT Tryz.prog 21 = some false := by kernel_rfl
theorem tinfo_22 : tinfo Tryz.prog 22 = some (1, 24, some (Value.slice none 0 0)) := by kernel_rfl
theorem agg_22 : aggT Tryz.prog 22 = some false := by kernel_rfl
theorem tinfo_23 : tinfo Tryz.prog 23 = some (1, 8, some Value.nilFunc) := by kernel_rfl
theorem agg_23 : aggT Tryz.prog 23 = some false := by kernel_rfl
theorem tinfo_24 : tinfo Tryz.prog 24 = some (1, 8, some (Value.pointer none)) := by kernel_rfl
theorem agg_24 : aggT Tryz.prog 24 = some false := by kernel_rfl
theorem tinfo_25 : tinfo Tryz.prog 25 = some (1, 8, some Value.nilFunc) := by kernel_rfl
theorem agg_25 : aggT Tryz.prog 25 = some false := by kernel_rfl
theorem tinfo_26 : tinfo Tryz.prog 26 = some (1, 24, some (Value.slice none 0 0)) := by kernel_rfl
theorem agg_26 : aggT Tryz.prog 26 = some false := by kernel_rfl
theorem tinfo_27 : tinfo Tryz.prog 27 = some (1, 24, some (Value.slice none 0 0)) := by kernel_rfl
theorem agg_27 : aggT Tryz.prog 27 = some false := by kernel_rfl
theorem tinfo_28 : tinfo Tryz.prog 28 = some (1, 24, some (Value.slice none 0 0)) := by kernel_rfl
theorem agg_28 : aggT Tryz.prog 28 = some false := by kernel_rfl
theorem tinfo_29 : tinfo Tryz.prog 29 = some (1, 24, some (Value.slice none 0 0)) := by kernel_rfl
theorem agg_29 : aggT Tryz.prog 29 = some false := by kernel_rfl
theorem tinfo_30 : tinfo Tryz.prog 30 = some (2, 32, some (Value.agg (List.toArray [Value.int IntKind.i64 (0), Value.slice none 0 0]))) := by kernel_rfl
theorem agg_30 : aggT Tryz.prog 30 = some true := by kernel_rfl
theorem tinfo_31 : tinfo Tryz.prog 31 = some (2, 32, some (Value.agg (List.toArray [Value.int IntKind.i64 (0), Value.slice none 0 0]))) := by kernel_rfl
theorem agg_31 : aggT Tryz.prog 31 = some true := by kernel_rfl
theorem tinfo_32 : tinfo Tryz.prog 32 = some (10, 176, some (Value.agg (List.toArray [Value.int IntKind.i64 (0), Value.slice none 0 0, Value.slice none 0 0, Value.slice none 0 0, Value.slice none 0 0, Value.int IntKind.i64 (0), Value.int IntKind.i64 (0), Value.slice none 0 0, Value.int IntKind.i64 (0), Value.slice none 0 0]))) := by kernel_rfl
theorem agg_32 : aggT Tryz.prog 32 = some true := by kernel_rfl
theorem tinfo_33 : tinfo Tryz.prog 33 = some (10, 176, some (Value.agg (List.toArray [Value.int IntKind.i64 (0), Value.slice none 0 0, Value.slice none 0 0, Value.slice none 0 0, Value.slice none 0 0, Value.int IntKind.i64 (0), Value.int IntKind.i64 (0), Value.slice none 0 0, Value.int IntKind.i64 (0), Value.slice none 0 0]))) := by kernel_rfl
theorem agg_33 : aggT Tryz.prog 33 = some true := by kernel_rfl
theorem tinfo_34 : tinfo Tryz.prog 34 = some (1, 8, some Value.nilFunc) := by kernel_rfl
theorem agg_34 : aggT Tryz.prog 34 = some false := by kernel_rfl
theorem tinfo_35 : tinfo Tryz.prog 35 = some (1, 8, some Value.nilFunc) := by kernel_rfl
theorem agg_35 : aggT Tryz.prog 35 = some false := by kernel_rfl
theorem tinfo_36 : tinfo Tryz.prog 36 = some (1, 8, some (Value.int IntKind.i64 (0))) := by kernel_rfl
theorem agg_36 : aggT Tryz.prog 36 = some false := by kernel_rfl
theorem tinfo_37 : tinfo Tryz.prog 37 = some (1, 0, some (Value.tuple (List.toArray [Value.int IntKind.i64 (0), Value.int IntKind.i64 (0)]))) := by kernel_rfl
theorem agg_37 : aggT Tryz.prog 37 = some false := by kernel_rfl
theorem tinfo_38 : tinfo Tryz.prog 38 = some (1, 8, some Value.nilFunc) := by kernel_rfl
theorem agg_38 : aggT Tryz.prog 38 = some false := by kernel_rfl
theorem tinfo_39 : tinfo Tryz.prog 39 = some (1, 8, some Value.nilFunc) := by kernel_rfl
theorem agg_39 : aggT Tryz.prog 39 = some false := by kernel_rfl
theorem tinfo_40 : tinfo Tryz.prog 40 = some (1, 0, some (Value.tuple (List.toArray [Value.int IntKind.i64 (0), Value.bool false, Value.int IntKind.i64 (0)]))) := by kernel_rfl
theorem agg_40 : aggT Tryz.prog 40 = some false := by kernel_rfl
theorem tinfo_41 : tinfo Tryz.prog 41 = some (1, 8, some Value.nilFunc) := by kernel_rfl
theorem agg_41 : aggT Tryz.prog 41 = some false := by kernel_rfl
theorem tinfo_42 : tinfo Tryz.prog 42 = some (1, 0, some (Value.tuple (List.toArray [Value.slice none 0 0, Value.int IntKind.i64 (0)]))) := by kernel_rfl
theorem agg_42 : aggT Tryz.prog 42 = some false := by kernel_rfl
theorem tinfo_43 : tinfo Tryz.prog 43 = some (1, 8, some Value.nilFunc) := by kernel_rfl
theorem agg_43 : aggT Tryz.prog 43 = some false := by kernel_rfl
theorem tinfo_44 : tinfo Tryz.prog 44 = some (1, 8, some Value.nilFunc) := by kernel_rfl
theorem agg_44 : aggT Tryz.prog 44 = some false := by kernel_rfl
theorem tinfo_45 : tinfo Tryz.prog 45 = some (1, 0, some (Value.tuple (List.toArray [Value.slice none 0 0, Value.int IntKind.i64 (0)]))) := by kernel_rfl
theorem agg_45 : aggT Tryz.prog 45 = some false := by kernel_rfl
theorem tinfo_46 : tinfo Tryz.prog 46 = some (1, 8, some Value.nilFunc) := by kernel_rfl
theorem agg_46 : aggT Tryz.prog 46 = some false := by kernel_rfl
theorem tinfo_47 : tinfo Tryz.prog 47 = some (1, 8, some Value.nilFunc) := by kernel_rfl
theorem agg_47 : aggT Tryz.prog 47 = some false := by kernel_rfl
theorem tinfo_48 : tinfo Tryz.prog 48 = some (1, 8, some Value.nilFunc) := by kernel_rfl
theorem agg_48 : aggT Tryz.prog 48 = some false := by kernel_rfl
theorem tinfo_49 : tinfo Tryz.prog 49 = some (1, 8, some Value.nilFunc) := by kernel_rfl
theorem agg_49 : aggT Tryz.prog 49 = some false := by kernel_rfl
theorem tinfo_50 : tinfo Tryz.prog 50 = some (1, 8, some Value.nilFunc) := by kernel_rfl
theorem agg_50 : aggT Tryz.prog 50 = some false := by kernel_rfl
theorem tinfo_51 : tinfo Tryz.prog 51 = some (1, 24, some (Value.slice none 0 0)) := by kernel_rfl
theorem agg_51 : aggT Tryz.prog 51 = some false := by kernel_rfl
theorem tinfo_52 : tinfo Tryz.prog 52 = some (2, 48, some (Value.agg (List.toArray [Value.slice none 0 0, Value.slice none 0 0]))) := by kernel_rfl
theorem agg_52 : aggT Tryz.prog 52 = some true := by kernel_rfl
theorem tinfo_53 : tinfo Tryz.prog 53 = some (2, 48, some (Value.agg (List.toArray [Value.slice none 0 0, Value.slice none 0 0]))) := by kernel_rfl
theorem agg_53 : aggT Tryz.prog 53 = some true := by kernel_rfl
theorem tinfo_54 : tinfo Tryz.prog 54 = some (1, 0, some (Value.tuple (List.toArray [Value.agg (List.toArray [Value.slice none 0 0, Value.slice none 0 0]), Value.int IntKind.i64 (0)]))) := by kernel_rfl
theorem agg_54 : aggT Tryz.prog 54 = some false := by kernel_rfl
theorem tinfo_55 : tinfo Tryz.prog 55 = some (1, 8, some Value.nilFunc) := by kernel_rfl
theorem agg_55 : aggT Tryz.prog 55 = some false := by kernel_rfl
theorem tinfo_56 : tinfo Tryz.prog 56 = some (1, 8, some Value.nilFunc) := by kernel_rfl
theorem agg_56 : aggT Tryz.prog 56 = some false := by kernel_rfl
theorem tinfo_57 : tinfo Tryz.prog 57 = some (1, 24, some (Value.slice none 0 0)) := by kernel_rfl
theorem agg_57 : aggT Tryz.prog 57 = some false := by kernel_rfl
theorem tinfo_58 : tinfo Tryz.prog 58 = some (1, 0, some (Value.tuple (List.toArray [Value.slice none 0 0, Value.int IntKind.i64 (0)]))) := by kernel_rfl
theorem agg_58 : aggT Tryz.prog 58 = some false := by kernel_rfl
theorem tinfo_59 : tinfo Tryz.prog 59 = some (1, 8, some Value.nilFunc) := by kernel_rfl
theorem agg_59 : aggT Tryz.prog 59 = some false := by kernel_rfl
theorem tinfo_60 : tinfo Tryz.prog 60 = some (1, 8, some Value.nilFunc) := by kernel_rfl
theorem agg_60 : aggT Tryz.prog 60 = some false := by kernel_rfl
theorem tinfo_61 : tinfo Tryz.prog 61 = some (1, 8, some Value.nilFunc) := by kernel_rfl
theorem agg_61 : aggT Tryz.prog 61 = some false := by kernel_rfl
theorem tinfo_62 : tinfo Tryz.prog 62 = some (1, 8, some Value.nilFunc) := by kernel_rfl
theorem agg_62 : aggT Tryz.prog 62 = some false := by kernel_rfl
theorem tinfo_63 : tinfo Tryz.prog 63 = some (3, 56, some (Value.agg (List.toArray [Value.slice none 0 0, Value.int IntKind.i64 (0), Value.slice none 0 0]))) := by kernel_rfl
theorem agg_63 : aggT Tryz.prog 63 = some true := by kernel_rfl
theorem tinfo_64 : tinfo Tryz.prog 64 = some (3, 56, some (Value.agg (List.toArray [Value.slice none 0 0, Value.int IntKind.i64 (0), Value.slice none 0 0]))) := by kernel_rfl
theorem agg_64 : aggT Tryz.prog 64 = some true := by kernel_rfl
theorem tinfo_65 : tinfo Tryz.prog 65 = some (1, 8, some Value.nilFunc) := by kernel_rfl
theorem agg_65 : aggT Tryz.prog 65 = some false := by kernel_rfl
theorem tinfo_66 : tinfo Tryz.prog 66 = some (1, 8, some Value.nilFunc) := by kernel_rfl
theorem agg_66 : aggT Tryz.prog 66 = some false := by kernel_rfl
theorem tinfo_67 : tinfo Tryz.prog 67 = some (1, 24, some (Value.slice none 0 0)) := by kernel_rfl
theorem agg_67 : aggT Tryz.prog 67 = some false := by kernel_rfl
theorem tinfo_68 : tinfo Tryz.prog 68 = some (1, 0, some (Value.tuple (List.toArray [Value.agg (List.toArray [Value.int IntKind.i64 (0), Value.slice none 0 0]), Value.slice none 0 0]))) := by kernel_rfl
theorem agg_68 : aggT Tryz.prog 68 = some false := by kernel_rfl
theorem tinfo_69 : tinfo Tryz.prog 69 = some (1, 8, some Value.nilFunc) := by kernel_rfl
theorem agg_69 : aggT Tryz.prog 69 = some false := by kernel_rfl
theorem tinfo_70 : tinfo Tryz.prog 70 = some (3, 40, some (Value.agg (List.toArray [Value.int IntKind.i64 (0), Value.int IntKind.i64 (0), Value.slice none 0 0]))) := by kernel_rfl
theorem agg_70 : aggT Tryz.prog 70 = some true := by kernel_rfl
theorem tinfo_71 : tinfo Tryz.prog 71 = some (3, 40, some (Value.agg (List.toArray [Value.int IntKind.i64 (0), Value.int IntKind.i64 (0), Value.slice none 0 0]))) := by kernel_rfl
theorem agg_71 : aggT Tryz.prog 71 = some true := by kernel_rfl
theorem tinfo_72 : tinfo Tryz.prog 72 = some (1, 0, some (Value.tuple (List.toArray [Value.bool false, Value.int IntKind.i64 (0)]))) := by kernel_rfl
theorem agg_72 : aggT Tryz.prog 72 = some false := by kernel_rfl
theorem tinfo_73 : tinfo Tryz.prog 73 = some (1, 8, some Value.nilFunc) := by kernel_rfl
theorem agg_73 : aggT Tryz.prog 73 = some false := by kernel_rfl
theorem tinfo_74 : tinfo Tryz.prog 74 = some (1, 0, some (Value.tuple (List.toArray [Value.agg (List.toArray [Value.slice none 0 0, Value.int IntKind.i64 (0), Value.slice none 0 0]), Value.bool false, Value.int IntKind.i64 (0)]))) := by kernel_rfl
theorem agg_74 : aggT Tryz.prog 74 = some false := by kernel_rfl
theorem tinfo_75 : tinfo Tryz.prog 75 = some (1, 8, some Value.nilFunc) := by kernel_rfl
theorem agg_75 : aggT Tryz.prog 75 = some false := by kernel_rfl
theorem tinfo_76 : tinfo Tryz.prog 76 = some (1, 8, some Value.nilFunc) := by kernel_rfl
theorem agg_76 : aggT Tryz.prog 76 = some false := by kernel_rfl
theorem tinfo_77 : tinfo Tryz.prog 77 = some (1, 8, some Value.nilFunc) := by kernel_rfl
theorem agg_77 : aggT Tryz.prog 77 = some false := by kernel_rfl
theorem tinfo_78 : tinfo Tryz.prog 78 = some (1, 8, some Value.nilFunc) := by kernel_rfl
theorem agg_78 : aggT Tryz.prog 78 = some false := by kernel_rfl
theorem tinfo_79 : tinfo Tryz.prog 79 = some (1, 24, some (Value.slice none 0 0)) := by kernel_rfl
theorem agg_79 : aggT Tryz.prog 79 = some false := by kernel_rfl
theorem tinfo_80 : tinfo Tryz.prog 80 = some (1, 8, some Value.nilFunc) := by kernel_rfl
theorem agg_80 : aggT Tryz.prog 80 = some false := by kernel_rfl
theorem tinfo_81 : tinfo Tryz.prog 81 = some (1, 8, some Value.nilFunc) := by kernel_rfl
theorem agg_81 : aggT Tryz.prog 81 = some false := by kernel_rfl
theorem tinfo_82 : tinfo Tryz.prog 82 = some (2, 16, some (Value.agg (List.toArray [Value.int IntKind.i64 (0), Value.int IntKind.i64 (0)]))) := by kernel_rfl
theorem agg_82 : aggT Tryz.prog 82 = some true := by kernel_rfl
theorem tinfo_83 : tinfo Tryz.prog 83 = some (1, 24, some (Value.slice none 0 0)) := by kernel_rfl
theorem agg_83 : aggT Tryz.prog 83 = some false := by kernel_rfl
theorem tinfo_84 : tinfo Tryz.prog 84 = some (1, 8, some Value.nilFunc) := by kernel_rfl
theorem agg_84 : aggT Tryz.prog 84 = some false := by kernel_rfl
theorem tinfo_85 : tinfo Tryz.prog 85 = some (1, 8, some Value.nilFunc) := by kernel_rfl
theorem agg_85 : aggT Tryz.prog 85 = some false := by kernel_rfl
theorem tinfo_86 : tinfo Tryz.prog 86 = some (1, 2, some (Value.int IntKind.u16 (0))) := by kernel_rfl
theorem agg_86 : aggT Tryz.prog 86 = some false := by kernel_rfl
theorem tinfo_87 : tinfo Tryz.prog 87 = some (1, 0, some (Value.tuple (List.toArray [Value.slice none 0 0, Value.int IntKind.i64 (0), Value.bool false]))) := by kernel_rfl
theorem agg_87 : aggT Tryz.prog 87 = some false := by kernel_rfl
theorem tinfo_88 : tinfo Tryz.prog 88 = some (1, 8, some Value.nilFunc) := by kernel_rfl
theorem agg_88 : aggT Tryz.prog 88 = some false := by kernel_rfl
theorem tinfo_89 : tinfo Tryz.prog 89 = some (1, 8, some Value.nilFunc) := by kernel_rfl
theorem agg_89 : aggT Tryz.prog 89 = some false := by kernel_rfl
theorem tinfo_90 : tinfo Tryz.prog 90 = some (1, 24, some (Value.slice none 0 0)) := by kernel_rfl
theorem agg_90 : aggT Tryz.prog 90 = some false := by kernel_rfl
theorem tinfo_91 : tinfo Tryz.prog 91 = some (1, 8, some Value.nilFunc) := by kernel_rfl
theorem agg_91 : aggT Tryz.prog 91 = some false := by kernel_rfl
theorem tinfo_92 : tinfo Tryz.prog 92 = some (1, 8, some Value.nilFunc) := by kernel_rfl
theorem agg_92 : aggT Tryz.prog 92 = some false := by kernel_rfl
theorem tinfo_93 : tinfo Tryz.prog 93 = some (1, 8, some Value.nilFunc) := by kernel_rfl
theorem agg_93 : aggT Tryz.prog 93 = some false := by kernel_rfl
theorem tinfo_94 : tinfo Tryz.prog 94 = some (1, 24, some (Value.slice none 0 0)) := by kernel_rfl
theorem agg_94 : aggT Tryz.prog 94 = some false := by kernel_rfl
theorem tinfo_95 : tinfo Tryz.prog 95 = some (14, 232, some (Value.agg (List.toArray [Value.string (ByteArray.mk (List.toArray [])), Value.int IntKind.i64 (0), Value.int IntKind.i64 (0), Value.slice none 0 0, Value.slice none 0 0, Value.slice none 0 0, Value.int IntKind.i64 (0), Value.int IntKind.i64 (0), Value.int IntKind.i64 (0), Value.slice none 0 0, Value.slice none 0 0, Value.slice none 0 0, Value.slice none 0 0, Value.int IntKind.i64 (0)]))) := by kernel_rfl
theorem agg_95 : aggT Tryz.prog 95 = some true := by kernel_rfl
theorem tinfo_96 : tinfo Tryz.prog 96 = some (14, 232, some (Value.agg (List.toArray [Value.string (ByteArray.mk (List.toArray [])), Value.int IntKind.i64 (0), Value.int IntKind.i64 (0), Value.slice none 0 0, Value.slice none 0 0, Value.slice none 0 0, Value.int IntKind.i64 (0), Value.int IntKind.i64 (0), Value.int IntKind.i64 (0), Value.slice none 0 0, Value.slice none 0 0, Value.slice none 0 0, Value.slice none 0 0, Value.int IntKind.i64 (0)]))) := by kernel_rfl
theorem agg_96 : aggT Tryz.prog 96 = some true := by kernel_rfl
theorem tinfo_97 : tinfo Tryz.prog 97 = some (2, 32, some (Value.agg (List.toArray [Value.slice none 0 0, Value.int IntKind.i64 (0)]))) := by kernel_rfl
theorem agg_97 : aggT Tryz.prog 97 = some true := by kernel_rfl
theorem tinfo_98 : tinfo Tryz.prog 98 = some (2, 32, some (Value.agg (List.toArray [Value.slice none 0 0, Value.int IntKind.i64 (0)]))) := by kernel_rfl
theorem agg_98 : aggT Tryz.prog 98 = some true := by kernel_rfl
theorem tinfo_99 : tinfo Tryz.prog 99 = some (1, 8, some Value.nilFunc) := by kernel_rfl
theorem agg_99 : aggT Tryz.prog 99 = some false := by kernel_rfl
theorem tinfo_100 : tinfo Tryz.prog 100 = some (1, 0, some (Value.tuple (List.toArray [Value.slice none 0 0, Value.slice none 0 0, Value.int IntKind.i64 (0)]))) := by kernel_rfl
theorem agg_100 : aggT Tryz.prog 100 = some false := by kernel_rfl
theorem tinfo_101 : tinfo Tryz.prog 101 = some (1, 8, some Value.nilFunc) := by kernel_rfl
theorem agg_101 : aggT Tryz.prog 101 = some false := by kernel_rfl
theorem tinfo_102 : tinfo Tryz.prog 102 = some (2, 48, some (Value.agg (List.toArray [Value.slice none 0 0, Value.slice none 0 0]))) := by kernel_rfl
theorem agg_102 : aggT Tryz.prog 102 = some true := by kernel_rfl
theorem tinfo_103 : tinfo Tryz.prog 103 = some (2, 48, some (Value.agg (List.toArray [Value.slice none 0 0, Value.slice none 0 0]))) := by kernel_rfl
theorem agg_103 : aggT Tryz.prog 103 = some true := by kernel_rfl
theorem tinfo_104 : tinfo Tryz.prog 104 = some (1, 0, some (Value.tuple (List.toArray [Value.agg (List.toArray [Value.slice none 0 0, Value.slice none 0 0]), Value.int IntKind.i64 (0)]))) := by kernel_rfl
theorem agg_104 : aggT Tryz.prog 104 = some false := by kernel_rfl
theorem tinfo_105 : tinfo Tryz.prog 105 = some (1, 8, some Value.nilFunc) := by kernel_rfl
theorem agg_105 : aggT Tryz.prog 105 = some false := by kernel_rfl
theorem tinfo_106 : tinfo Tryz.prog 106 = some (1, 0, some (Value.tuple (List.toArray [Value.int IntKind.i64 (0), Value.bool false]))) := by kernel_rfl
theorem agg_106 : aggT Tryz.prog 106 = some false := by kernel_rfl
theorem tinfo_107 : tinfo Tryz.prog 107 = some (1, 8, some Value.nilFunc) := by kernel_rfl
theorem agg_107 : aggT Tryz.prog 107 = some false := by kernel_rfl
theorem tinfo_108 : tinfo Tryz.prog 108 = some (1, 8, some Value.nilFunc) := by kernel_rfl
theorem agg_108 : aggT Tryz.prog 108 = some false := by kernel_rfl
theorem tinfo_109 : tinfo Tryz.prog 109 = some (1, 8, some Value.nilFunc) := by kernel_rfl
theorem agg_109 : aggT Tryz.prog 109 = some false := by kernel_rfl
theorem tinfo_110 : tinfo Tryz.prog 110 = some (1, 8, some Value.nilFunc) := by kernel_rfl
theorem agg_110 : aggT Tryz.prog 110 = some false := by kernel_rfl
theorem tinfo_111 : tinfo Tryz.prog 111 = some (1, 8, some Value.nilFunc) := by kernel_rfl
theorem agg_111 : aggT Tryz.prog 111 = some false := by kernel_rfl
theorem tinfo_112 : tinfo Tryz.prog 112 = some (1, 0, some (Value.tuple (List.toArray [Value.agg (List.toArray [Value.int IntKind.i64 (0), Value.slice none 0 0]), Value.int IntKind.i64 (0)]))) := by kernel_rfl
theorem agg_112 : aggT Tryz.prog 112 = some false := by kernel_rfl
theorem tinfo_113 : tinfo Tryz.prog 113 = some (1, 8, some Value.nilFunc) := by kernel_rfl
theorem agg_113 : aggT Tryz.prog 113 = some false := by kernel_rfl
theorem tinfo_114 : tinfo Tryz.prog 114 = some (1, 8, some Value.nilFunc) := by kernel_rfl
theorem agg_114 : aggT Tryz.prog 114 = some false := by kernel_rfl
theorem tinfo_115 : tinfo Tryz.prog 115 = some (1, 8, some Value.nilFunc) := by kernel_rfl
theorem agg_115 : aggT Tryz.prog 115 = some false := by kernel_rfl
theorem tinfo_116 : tinfo Tryz.prog 116 = some (1, 8, some Value.nilFunc) := by kernel_rfl
theorem agg_116 : aggT Tryz.prog 116 = some false := by kernel_rfl
theorem tinfo_117 : tinfo Tryz.prog 117 = some (1, 0, some (Value.tuple (List.toArray [Value.slice none 0 0, Value.bool false]))) := by kernel_rfl
theorem agg_117 : aggT Tryz.prog 117 = some false := by kernel_rfl
theorem tinfo_118 : tinfo Tryz.prog 118 = some (1, 8, some Value.nilFunc) := by kernel_rfl
theorem agg_118 : aggT Tryz.prog 118 = some false := by kernel_rfl
theorem tinfo_119 : tinfo Tryz.prog 119 = some (1, 8, some Value.nilFunc) := by kernel_rfl
theorem agg_119 : aggT Tryz.prog 119 = some false := by kernel_rfl
theorem tinfo_120 : tinfo Tryz.prog 120 = some (1, 8, some Value.nilFunc) := by kernel_rfl
theorem agg_120 : aggT Tryz.prog 120 = some false := by kernel_rfl
theorem tinfo_121 : tinfo Tryz.prog 121 = some (1, 8, some Value.nilFunc) := by kernel_rfl
theorem agg_121 : aggT Tryz.prog 121 = some false := by kernel_rfl
theorem tinfo_122 : tinfo Tryz.prog 122 = some (1, 8, some Value.nilFunc) := by kernel_rfl
theorem agg_122 : aggT Tryz.prog 122 = some false := by kernel_rfl
theorem tinfo_123 : tinfo Tryz.prog 123 = some (1, 8, some Value.nilFunc) := by kernel_rfl
theorem agg_123 : aggT Tryz.prog 123 = some false := by kernel_rfl
theorem tinfo_124 : tinfo Tryz.prog 124 = some (1, 8, some Value.nilFunc) := by kernel_rfl
theorem agg_124 : aggT Tryz.prog 124 = some false := by kernel_rfl
theorem tinfo_125 : tinfo Tryz.prog 125 = some (1, 24, some (Value.slice none 0 0)) := by kernel_rfl
theorem agg_125 : aggT Tryz.prog 125 = some false := by kernel_rfl
theorem tinfo_126 : tinfo Tryz.prog 126 = some (4, 64, some (Value.agg (List.toArray [Value.int IntKind.i64 (0), Value.int IntKind.i64 (0), Value.slice none 0 0, Value.slice none 0 0]))) := by kernel_rfl
theorem agg_126 : aggT Tryz.prog 126 = some true := by kernel_rfl
theorem tinfo_127 : tinfo Tryz.prog 127 = some (4, 64, some (Value.agg (List.toArray [Value.int IntKind.i64 (0), Value.int IntKind.i64 (0), Value.slice none 0 0, Value.slice none 0 0]))) := by kernel_rfl
theorem agg_127 : aggT Tryz.prog 127 = some true := by kernel_rfl
theorem tinfo_128 : tinfo Tryz.prog 128 = some (1, 8, some Value.nilFunc) := by kernel_rfl
theorem agg_128 : aggT Tryz.prog 128 = some false := by kernel_rfl
theorem tinfo_129 : tinfo Tryz.prog 129 = some (1, 0, some (Value.tuple (List.toArray [Value.slice none 0 0, Value.int IntKind.i64 (0)]))) := by kernel_rfl
theorem agg_129 : aggT Tryz.prog 129 = some false := by kernel_rfl
theorem tinfo_130 : tinfo Tryz.prog 130 = some (1, 8, some Value.nilFunc) := by kernel_rfl
theorem agg_130 : aggT Tryz.prog 130 = some false := by kernel_rfl
theorem tinfo_131 : tinfo Tryz.prog 131 = some (1, 8, some Value.nilFunc) := by kernel_rfl
theorem agg_131 : aggT Tryz.prog 131 = some false := by kernel_rfl
theorem tinfo_132 : tinfo Tryz.prog 132 = some (1, 8, some Value.nilFunc) := by kernel_rfl
theorem agg_132 : aggT Tryz.prog 132 = some false := by kernel_rfl
theorem tinfo_133 : tinfo Tryz.prog 133 = some (1, 8, some (Value.pointer none)) := by kernel_rfl
theorem agg_133 : aggT Tryz.prog 133 = some false := by kernel_rfl
theorem tinfo_134 : tinfo Tryz.prog 134 = some (1, 8, some Value.nilFunc) := by kernel_rfl
theorem agg_134 : aggT Tryz.prog 134 = some false := by kernel_rfl
theorem tinfo_135 : tinfo Tryz.prog 135 = some (13, 232, some (Value.agg (List.toArray [Value.int IntKind.i64 (0), Value.slice none 0 0, Value.slice none 0 0, Value.slice none 0 0, Value.slice none 0 0, Value.int IntKind.i64 (0), Value.int IntKind.i64 (0), Value.slice none 0 0, Value.int IntKind.i64 (0), Value.slice none 0 0, Value.slice none 0 0, Value.int IntKind.i64 (0), Value.slice none 0 0]))) := by kernel_rfl
theorem agg_135 : aggT Tryz.prog 135 = some true := by kernel_rfl
theorem tinfo_136 : tinfo Tryz.prog 136 = some (13, 232, some (Value.agg (List.toArray [Value.int IntKind.i64 (0), Value.slice none 0 0, Value.slice none 0 0, Value.slice none 0 0, Value.slice none 0 0, Value.int IntKind.i64 (0), Value.int IntKind.i64 (0), Value.slice none 0 0, Value.int IntKind.i64 (0), Value.slice none 0 0, Value.slice none 0 0, Value.int IntKind.i64 (0), Value.slice none 0 0]))) := by kernel_rfl
theorem agg_136 : aggT Tryz.prog 136 = some true := by kernel_rfl
theorem tinfo_137 : tinfo Tryz.prog 137 = some (1, 0, some (Value.tuple (List.toArray [Value.bool false, Value.bool false]))) := by kernel_rfl
theorem agg_137 : aggT Tryz.prog 137 = some false := by kernel_rfl
theorem tinfo_138 : tinfo Tryz.prog 138 = some (1, 8, some Value.nilFunc) := by kernel_rfl
theorem agg_138 : aggT Tryz.prog 138 = some false := by kernel_rfl
theorem tinfo_139 : tinfo Tryz.prog 139 = some (1, 8, some Value.nilFunc) := by kernel_rfl
theorem agg_139 : aggT Tryz.prog 139 = some false := by kernel_rfl
theorem tinfo_140 : tinfo Tryz.prog 140 = some (1, 8, some Value.nilFunc) := by kernel_rfl
theorem agg_140 : aggT Tryz.prog 140 = some false := by kernel_rfl
theorem tinfo_141 : tinfo Tryz.prog 141 = some (1, 8, some Value.nilFunc) := by kernel_rfl
theorem agg_141 : aggT Tryz.prog 141 = some false := by kernel_rfl
theorem tinfo_142 : tinfo Tryz.prog 142 = some (1, 8, some Value.nilFunc) := by kernel_rfl
theorem agg_142 : aggT Tryz.prog 142 = some false := by kernel_rfl
theorem tinfo_143 : tinfo Tryz.prog 143 = some (1, 8, some Value.nilFunc) := by kernel_rfl
theorem agg_143 : aggT Tryz.prog 143 = some false := by kernel_rfl
theorem tinfo_144 : tinfo Tryz.prog 144 = some (1, 8, some Value.nilFunc) := by kernel_rfl
theorem agg_144 : aggT Tryz.prog 144 = some false := by kernel_rfl
theorem tinfo_145 : tinfo Tryz.prog 145 = some (1, 8, some Value.nilFunc) := by kernel_rfl
theorem agg_145 : aggT Tryz.prog 145 = some false := by kernel_rfl
theorem tinfo_146 : tinfo Tryz.prog 146 = some (1, 0, some (Value.tuple (List.toArray [Value.agg (List.toArray [Value.int IntKind.i64 (0), Value.int IntKind.i64 (0), Value.slice none 0 0, Value.slice none 0 0]), Value.int IntKind.i64 (0)]))) := by kernel_rfl
theorem agg_146 : aggT Tryz.prog 146 = some false := by kernel_rfl
theorem tinfo_147 : tinfo Tryz.prog 147 = some (1, 8, some Value.nilFunc) := by kernel_rfl
theorem agg_147 : aggT Tryz.prog 147 = some false := by kernel_rfl
theorem tinfo_148 : tinfo Tryz.prog 148 = some (1, 24, some (Value.slice none 0 0)) := by kernel_rfl
theorem agg_148 : aggT Tryz.prog 148 = some false := by kernel_rfl
theorem tinfo_149 : tinfo Tryz.prog 149 = some (1, 8, some Value.nilFunc) := by kernel_rfl
theorem agg_149 : aggT Tryz.prog 149 = some false := by kernel_rfl
theorem tinfo_150 : tinfo Tryz.prog 150 = some (1, 8, some Value.nilFunc) := by kernel_rfl
theorem agg_150 : aggT Tryz.prog 150 = some false := by kernel_rfl
theorem tinfo_151 : tinfo Tryz.prog 151 = some (1, 8, some Value.nilFunc) := by kernel_rfl
theorem agg_151 : aggT Tryz.prog 151 = some false := by kernel_rfl
theorem tinfo_152 : tinfo Tryz.prog 152 = some (1, 8, some Value.nilFunc) := by kernel_rfl
theorem agg_152 : aggT Tryz.prog 152 = some false := by kernel_rfl
theorem tinfo_153 : tinfo Tryz.prog 153 = some (1, 8, some Value.nilFunc) := by kernel_rfl
theorem agg_153 : aggT Tryz.prog 153 = some false := by kernel_rfl
theorem tinfo_154 : tinfo Tryz.prog 154 = some (1, 8, some Value.nilFunc) := by kernel_rfl
theorem agg_154 : aggT Tryz.prog 154 = some false := by kernel_rfl
theorem tinfo_155 : tinfo Tryz.prog 155 = some (1, 8, some Value.nilFunc) := by kernel_rfl
theorem agg_155 : aggT Tryz.prog 155 = some false := by kernel_rfl
theorem tinfo_156 : tinfo Tryz.prog 156 = some (1, 8, some Value.nilFunc) := by kernel_rfl
theorem agg_156 : aggT Tryz.prog 156 = some false := by kernel_rfl
theorem tinfo_157 : tinfo Tryz.prog 157 = some (1, 8, some Value.nilFunc) := by kernel_rfl
theorem agg_157 : aggT Tryz.prog 157 = some false := by kernel_rfl
theorem tinfo_158 : tinfo Tryz.prog 158 = some (1, 8, some Value.nilFunc) := by kernel_rfl
theorem agg_158 : aggT Tryz.prog 158 = some false := by kernel_rfl
theorem tinfo_159 : tinfo Tryz.prog 159 = some (1, 8, some Value.nilFunc) := by kernel_rfl
theorem agg_159 : aggT Tryz.prog 159 = some false := by kernel_rfl
theorem tinfo_160 : tinfo Tryz.prog 160 = some (1, 8, some Value.nilFunc) := by kernel_rfl
theorem agg_160 : aggT Tryz.prog 160 = some false := by kernel_rfl
theorem tinfo_161 : tinfo Tryz.prog 161 = some (1, 8, some Value.nilFunc) := by kernel_rfl
theorem agg_161 : aggT Tryz.prog 161 = some false := by kernel_rfl
theorem tinfo_162 : tinfo Tryz.prog 162 = some (1, 8, some Value.nilFunc) := by kernel_rfl
theorem agg_162 : aggT Tryz.prog 162 = some false := by kernel_rfl
theorem tinfo_163 : tinfo Tryz.prog 163 = some (1, 8, some Value.nilFunc) := by kernel_rfl
theorem agg_163 : aggT Tryz.prog 163 = some false := by kernel_rfl
theorem tinfo_164 : tinfo Tryz.prog 164 = some (1, 8, some Value.nilFunc) := by kernel_rfl
theorem agg_164 : aggT Tryz.prog 164 = some false := by kernel_rfl
theorem tinfo_165 : tinfo Tryz.prog 165 = some (1, 8, some Value.nilFunc) := by kernel_rfl
theorem agg_165 : aggT Tryz.prog 165 = some false := by kernel_rfl
theorem tinfo_166 : tinfo Tryz.prog 166 = some (1, 8, some Value.nilFunc) := by kernel_rfl
theorem agg_166 : aggT Tryz.prog 166 = some false := by kernel_rfl
theorem tinfo_167 : tinfo Tryz.prog 167 = some (1, 8, some Value.nilFunc) := by kernel_rfl
theorem agg_167 : aggT Tryz.prog 167 = some false := by kernel_rfl
theorem tinfo_168 : tinfo Tryz.prog 168 = some (1, 8, some (Value.int IntKind.u64 (0))) := by kernel_rfl
theorem agg_168 : aggT Tryz.prog 168 = some false := by kernel_rfl
theorem tinfo_169 : tinfo Tryz.prog 169 = some (1, 0, some (Value.tuple (List.toArray [Value.int IntKind.u64 (0), Value.int IntKind.u64 (0)]))) := by kernel_rfl
theorem agg_169 : aggT Tryz.prog 169 = some false := by kernel_rfl
theorem tinfo_170 : tinfo Tryz.prog 170 = some (1, 8, some Value.nilFunc) := by kernel_rfl
theorem agg_170 : aggT Tryz.prog 170 = some false := by kernel_rfl
theorem tinfo_171 : tinfo Tryz.prog 171 = some (1, 8, some Value.nilFunc) := by kernel_rfl
theorem agg_171 : aggT Tryz.prog 171 = some false := by kernel_rfl
theorem tinfo_172 : tinfo Tryz.prog 172 = some (3, 24, some (Value.agg (List.toArray [Value.int IntKind.i64 (0), Value.int IntKind.i64 (0), Value.int IntKind.i64 (0)]))) := by kernel_rfl
theorem agg_172 : aggT Tryz.prog 172 = some true := by kernel_rfl
theorem tinfo_173 : tinfo Tryz.prog 173 = some (3, 24, some (Value.agg (List.toArray [Value.int IntKind.i64 (0), Value.int IntKind.i64 (0), Value.int IntKind.i64 (0)]))) := by kernel_rfl
theorem agg_173 : aggT Tryz.prog 173 = some true := by kernel_rfl
theorem tinfo_174 : tinfo Tryz.prog 174 = some (1, 8, some Value.nilFunc) := by kernel_rfl
theorem agg_174 : aggT Tryz.prog 174 = some false := by kernel_rfl
theorem tinfo_175 : tinfo Tryz.prog 175 = some (1, 8, some Value.nilFunc) := by kernel_rfl
theorem agg_175 : aggT Tryz.prog 175 = some false := by kernel_rfl
theorem tinfo_176 : tinfo Tryz.prog 176 = some (1, 8, some Value.nilFunc) := by kernel_rfl
theorem agg_176 : aggT Tryz.prog 176 = some false := by kernel_rfl
theorem tinfo_177 : tinfo Tryz.prog 177 = some (1, 8, some Value.nilFunc) := by kernel_rfl
theorem agg_177 : aggT Tryz.prog 177 = some false := by kernel_rfl
theorem tinfo_178 : tinfo Tryz.prog 178 = some (1, 8, some Value.nilFunc) := by kernel_rfl
theorem agg_178 : aggT Tryz.prog 178 = some false := by kernel_rfl
theorem tinfo_179 : tinfo Tryz.prog 179 = some (1, 8, some Value.nilFunc) := by kernel_rfl
theorem agg_179 : aggT Tryz.prog 179 = some false := by kernel_rfl
theorem tinfo_180 : tinfo Tryz.prog 180 = some (1, 8, some Value.nilFunc) := by kernel_rfl
theorem agg_180 : aggT Tryz.prog 180 = some false := by kernel_rfl
theorem tinfo_181 : tinfo Tryz.prog 181 = some (1, 8, some Value.nilFunc) := by kernel_rfl
theorem agg_181 : aggT Tryz.prog 181 = some false := by kernel_rfl
theorem tinfo_182 : tinfo Tryz.prog 182 = some (1, 8, some Value.nilFunc) := by kernel_rfl
theorem agg_182 : aggT Tryz.prog 182 = some false := by kernel_rfl
theorem tinfo_183 : tinfo Tryz.prog 183 = some (1, 8, some Value.nilFunc) := by kernel_rfl
theorem agg_183 : aggT Tryz.prog 183 = some false := by kernel_rfl
theorem tinfo_184 : tinfo Tryz.prog 184 = some (1, 8, some Value.nilFunc) := by kernel_rfl
theorem agg_184 : aggT Tryz.prog 184 = some false := by kernel_rfl
theorem tinfo_185 : tinfo Tryz.prog 185 = some (1, 8, some Value.nilFunc) := by kernel_rfl
theorem agg_185 : aggT Tryz.prog 185 = some false := by kernel_rfl
theorem tinfo_186 : tinfo Tryz.prog 186 = some (1, 8, some Value.nilFunc) := by kernel_rfl
theorem agg_186 : aggT Tryz.prog 186 = some false := by kernel_rfl
theorem tinfo_187 : tinfo Tryz.prog 187 = some (1, 8, some Value.nilFunc) := by kernel_rfl
theorem agg_187 : aggT Tryz.prog 187 = some false := by kernel_rfl
theorem tinfo_188 : tinfo Tryz.prog 188 = some (1, 8, some Value.nilFunc) := by kernel_rfl
theorem agg_188 : aggT Tryz.prog 188 = some false := by kernel_rfl
theorem tinfo_189 : tinfo Tryz.prog 189 = some (1, 8, some Value.nilFunc) := by kernel_rfl
theorem agg_189 : aggT Tryz.prog 189 = some false := by kernel_rfl
theorem tinfo_190 : tinfo Tryz.prog 190 = some (1, 8, some Value.nilFunc) := by kernel_rfl
theorem agg_190 : aggT Tryz.prog 190 = some false := by kernel_rfl
theorem tinfo_191 : tinfo Tryz.prog 191 = some (1, 8, some Value.nilFunc) := by kernel_rfl
theorem agg_191 : aggT Tryz.prog 191 = some false := by kernel_rfl
theorem tinfo_192 : tinfo Tryz.prog 192 = some (1, 8, some Value.nilFunc) := by kernel_rfl
theorem agg_192 : aggT Tryz.prog 192 = some false := by kernel_rfl
theorem tinfo_193 : tinfo Tryz.prog 193 = some (1, 8, some Value.nilFunc) := by kernel_rfl
theorem agg_193 : aggT Tryz.prog 193 = some false := by kernel_rfl
theorem tinfo_194 : tinfo Tryz.prog 194 = some (1, 8, some Value.nilFunc) := by kernel_rfl
theorem agg_194 : aggT Tryz.prog 194 = some false := by kernel_rfl
theorem tinfo_195 : tinfo Tryz.prog 195 = some (1, 8, some Value.nilFunc) := by kernel_rfl
theorem agg_195 : aggT Tryz.prog 195 = some false := by kernel_rfl
theorem tinfo_196 : tinfo Tryz.prog 196 = some (1, 8, some Value.nilFunc) := by kernel_rfl
theorem agg_196 : aggT Tryz.prog 196 = some false := by kernel_rfl
theorem tinfo_197 : tinfo Tryz.prog 197 = some (1, 4, some (Value.int IntKind.u32 (0))) := by kernel_rfl
theorem agg_197 : aggT Tryz.prog 197 = some false := by kernel_rfl
theorem tinfo_198 : tinfo Tryz.prog 198 = some (1, 0, some (Value.tuple (List.toArray [Value.int IntKind.u32 (0), Value.int IntKind.u32 (0)]))) := by kernel_rfl
theorem agg_198 : aggT Tryz.prog 198 = some false := by kernel_rfl
theorem tinfo_199 : tinfo Tryz.prog 199 = some (1, 8, some Value.nilFunc) := by kernel_rfl
theorem agg_199 : aggT Tryz.prog 199 = some false := by kernel_rfl
theorem tinfo_200 : tinfo Tryz.prog 200 = some (1, 8, some (Value.int IntKind.u64 (0))) := by kernel_rfl
theorem agg_200 : aggT Tryz.prog 200 = some false := by kernel_rfl
theorem tinfo_201 : tinfo Tryz.prog 201 = some (1, 0, some (Value.tuple (List.toArray [Value.int IntKind.u64 (0), Value.int IntKind.u64 (0)]))) := by kernel_rfl
theorem agg_201 : aggT Tryz.prog 201 = some false := by kernel_rfl
theorem tinfo_202 : tinfo Tryz.prog 202 = some (1, 8, some Value.nilFunc) := by kernel_rfl
theorem agg_202 : aggT Tryz.prog 202 = some false := by kernel_rfl
theorem tinfo_203 : tinfo Tryz.prog 203 = some (1, 8, some (Value.pointer none)) := by kernel_rfl
theorem agg_203 : aggT Tryz.prog 203 = some false := by kernel_rfl
theorem tinfo_204 : tinfo Tryz.prog 204 = some (8, 64, some (Value.agg (List.toArray [Value.int IntKind.i64 (0), Value.int IntKind.i64 (0), Value.int IntKind.i64 (0), Value.int IntKind.i64 (0), Value.int IntKind.i64 (0), Value.int IntKind.i64 (0), Value.int IntKind.i64 (0), Value.int IntKind.i64 (0)]))) := by kernel_rfl
theorem agg_204 : aggT Tryz.prog 204 = some true := by kernel_rfl
theorem tinfo_205 : tinfo Tryz.prog 205 = some (8, 64, some (Value.agg (List.toArray [Value.int IntKind.i64 (0), Value.int IntKind.i64 (0), Value.int IntKind.i64 (0), Value.int IntKind.i64 (0), Value.int IntKind.i64 (0), Value.int IntKind.i64 (0), Value.int IntKind.i64 (0), Value.int IntKind.i64 (0)]))) := by kernel_rfl
theorem agg_205 : aggT Tryz.prog 205 = some true := by kernel_rfl
theorem tinfo_206 : tinfo Tryz.prog 206 = some (1, 8, some Value.nilFunc) := by kernel_rfl
theorem agg_206 : aggT Tryz.prog 206 = some false := by kernel_rfl
theorem tinfo_207 : tinfo Tryz.prog 207 = some (1, 8, some (Value.map none)) := by kernel_rfl
theorem agg_207 : aggT Tryz.prog 207 = some false := by kernel_rfl
theorem tinfo_208 : tinfo Tryz.prog 208 = some (1, 8, some Value.nilFunc) := by kernel_rfl
theorem agg_208 : aggT Tryz.prog 208 = some false := by kernel_rfl
theorem tinfo_209 : tinfo Tryz.prog 209 = some (1, 8, some Value.nilFunc) := by kernel_rfl
theorem agg_209 : aggT Tryz.prog 209 = some false := by kernel_rfl
theorem tinfo_210 : tinfo Tryz.prog 210 = some (1, 8, some Value.nilFunc) := by kernel_rfl
theorem agg_210 : aggT Tryz.prog 210 = some false := by kernel_rfl
theorem tinfo_211 : tinfo Tryz.prog 211 = some (1, 8, some Value.nilFunc) := by kernel_rfl
theorem agg_211 : aggT Tryz.prog 211 = some false := by kernel_rfl
theorem tinfo_212 : tinfo Tryz.prog 212 = some (1, 8, some Value.nilFunc) := by kernel_rfl
theorem agg_212 : aggT Tryz.prog 212 = some false := by kernel_rfl
theorem tinfo_213 : tinfo Tryz.prog 213 = some (1, 8, some Value.nilFunc) := by kernel_rfl
theorem agg_213 : aggT Tryz.prog 213 = some false := by kernel_rfl
theorem tinfo_214 : tinfo Tryz.prog 214 = some (1, 8, some Value.nilFunc) := by kernel_rfl
theorem agg_214 : aggT Tryz.prog 214 = some false := by kernel_rfl
theorem tinfo_215 : tinfo Tryz.prog 215 = some (1, 8, some Value.nilFunc) := by kernel_rfl
theorem agg_215 : aggT Tryz.prog 215 = some false := by kernel_rfl
theorem tinfo_216 : tinfo Tryz.prog 216 = some (1, 8, some Value.nilFunc) := by kernel_rfl
theorem agg_216 : aggT Tryz.prog 216 = some false := by kernel_rfl
theorem tinfo_217 : tinfo Tryz.prog 217 = some (1, 8, some Value.nilFunc) := by kernel_rfl
theorem agg_217 : aggT Tryz.prog 217 = some false := by kernel_rfl
theorem tinfo_218 : tinfo Tryz.prog 218 = some (1, 8, some Value.nilFunc) := by kernel_rfl
theorem agg_218 : aggT Tryz.prog 218 = some false := by kernel_rfl
theorem tinfo_219 : tinfo Tryz.prog 219 = some (1, 24, some (Value.slice none 0 0)) := by kernel_rfl
theorem agg_219 : aggT Tryz.prog 219 = some false := by kernel_rfl
theorem tinfo_220 : tinfo Tryz.prog 220 = some (1, 8, some Value.nilFunc) := by kernel_rfl
theorem agg_220 : aggT Tryz.prog 220 = some false := by kernel_rfl
theorem tinfo_221 : tinfo Tryz.prog 221 = some (1, 8, some Value.nilFunc) := by kernel_rfl
theorem agg_221 : aggT Tryz.prog 221 = some false := by kernel_rfl
theorem tinfo_222 : tinfo Tryz.prog 222 = some (1, 8, some Value.nilFunc) := by kernel_rfl
theorem agg_222 : aggT Tryz.prog 222 = some false := by kernel_rfl
theorem tinfo_223 : tinfo Tryz.prog 223 = some (1, 8, some Value.nilFunc) := by kernel_rfl
theorem agg_223 : aggT Tryz.prog 223 = some false := by kernel_rfl
theorem tinfo_224 : tinfo Tryz.prog 224 = some (1, 8, some Value.nilFunc) := by kernel_rfl
theorem agg_224 : aggT Tryz.prog 224 = some false := by kernel_rfl
theorem tinfo_225 : tinfo Tryz.prog 225 = some (1, 8, some Value.nilFunc) := by kernel_rfl
theorem agg_225 : aggT Tryz.prog 225 = some false := by kernel_rfl
theorem tinfo_226 : tinfo Tryz.prog 226 = some (1, 8, some Value.nilFunc) := by kernel_rfl
theorem agg_226 : aggT Tryz.prog 226 = some false := by kernel_rfl
theorem tinfo_227 : tinfo Tryz.prog 227 = some (1, 8, some Value.nilFunc) := by kernel_rfl
theorem agg_227 : aggT Tryz.prog 227 = some false := by kernel_rfl
theorem tinfo_228 : tinfo Tryz.prog 228 = some (1, 8, some Value.nilFunc) := by kernel_rfl
theorem agg_228 : aggT Tryz.prog 228 = some false := by kernel_rfl
theorem tinfo_229 : tinfo Tryz.prog 229 = some (1, 8, some Value.nilFunc) := by kernel_rfl
theorem agg_229 : aggT Tryz.prog 229 = some false := by kernel_rfl
theorem tinfo_230 : tinfo Tryz.prog 230 = some (1, 8, some Value.nilFunc) := by kernel_rfl
theorem agg_230 : aggT Tryz.prog 230 = some false := by kernel_rfl
theorem tinfo_231 : tinfo Tryz.prog 231 = some (1, 8, some Value.nilFunc) := by kernel_rfl
theorem agg_231 : aggT Tryz.prog 231 = some false := by kernel_rfl
theorem tinfo_232 : tinfo Tryz.prog 232 = some (1, 8, some Value.nilFunc) := by kernel_rfl
theorem agg_232 : aggT Tryz.prog 232 = some false := by kernel_rfl
theorem tinfo_233 : tinfo Tryz.prog 233 = some (1, 8, some Value.nilFunc) := by kernel_rfl
theorem agg_233 : aggT Tryz.prog 233 = some false := by kernel_rfl
theorem tinfo_234 : tinfo Tryz.prog 234 = some (1, 8, some Value.nilFunc) := by kernel_rfl
theorem agg_234 : aggT Tryz.prog 234 = some false := by kernel_rfl
theorem tinfo_235 : tinfo Tryz.prog 235 = some (4, 40, some (Value.agg (List.toArray [Value.pointer none, Value.pointer none, Value.pointer none, Value.string (ByteArray.mk (List.toArray []))]))) := by kernel_rfl
theorem agg_235 : aggT Tryz.prog 235 = some true := by kernel_rfl
theorem tinfo_236 : tinfo Tryz.prog 236 = some (4, 40, some (Value.agg (List.toArray [Value.pointer none, Value.pointer none, Value.pointer none, Value.string (ByteArray.mk (List.toArray []))]))) := by kernel_rfl
theorem agg_236 : aggT Tryz.prog 236 = some true := by kernel_rfl
theorem tinfo_237 : tinfo Tryz.prog 237 = some (0, 0, some (Value.agg (List.toArray []))) := by kernel_rfl
theorem agg_237 : aggT Tryz.prog 237 = some true := by kernel_rfl
theorem tinfo_238 : tinfo Tryz.prog 238 = some (0, 0, some (Value.agg (List.toArray []))) := by kernel_rfl
theorem agg_238 : aggT Tryz.prog 238 = some true := by kernel_rfl
theorem tinfo_239 : tinfo Tryz.prog 239 = some (0, 0, some (Value.agg (List.toArray []))) := by kernel_rfl
theorem agg_239 : aggT Tryz.prog 239 = some true := by kernel_rfl
theorem tinfo_240 : tinfo Tryz.prog 240 = some (1, 8, some Value.nilFunc) := by kernel_rfl
theorem agg_240 : aggT Tryz.prog 240 = some false := by kernel_rfl
theorem tinfo_241 : tinfo Tryz.prog 241 = some (1, 1, some (Value.int IntKind.u8 (0))) := by kernel_rfl
theorem agg_241 : aggT Tryz.prog 241 = some false := by kernel_rfl
theorem tinfo_242 : tinfo Tryz.prog 242 = some (1, 1, some (Value.int IntKind.u8 (0))) := by kernel_rfl
theorem agg_242 : aggT Tryz.prog 242 = some false := by kernel_rfl
theorem tinfo_243 : tinfo Tryz.prog 243 = some (1, 8, some Value.nilFunc) := by kernel_rfl
theorem agg_243 : aggT Tryz.prog 243 = some false := by kernel_rfl
theorem tinfo_244 : tinfo Tryz.prog 244 = some (1, 8, some (Value.pointer none)) := by kernel_rfl
theorem agg_244 : aggT Tryz.prog 244 = some false := by kernel_rfl
theorem tinfo_245 : tinfo Tryz.prog 245 = some (1, 4, some (Value.int IntKind.i32 (0))) := by kernel_rfl
theorem agg_245 : aggT Tryz.prog 245 = some false := by kernel_rfl
theorem tinfo_246 : tinfo Tryz.prog 246 = some (1, 4, some (Value.int IntKind.i32 (0))) := by kernel_rfl
theorem agg_246 : aggT Tryz.prog 246 = some false := by kernel_rfl
theorem tinfo_247 : tinfo Tryz.prog 247 = some (11, 48, some (Value.agg (List.toArray [Value.int IntKind.u64 (0), Value.int IntKind.u64 (0), Value.int IntKind.u32 (0), Value.int IntKind.u8 (0), Value.int IntKind.u8 (0), Value.int IntKind.u8 (0), Value.int IntKind.u8 (0), Value.nilFunc, Value.pointer none, Value.int IntKind.i32 (0), Value.int IntKind.i32 (0)]))) := by kernel_rfl
theorem agg_247 : aggT Tryz.prog 247 = some true := by kernel_rfl
theorem tinfo_248 : tinfo Tryz.prog 248 = some (11, 48, some (Value.agg (List.toArray [Value.int IntKind.u64 (0), Value.int IntKind.u64 (0), Value.int IntKind.u32 (0), Value.int IntKind.u8 (0), Value.int IntKind.u8 (0), Value.int IntKind.u8 (0), Value.int IntKind.u8 (0), Value.nilFunc, Value.pointer none, Value.int IntKind.i32 (0), Value.int IntKind.i32 (0)]))) := by kernel_rfl
theorem agg_248 : aggT Tryz.prog 248 = some true := by kernel_rfl
theorem tinfo_249 : tinfo Tryz.prog 249 = some (1, 8, some (Value.pointer none)) := by kernel_rfl
theorem agg_249 : aggT Tryz.prog 249 = some false := by kernel_rfl
theorem places_7 : placesOf Tryz.prog 7 = some [(0, 1), (1, 1), (2, 1), (3, 1)] := by kernel_rfl
theorem field_7_0 : fieldOf Tryz.prog 7 0 = some (0, 2) := by kernel_rfl
theorem field_7_1 : fieldOf Tryz.prog 7 1 = some (1, 3) := by kernel_rfl
theorem field_7_2 : fieldOf Tryz.prog 7 2 = some (2, 4) := by kernel_rfl
theorem field_7_3 : fieldOf Tryz.prog 7 3 = some (3, 6) := by kernel_rfl
theorem places_8 : placesOf Tryz.prog 8 = some [(0, 1), (1, 1), (2, 1), (3, 1)] := by kernel_rfl
theorem field_8_0 : fieldOf Tryz.prog 8 0 = some (0, 2) := by kernel_rfl
theorem field_8_1 : fieldOf Tryz.prog 8 1 = some (1, 3) := by kernel_rfl
theorem field_8_2 : fieldOf Tryz.prog 8 2 = some (2, 4) := by kernel_rfl
theorem field_8_3 : fieldOf Tryz.prog 8 3 = some (3, 6) := by kernel_rfl
theorem places_13 : placesOf Tryz.prog 13 = some [(0, 1), (1, 1)] := by kernel_rfl
theorem field_13_0 : fieldOf Tryz.prog 13 0 = some (0, 9) := by kernel_rfl
theorem field_13_1 : fieldOf Tryz.prog 13 1 = some (1, 12) := by kernel_rfl
theorem places_14 : placesOf Tryz.prog 14 = some [(0, 1), (1, 1)] := by kernel_rfl
theorem field_14_0 : fieldOf Tryz.prog 14 0 = some (0, 9) := by kernel_rfl
theorem field_14_1 : fieldOf Tryz.prog 14 1 = some (1, 12) := by kernel_rfl
theorem places_18 : placesOf Tryz.prog 18 = some [(0, 1)] := by kernel_rfl
theorem field_18_0 : fieldOf Tryz.prog 18 0 = some (0, 17) := by kernel_rfl
theorem places_19 : placesOf Tryz.prog 19 = some [(0, 1)] := by kernel_rfl
theorem field_19_0 : fieldOf Tryz.prog 19 0 = some (0, 17) := by kernel_rfl
theorem places_30 : placesOf Tryz.prog 30 = some [(0, 1), (1, 1)] := by kernel_rfl
theorem field_30_0 : fieldOf Tryz.prog 30 0 = some (0, 3) := by kernel_rfl
theorem field_30_1 : fieldOf Tryz.prog 30 1 = some (1, 29) := by kernel_rfl
theorem places_31 : placesOf Tryz.prog 31 = some [(0, 1), (1, 1)] := by kernel_rfl
theorem field_31_0 : fieldOf Tryz.prog 31 0 = some (0, 3) := by kernel_rfl
theorem field_31_1 : fieldOf Tryz.prog 31 1 = some (1, 29) := by kernel_rfl
theorem places_32 : placesOf Tryz.prog 32 = some [(0, 1), (1, 1), (2, 1), (3, 1), (4, 1), (5, 1), (6, 1), (7, 1), (8, 2)] := by kernel_rfl
theorem field_32_0 : fieldOf Tryz.prog 32 0 = some (0, 3) := by kernel_rfl
theorem field_32_1 : fieldOf Tryz.prog 32 1 = some (1, 26) := by kernel_rfl
theorem field_32_2 : fieldOf Tryz.prog 32 2 = some (2, 26) := by kernel_rfl
theorem field_32_3 : fieldOf Tryz.prog 32 3 = some (3, 26) := by kernel_rfl
theorem field_32_4 : fieldOf Tryz.prog 32 4 = some (4, 27) := by kernel_rfl
theorem field_32_5 : fieldOf Tryz.prog 32 5 = some (5, 3) := by kernel_rfl
theorem field_32_6 : fieldOf Tryz.prog 32 6 = some (6, 3) := by kernel_rfl
theorem field_32_7 : fieldOf Tryz.prog 32 7 = some (7, 28) := by kernel_rfl
theorem field_32_8 : fieldOf Tryz.prog 32 8 = some (8, 31) := by kernel_rfl
theorem places_33 : placesOf Tryz.prog 33 = some [(0, 1), (1, 1), (2, 1), (3, 1), (4, 1), (5, 1), (6, 1), (7, 1), (8, 2)] := by kernel_rfl
theorem field_33_0 : fieldOf Tryz.prog 33 0 = some (0, 3) := by kernel_rfl
theorem field_33_1 : fieldOf Tryz.prog 33 1 = some (1, 26) := by kernel_rfl
theorem field_33_2 : fieldOf Tryz.prog 33 2 = some (2, 26) := by kernel_rfl
theorem field_33_3 : fieldOf Tryz.prog 33 3 = some (3, 26) := by kernel_rfl
theorem field_33_4 : fieldOf Tryz.prog 33 4 = some (4, 27) := by kernel_rfl
theorem field_33_5 : fieldOf Tryz.prog 33 5 = some (5, 3) := by kernel_rfl
theorem field_33_6 : fieldOf Tryz.prog 33 6 = some (6, 3) := by kernel_rfl
theorem field_33_7 : fieldOf Tryz.prog 33 7 = some (7, 28) := by kernel_rfl
theorem field_33_8 : fieldOf Tryz.prog 33 8 = some (8, 31) := by kernel_rfl
theorem places_52 : placesOf Tryz.prog 52 = some [(0, 1), (1, 1)] := by kernel_rfl
theorem field_52_0 : fieldOf Tryz.prog 52 0 = some (0, 27) := by kernel_rfl
theorem field_52_1 : fieldOf Tryz.prog 52 1 = some (1, 51) := by kernel_rfl
theorem places_53 : placesOf Tryz.prog 53 = some [(0, 1), (1, 1)] := by kernel_rfl
theorem field_53_0 : fieldOf Tryz.prog 53 0 = some (0, 27) := by kernel_rfl
theorem field_53_1 : fieldOf Tryz.prog 53 1 = some (1, 51) := by kernel_rfl
theorem places_63 : placesOf Tryz.prog 63 = some [(0, 1), (1, 1), (2, 1)] := by kernel_rfl
theorem field_63_0 : fieldOf Tryz.prog 63 0 = some (0, 27) := by kernel_rfl
theorem field_63_1 : fieldOf Tryz.prog 63 1 = some (1, 3) := by kernel_rfl
theorem field_63_2 : fieldOf Tryz.prog 63 2 = some (2, 27) := by kernel_rfl
theorem places_64 : placesOf Tryz.prog 64 = some [(0, 1), (1, 1), (2, 1)] := by kernel_rfl
theorem field_64_0 : fieldOf Tryz.prog 64 0 = some (0, 27) := by kernel_rfl
theorem field_64_1 : fieldOf Tryz.prog 64 1 = some (1, 3) := by kernel_rfl
theorem field_64_2 : fieldOf Tryz.prog 64 2 = some (2, 27) := by kernel_rfl
theorem places_70 : placesOf Tryz.prog 70 = some [(0, 1), (1, 2)] := by kernel_rfl
theorem field_70_0 : fieldOf Tryz.prog 70 0 = some (0, 3) := by kernel_rfl
theorem field_70_1 : fieldOf Tryz.prog 70 1 = some (1, 31) := by kernel_rfl
theorem places_71 : placesOf Tryz.prog 71 = some [(0, 1), (1, 2)] := by kernel_rfl
theorem field_71_0 : fieldOf Tryz.prog 71 0 = some (0, 3) := by kernel_rfl
theorem field_71_1 : fieldOf Tryz.prog 71 1 = some (1, 31) := by kernel_rfl
theorem places_82 : placesOf Tryz.prog 82 = some [(0, 1), (1, 1)] := by kernel_rfl
theorem places_95 : placesOf Tryz.prog 95 = some [(0, 1), (1, 1), (2, 1), (3, 1), (4, 1), (5, 1), (6, 1), (7, 1), (8, 1), (9, 1), (10, 1), (11, 1), (12, 1), (13, 1)] := by kernel_rfl
theorem field_95_0 : fieldOf Tryz.prog 95 0 = some (0, 9) := by kernel_rfl
theorem field_95_1 : fieldOf Tryz.prog 95 1 = some (1, 3) := by kernel_rfl
theorem field_95_2 : fieldOf Tryz.prog 95 2 = some (2, 3) := by kernel_rfl
theorem field_95_3 : fieldOf Tryz.prog 95 3 = some (3, 27) := by kernel_rfl
theorem field_95_4 : fieldOf Tryz.prog 95 4 = some (4, 27) := by kernel_rfl
theorem field_95_5 : fieldOf Tryz.prog 95 5 = some (5, 27) := by kernel_rfl
theorem field_95_6 : fieldOf Tryz.prog 95 6 = some (6, 3) := by kernel_rfl
theorem field_95_7 : fieldOf Tryz.prog 95 7 = some (7, 3) := by kernel_rfl
theorem field_95_8 : fieldOf Tryz.prog 95 8 = some (8, 3) := by kernel_rfl
theorem field_95_9 : fieldOf Tryz.prog 95 9 = some (9, 27) := by kernel_rfl
theorem field_95_10 : fieldOf Tryz.prog 95 10 = some (10, 27) := by kernel_rfl
theorem field_95_11 : fieldOf Tryz.prog 95 11 = some (11, 94) := by kernel_rfl
theorem field_95_12 : fieldOf Tryz.prog 95 12 = some (12, 27) := by kernel_rfl
theorem field_95_13 : fieldOf Tryz.prog 95 13 = some (13, 3) := by kernel_rfl
theorem places_96 : placesOf Tryz.prog 96 = some [(0, 1), (1, 1), (2, 1), (3, 1), (4, 1), (5, 1), (6, 1), (7, 1), (8, 1), (9, 1), (10, 1), (11, 1), (12, 1), (13, 1)] := by kernel_rfl
theorem field_96_0 : fieldOf Tryz.prog 96 0 = some (0, 9) := by kernel_rfl
theorem field_96_1 : fieldOf Tryz.prog 96 1 = some (1, 3) := by kernel_rfl
theorem field_96_2 : fieldOf Tryz.prog 96 2 = some (2, 3) := by kernel_rfl
theorem field_96_3 : fieldOf Tryz.prog 96 3 = some (3, 27) := by kernel_rfl
theorem field_96_4 : fieldOf Tryz.prog 96 4 = some (4, 27) := by kernel_rfl
theorem field_96_5 : fieldOf Tryz.prog 96 5 = some (5, 27) := by kernel_rfl
theorem field_96_6 : fieldOf Tryz.prog 96 6 = some (6, 3) := by kernel_rfl
theorem field_96_7 : fieldOf Tryz.prog 96 7 = some (7, 3) := by kernel_rfl
theorem field_96_8 : fieldOf Tryz.prog 96 8 = some (8, 3) := by kernel_rfl
theorem field_96_9 : fieldOf Tryz.prog 96 9 = some (9, 27) := by kernel_rfl
theorem field_96_10 : fieldOf Tryz.prog 96 10 = some (10, 27) := by kernel_rfl
theorem field_96_11 : fieldOf Tryz.prog 96 11 = some (11, 94) := by kernel_rfl
theorem field_96_12 : fieldOf Tryz.prog 96 12 = some (12, 27) := by kernel_rfl
theorem field_96_13 : fieldOf Tryz.prog 96 13 = some (13, 3) := by kernel_rfl
theorem places_97 : placesOf Tryz.prog 97 = some [(0, 1), (1, 1)] := by kernel_rfl
theorem field_97_0 : fieldOf Tryz.prog 97 0 = some (0, 22) := by kernel_rfl
theorem field_97_1 : fieldOf Tryz.prog 97 1 = some (1, 3) := by kernel_rfl
theorem places_98 : placesOf Tryz.prog 98 = some [(0, 1), (1, 1)] := by kernel_rfl
theorem field_98_0 : fieldOf Tryz.prog 98 0 = some (0, 22) := by kernel_rfl
theorem field_98_1 : fieldOf Tryz.prog 98 1 = some (1, 3) := by kernel_rfl
theorem places_102 : placesOf Tryz.prog 102 = some [(0, 1), (1, 1)] := by kernel_rfl
theorem field_102_0 : fieldOf Tryz.prog 102 0 = some (0, 27) := by kernel_rfl
theorem field_102_1 : fieldOf Tryz.prog 102 1 = some (1, 27) := by kernel_rfl
theorem places_103 : placesOf Tryz.prog 103 = some [(0, 1), (1, 1)] := by kernel_rfl
theorem field_103_0 : fieldOf Tryz.prog 103 0 = some (0, 27) := by kernel_rfl
theorem field_103_1 : fieldOf Tryz.prog 103 1 = some (1, 27) := by kernel_rfl
theorem places_126 : placesOf Tryz.prog 126 = some [(0, 1), (1, 1), (2, 1), (3, 1)] := by kernel_rfl
theorem field_126_0 : fieldOf Tryz.prog 126 0 = some (0, 3) := by kernel_rfl
theorem field_126_1 : fieldOf Tryz.prog 126 1 = some (1, 3) := by kernel_rfl
theorem field_126_2 : fieldOf Tryz.prog 126 2 = some (2, 27) := by kernel_rfl
theorem field_126_3 : fieldOf Tryz.prog 126 3 = some (3, 125) := by kernel_rfl
theorem places_127 : placesOf Tryz.prog 127 = some [(0, 1), (1, 1), (2, 1), (3, 1)] := by kernel_rfl
theorem field_127_0 : fieldOf Tryz.prog 127 0 = some (0, 3) := by kernel_rfl
theorem field_127_1 : fieldOf Tryz.prog 127 1 = some (1, 3) := by kernel_rfl
theorem field_127_2 : fieldOf Tryz.prog 127 2 = some (2, 27) := by kernel_rfl
theorem field_127_3 : fieldOf Tryz.prog 127 3 = some (3, 125) := by kernel_rfl
theorem places_135 : placesOf Tryz.prog 135 = some [(0, 10), (10, 3)] := by kernel_rfl
theorem field_135_0 : fieldOf Tryz.prog 135 0 = some (0, 33) := by kernel_rfl
theorem field_135_1 : fieldOf Tryz.prog 135 1 = some (10, 64) := by kernel_rfl
theorem places_136 : placesOf Tryz.prog 136 = some [(0, 10), (10, 3)] := by kernel_rfl
theorem field_136_0 : fieldOf Tryz.prog 136 0 = some (0, 33) := by kernel_rfl
theorem field_136_1 : fieldOf Tryz.prog 136 1 = some (10, 64) := by kernel_rfl
theorem places_172 : placesOf Tryz.prog 172 = some [(0, 1), (1, 1), (2, 1)] := by kernel_rfl
theorem field_172_0 : fieldOf Tryz.prog 172 0 = some (0, 3) := by kernel_rfl
theorem field_172_1 : fieldOf Tryz.prog 172 1 = some (1, 3) := by kernel_rfl
theorem field_172_2 : fieldOf Tryz.prog 172 2 = some (2, 3) := by kernel_rfl
theorem places_173 : placesOf Tryz.prog 173 = some [(0, 1), (1, 1), (2, 1)] := by kernel_rfl
theorem field_173_0 : fieldOf Tryz.prog 173 0 = some (0, 3) := by kernel_rfl
theorem field_173_1 : fieldOf Tryz.prog 173 1 = some (1, 3) := by kernel_rfl
theorem field_173_2 : fieldOf Tryz.prog 173 2 = some (2, 3) := by kernel_rfl
theorem places_204 : placesOf Tryz.prog 204 = some [(0, 2), (2, 2), (4, 2), (6, 2)] := by kernel_rfl
theorem field_204_0 : fieldOf Tryz.prog 204 0 = some (0, 82) := by kernel_rfl
theorem field_204_1 : fieldOf Tryz.prog 204 1 = some (2, 82) := by kernel_rfl
theorem field_204_2 : fieldOf Tryz.prog 204 2 = some (4, 82) := by kernel_rfl
theorem field_204_3 : fieldOf Tryz.prog 204 3 = some (6, 82) := by kernel_rfl
theorem places_205 : placesOf Tryz.prog 205 = some [(0, 2), (2, 2), (4, 2), (6, 2)] := by kernel_rfl
theorem field_205_0 : fieldOf Tryz.prog 205 0 = some (0, 82) := by kernel_rfl
theorem field_205_1 : fieldOf Tryz.prog 205 1 = some (2, 82) := by kernel_rfl
theorem field_205_2 : fieldOf Tryz.prog 205 2 = some (4, 82) := by kernel_rfl
theorem field_205_3 : fieldOf Tryz.prog 205 3 = some (6, 82) := by kernel_rfl
theorem places_235 : placesOf Tryz.prog 235 = some [(0, 1), (1, 1), (2, 1), (3, 1)] := by kernel_rfl
theorem field_235_0 : fieldOf Tryz.prog 235 0 = some (0, 17) := by kernel_rfl
theorem field_235_1 : fieldOf Tryz.prog 235 1 = some (1, 17) := by kernel_rfl
theorem field_235_2 : fieldOf Tryz.prog 235 2 = some (2, 17) := by kernel_rfl
theorem field_235_3 : fieldOf Tryz.prog 235 3 = some (3, 9) := by kernel_rfl
theorem places_236 : placesOf Tryz.prog 236 = some [(0, 1), (1, 1), (2, 1), (3, 1)] := by kernel_rfl
theorem field_236_0 : fieldOf Tryz.prog 236 0 = some (0, 17) := by kernel_rfl
theorem field_236_1 : fieldOf Tryz.prog 236 1 = some (1, 17) := by kernel_rfl
theorem field_236_2 : fieldOf Tryz.prog 236 2 = some (2, 17) := by kernel_rfl
theorem field_236_3 : fieldOf Tryz.prog 236 3 = some (3, 9) := by kernel_rfl
theorem places_237 : placesOf Tryz.prog 237 = some [] := by kernel_rfl
theorem places_238 : placesOf Tryz.prog 238 = some [(0, 0)] := by kernel_rfl
theorem field_238_0 : fieldOf Tryz.prog 238 0 = some (0, 237) := by kernel_rfl
theorem places_239 : placesOf Tryz.prog 239 = some [(0, 0)] := by kernel_rfl
theorem field_239_0 : fieldOf Tryz.prog 239 0 = some (0, 237) := by kernel_rfl
theorem places_247 : placesOf Tryz.prog 247 = some [(0, 1), (1, 1), (2, 1), (3, 1), (4, 1), (5, 1), (6, 1), (7, 1), (8, 1), (9, 1), (10, 1)] := by kernel_rfl
theorem field_247_0 : fieldOf Tryz.prog 247 0 = some (0, 12) := by kernel_rfl
theorem field_247_1 : fieldOf Tryz.prog 247 1 = some (1, 12) := by kernel_rfl
theorem field_247_2 : fieldOf Tryz.prog 247 2 = some (2, 197) := by kernel_rfl
theorem field_247_3 : fieldOf Tryz.prog 247 3 = some (3, 241) := by kernel_rfl
theorem field_247_4 : fieldOf Tryz.prog 247 4 = some (4, 5) := by kernel_rfl
theorem field_247_5 : fieldOf Tryz.prog 247 5 = some (5, 5) := by kernel_rfl
theorem field_247_6 : fieldOf Tryz.prog 247 6 = some (6, 242) := by kernel_rfl
theorem field_247_7 : fieldOf Tryz.prog 247 7 = some (7, 243) := by kernel_rfl
theorem field_247_8 : fieldOf Tryz.prog 247 8 = some (8, 244) := by kernel_rfl
theorem field_247_9 : fieldOf Tryz.prog 247 9 = some (9, 245) := by kernel_rfl
theorem field_247_10 : fieldOf Tryz.prog 247 10 = some (10, 246) := by kernel_rfl
theorem places_248 : placesOf Tryz.prog 248 = some [(0, 1), (1, 1), (2, 1), (3, 1), (4, 1), (5, 1), (6, 1), (7, 1), (8, 1), (9, 1), (10, 1)] := by kernel_rfl
theorem field_248_0 : fieldOf Tryz.prog 248 0 = some (0, 12) := by kernel_rfl
theorem field_248_1 : fieldOf Tryz.prog 248 1 = some (1, 12) := by kernel_rfl
theorem field_248_2 : fieldOf Tryz.prog 248 2 = some (2, 197) := by kernel_rfl
theorem field_248_3 : fieldOf Tryz.prog 248 3 = some (3, 241) := by kernel_rfl
theorem field_248_4 : fieldOf Tryz.prog 248 4 = some (4, 5) := by kernel_rfl
theorem field_248_5 : fieldOf Tryz.prog 248 5 = some (5, 5) := by kernel_rfl
theorem field_248_6 : fieldOf Tryz.prog 248 6 = some (6, 242) := by kernel_rfl
theorem field_248_7 : fieldOf Tryz.prog 248 7 = some (7, 243) := by kernel_rfl
theorem field_248_8 : fieldOf Tryz.prog 248 8 = some (8, 244) := by kernel_rfl
theorem field_248_9 : fieldOf Tryz.prog 248 9 = some (9, 245) := by kernel_rfl
theorem field_248_10 : fieldOf Tryz.prog 248 10 = some (10, 246) := by kernel_rfl
theorem mixed : Tryz.prog.follows .mixedOrders = true := by kernel_rfl
attribute [go_sem] tinfo_0 agg_0 Tryz.underlying0 tinfo_1 agg_1 Tryz.underlying1 tinfo_2 agg_2 Tryz.underlying2 tinfo_3 agg_3 Tryz.underlying3 tinfo_4 agg_4 Tryz.underlying4 tinfo_5 agg_5 Tryz.underlying5 tinfo_6 agg_6 Tryz.underlying6 tinfo_7 agg_7 Tryz.underlying7 tinfo_8 agg_8 Tryz.underlying8 tinfo_9 agg_9 Tryz.underlying9 tinfo_10 agg_10 Tryz.underlying10 tinfo_11 agg_11 Tryz.underlying11 tinfo_12 agg_12 Tryz.underlying12 tinfo_13 agg_13 Tryz.underlying13 tinfo_14 agg_14 Tryz.underlying14 tinfo_15 agg_15 Tryz.underlying15 tinfo_16 agg_16 Tryz.underlying16 tinfo_17 agg_17 Tryz.underlying17 tinfo_18 agg_18 Tryz.underlying18 tinfo_19 agg_19 Tryz.underlying19 tinfo_20 agg_20 Tryz.underlying20 tinfo_21 agg_21 Tryz.underlying21 tinfo_22 agg_22 Tryz.underlying22 tinfo_23 agg_23 Tryz.underlying23 tinfo_24 agg_24 Tryz.underlying24 tinfo_25 agg_25 Tryz.underlying25 tinfo_26 agg_26 Tryz.underlying26 tinfo_27 agg_27 Tryz.underlying27 tinfo_28 agg_28 Tryz.underlying28 tinfo_29 agg_29 Tryz.underlying29 tinfo_30 agg_30 Tryz.underlying30 tinfo_31 agg_31 Tryz.underlying31 tinfo_32 agg_32 Tryz.underlying32 tinfo_33 agg_33 Tryz.underlying33 tinfo_34 agg_34 Tryz.underlying34 tinfo_35 agg_35 Tryz.underlying35 tinfo_36 agg_36 Tryz.underlying36 tinfo_37 agg_37 Tryz.underlying37 tinfo_38 agg_38 Tryz.underlying38 tinfo_39 agg_39 Tryz.underlying39 tinfo_40 agg_40 Tryz.underlying40 tinfo_41 agg_41 Tryz.underlying41 tinfo_42 agg_42 Tryz.underlying42 tinfo_43 agg_43 Tryz.underlying43 tinfo_44 agg_44 Tryz.underlying44 tinfo_45 agg_45 Tryz.underlying45 tinfo_46 agg_46 Tryz.underlying46 tinfo_47 agg_47 Tryz.underlying47 tinfo_48 agg_48 Tryz.underlying48 tinfo_49 agg_49 Tryz.underlying49 tinfo_50 agg_50 Tryz.underlying50 tinfo_51 agg_51 Tryz.underlying51 tinfo_52 agg_52 Tryz.underlying52 tinfo_53 agg_53 Tryz.underlying53 tinfo_54 agg_54 Tryz.underlying54 tinfo_55 agg_55 Tryz.underlying55 tinfo_56 agg_56 Tryz.underlying56 tinfo_57 agg_57 Tryz.underlying57 tinfo_58 agg_58 Tryz.underlying58 tinfo_59 agg_59 Tryz.underlying59 tinfo_60 agg_60 Tryz.underlying60 tinfo_61 agg_61 Tryz.underlying61 tinfo_62 agg_62 Tryz.underlying62 tinfo_63 agg_63 Tryz.underlying63 tinfo_64 agg_64 Tryz.underlying64 tinfo_65 agg_65 Tryz.underlying65 tinfo_66 agg_66 Tryz.underlying66 tinfo_67 agg_67 Tryz.underlying67 tinfo_68 agg_68 Tryz.underlying68 tinfo_69 agg_69 Tryz.underlying69 tinfo_70 agg_70 Tryz.underlying70 tinfo_71 agg_71 Tryz.underlying71 tinfo_72 agg_72 Tryz.underlying72 tinfo_73 agg_73 Tryz.underlying73 tinfo_74 agg_74 Tryz.underlying74 tinfo_75 agg_75 Tryz.underlying75 tinfo_76 agg_76 Tryz.underlying76 tinfo_77 agg_77 Tryz.underlying77 tinfo_78 agg_78 Tryz.underlying78 tinfo_79 agg_79 Tryz.underlying79 tinfo_80 agg_80 Tryz.underlying80 tinfo_81 agg_81 Tryz.underlying81 tinfo_82 agg_82 Tryz.underlying82 tinfo_83 agg_83 Tryz.underlying83 tinfo_84 agg_84 Tryz.underlying84 tinfo_85 agg_85 Tryz.underlying85 tinfo_86 agg_86 Tryz.underlying86 tinfo_87 agg_87 Tryz.underlying87 tinfo_88 agg_88 Tryz.underlying88 tinfo_89 agg_89 Tryz.underlying89 tinfo_90 agg_90 Tryz.underlying90 tinfo_91 agg_91 Tryz.underlying91 tinfo_92 agg_92 Tryz.underlying92 tinfo_93 agg_93 Tryz.underlying93 tinfo_94 agg_94 Tryz.underlying94 tinfo_95 agg_95 Tryz.underlying95 tinfo_96 agg_96 Tryz.underlying96 tinfo_97 agg_97 Tryz.underlying97 tinfo_98 agg_98 Tryz.underlying98 tinfo_99 agg_99 Tryz.underlying99 tinfo_100 agg_100 Tryz.underlying100 tinfo_101 agg_101 Tryz.underlying101 tinfo_102 agg_102 Tryz.underlying102 tinfo_103 agg_103 Tryz.underlying103 tinfo_104 agg_104 Tryz.underlying104 tinfo_105 agg_105 Tryz.underlying105 tinfo_106 agg_106 Tryz.underlying106 tinfo_107 agg_107 Tryz.underlying107 tinfo_108 agg_108 Tryz.underlying108 tinfo_109 agg_109 Tryz.underlying109 tinfo_110 agg_110 Tryz.underlying110 tinfo_111 agg_111 Tryz.underlying111 tinfo_112 agg_112 Tryz.underlying112 tinfo_113 agg_113 Tryz.underlying113 tinfo_114 agg_114 Tryz.underlying114 tinfo_115 agg_115 Tryz.underlying115 tinfo_116 agg_116 Tryz.underlying116 tinfo_117 agg_117 Tryz.underlying117 tinfo_118 agg_118 Tryz.underlying118 tinfo_119 agg_119 Tryz.underlying119 tinfo_120 agg_120 Tryz.underlying120 tinfo_121 agg_121 Tryz.underlying121 tinfo_122 agg_122 Tryz.underlying122 tinfo_123 agg_123 Tryz.underlying123 tinfo_124 agg_124 Tryz.underlying124 tinfo_125 agg_125 Tryz.underlying125 tinfo_126 agg_126 Tryz.underlying126 tinfo_127 agg_127 Tryz.underlying127 tinfo_128 agg_128 Tryz.underlying128 tinfo_129 agg_129 Tryz.underlying129 tinfo_130 agg_130 Tryz.underlying130 tinfo_131 agg_131 Tryz.underlying131 tinfo_132 agg_132 Tryz.underlying132 tinfo_133 agg_133 Tryz.underlying133 tinfo_134 agg_134 Tryz.underlying134 tinfo_135 agg_135 Tryz.underlying135 tinfo_136 agg_136 Tryz.underlying136 tinfo_137 agg_137 Tryz.underlying137 tinfo_138 agg_138 Tryz.underlying138 tinfo_139 agg_139 Tryz.underlying139 tinfo_140 agg_140 Tryz.underlying140 tinfo_141 agg_141 Tryz.underlying141 tinfo_142 agg_142 Tryz.underlying142 tinfo_143 agg_143 Tryz.underlying143 tinfo_144 agg_144 Tryz.underlying144 tinfo_145 agg_145 Tryz.underlying145 tinfo_146 agg_146 Tryz.underlying146 tinfo_147 agg_147 Tryz.underlying147 tinfo_148 agg_148 Tryz.underlying148 tinfo_149 agg_149 Tryz.underlying149 tinfo_150 agg_150 Tryz.underlying150 tinfo_151 agg_151 Tryz.underlying151 tinfo_152 agg_152 Tryz.underlying152 tinfo_153 agg_153 Tryz.underlying153 tinfo_154 agg_154 Tryz.underlying154 tinfo_155 agg_155 Tryz.underlying155 tinfo_156 agg_156 Tryz.underlying156 tinfo_157 agg_157 Tryz.underlying157 tinfo_158 agg_158 Tryz.underlying158 tinfo_159 agg_159 Tryz.underlying159 tinfo_160 agg_160 Tryz.underlying160 tinfo_161 agg_161 Tryz.underlying161 tinfo_162 agg_162 Tryz.underlying162 tinfo_163 agg_163 Tryz.underlying163 tinfo_164 agg_164 Tryz.underlying164 tinfo_165 agg_165 Tryz.underlying165 tinfo_166 agg_166 Tryz.underlying166 tinfo_167 agg_167 Tryz.underlying167 tinfo_168 agg_168 Tryz.underlying168 tinfo_169 agg_169 Tryz.underlying169 tinfo_170 agg_170 Tryz.underlying170 tinfo_171 agg_171 Tryz.underlying171 tinfo_172 agg_172 Tryz.underlying172 tinfo_173 agg_173 Tryz.underlying173 tinfo_174 agg_174 Tryz.underlying174 tinfo_175 agg_175 Tryz.underlying175 tinfo_176 agg_176 Tryz.underlying176 tinfo_177 agg_177 Tryz.underlying177 tinfo_178 agg_178 Tryz.underlying178 tinfo_179 agg_179 Tryz.underlying179 tinfo_180 agg_180 Tryz.underlying180 tinfo_181 agg_181 Tryz.underlying181 tinfo_182 agg_182 Tryz.underlying182 tinfo_183 agg_183 Tryz.underlying183 tinfo_184 agg_184 Tryz.underlying184 tinfo_185 agg_185 Tryz.underlying185 tinfo_186 agg_186 Tryz.underlying186 tinfo_187 agg_187 Tryz.underlying187 tinfo_188 agg_188 Tryz.underlying188 tinfo_189 agg_189 Tryz.underlying189 tinfo_190 agg_190 Tryz.underlying190 tinfo_191 agg_191 Tryz.underlying191 tinfo_192 agg_192 Tryz.underlying192 tinfo_193 agg_193 Tryz.underlying193 tinfo_194 agg_194 Tryz.underlying194 tinfo_195 agg_195 Tryz.underlying195 tinfo_196 agg_196 Tryz.underlying196 tinfo_197 agg_197 Tryz.underlying197 tinfo_198 agg_198 Tryz.underlying198 tinfo_199 agg_199 Tryz.underlying199 tinfo_200 agg_200 Tryz.underlying200 tinfo_201 agg_201 Tryz.underlying201 tinfo_202 agg_202 Tryz.underlying202 tinfo_203 agg_203 Tryz.underlying203 tinfo_204 agg_204 Tryz.underlying204 tinfo_205 agg_205 Tryz.underlying205 tinfo_206 agg_206 Tryz.underlying206 tinfo_207 agg_207 Tryz.underlying207 tinfo_208 agg_208 Tryz.underlying208 tinfo_209 agg_209 Tryz.underlying209 tinfo_210 agg_210 Tryz.underlying210 tinfo_211 agg_211 Tryz.underlying211 tinfo_212 agg_212 Tryz.underlying212 tinfo_213 agg_213 Tryz.underlying213 tinfo_214 agg_214 Tryz.underlying214 tinfo_215 agg_215 Tryz.underlying215 tinfo_216 agg_216 Tryz.underlying216 tinfo_217 agg_217 Tryz.underlying217 tinfo_218 agg_218 Tryz.underlying218 tinfo_219 agg_219 Tryz.underlying219 tinfo_220 agg_220 Tryz.underlying220 tinfo_221 agg_221 Tryz.underlying221 tinfo_222 agg_222 Tryz.underlying222 tinfo_223 agg_223 Tryz.underlying223 tinfo_224 agg_224 Tryz.underlying224 tinfo_225 agg_225 Tryz.underlying225 tinfo_226 agg_226 Tryz.underlying226 tinfo_227 agg_227 Tryz.underlying227 tinfo_228 agg_228 Tryz.underlying228 tinfo_229 agg_229 Tryz.underlying229 tinfo_230 agg_230 Tryz.underlying230 tinfo_231 agg_231 Tryz.underlying231 tinfo_232 agg_232 Tryz.underlying232 tinfo_233 agg_233 Tryz.underlying233 tinfo_234 agg_234 Tryz.underlying234 tinfo_235 agg_235 Tryz.underlying235 tinfo_236 agg_236 Tryz.underlying236 tinfo_237 agg_237 Tryz.underlying237 tinfo_238 agg_238 Tryz.underlying238 tinfo_239 agg_239 Tryz.underlying239 tinfo_240 agg_240 Tryz.underlying240 tinfo_241 agg_241 Tryz.underlying241 tinfo_242 agg_242 Tryz.underlying242 tinfo_243 agg_243 Tryz.underlying243 tinfo_244 agg_244 Tryz.underlying244 tinfo_245 agg_245 Tryz.underlying245 tinfo_246 agg_246 Tryz.underlying246 tinfo_247 agg_247 Tryz.underlying247 tinfo_248 agg_248 Tryz.underlying248 tinfo_249 agg_249 Tryz.underlying249 places_7 field_7_0 field_7_1 field_7_2 field_7_3 places_8 field_8_0 field_8_1 field_8_2 field_8_3 places_13 field_13_0 field_13_1 places_14 field_14_0 field_14_1 places_18 field_18_0 places_19 field_19_0 places_30 field_30_0 field_30_1 places_31 field_31_0 field_31_1 places_32 field_32_0 field_32_1 field_32_2 field_32_3 field_32_4 field_32_5 field_32_6 field_32_7 field_32_8 places_33 field_33_0 field_33_1 field_33_2 field_33_3 field_33_4 field_33_5 field_33_6 field_33_7 field_33_8 places_52 field_52_0 field_52_1 places_53 field_53_0 field_53_1 places_63 field_63_0 field_63_1 field_63_2 places_64 field_64_0 field_64_1 field_64_2 places_70 field_70_0 field_70_1 places_71 field_71_0 field_71_1 places_82 places_95 field_95_0 field_95_1 field_95_2 field_95_3 field_95_4 field_95_5 field_95_6 field_95_7 field_95_8 field_95_9 field_95_10 field_95_11 field_95_12 field_95_13 places_96 field_96_0 field_96_1 field_96_2 field_96_3 field_96_4 field_96_5 field_96_6 field_96_7 field_96_8 field_96_9 field_96_10 field_96_11 field_96_12 field_96_13 places_97 field_97_0 field_97_1 places_98 field_98_0 field_98_1 places_102 field_102_0 field_102_1 places_103 field_103_0 field_103_1 places_126 field_126_0 field_126_1 field_126_2 field_126_3 places_127 field_127_0 field_127_1 field_127_2 field_127_3 places_135 field_135_0 field_135_1 places_136 field_136_0 field_136_1 places_172 field_172_0 field_172_1 field_172_2 places_173 field_173_0 field_173_1 field_173_2 places_204 field_204_0 field_204_1 field_204_2 field_204_3 places_205 field_205_0 field_205_1 field_205_2 field_205_3 places_235 field_235_0 field_235_1 field_235_2 field_235_3 places_236 field_236_0 field_236_1 field_236_2 field_236_3 places_237 places_238 field_238_0 places_239 field_239_0 places_247 field_247_0 field_247_1 field_247_2 field_247_3 field_247_4 field_247_5 field_247_6 field_247_7 field_247_8 field_247_9 field_247_10 places_248 field_248_0 field_248_1 field_248_2 field_248_3 field_248_4 field_248_5 field_248_6 field_248_7 field_248_8 field_248_9 field_248_10
end Go.AM

/-! ## AmU -/
namespace Go.AM
open Go.RowKit

section
variable {P : Program} {ops : Array Oper}

/-! ### what an operation reads -/
theorem exec_congr {ρ ρ' : Operand → Value} {o : Oper} (hs : ∀ cs b, o.op ≠ .select cs b) (h : ∀ x ∈ o.op.operands, ρ x = ρ' x) : execOp ρ o = execOp ρ' o := by
  obtain ⟨d, op, T, pos, af, g⟩ := o
  have hm : ∀ {l : Array Operand}, (∀ x ∈ l, ρ x = ρ' x) → l.map ρ = l.map ρ' := fun h => Array.map_congr_left h
  have hr : ∀ {c : Call}, (∀ x ∈ c.operands, ρ x = ρ' x) → resolve ρ c T = resolve ρ' c T := by
    intro c hc
    obtain ⟨cl, args, As⟩ := c
    have ha : args.map ρ = args.map ρ' := hm fun x hx => hc x (by simp [Call.operands, hx])
    cases cl with
    | value f => simp only [resolve, ha, hc f (by simp [Call.operands])]
    | invoke r nm => simp only [resolve, ha, hc r (by simp [Call.operands])]
    | builtin b => simp only [resolve, ha]
  have hp : ∀ {ps : Array (Nat × Operand)}, (∀ x ∈ (ps.toList.map (·.2)).toArray, ρ x = ρ' x) → (ps.map fun (i, x) => (i, ρ x)) = ps.map fun (i, x) => (i, ρ' x) := by
    intro ps h
    refine Array.map_congr_left fun p hp => ?_
    obtain ⟨i, x⟩ := p
    have e := h x (by simp only [List.mem_toArray, List.mem_map, Array.mem_toList_iff]; exact ⟨(i, x), hp, rfl⟩)
    simp only [e]
  have ho : ∀ {x : Option Operand}, (∀ y ∈ x, ρ y = ρ' y) → x.map ρ = x.map ρ' := by
    intro x h; cases x with
    | none => rfl
    | some y => simp [h y rfl]
  cases op with
  | alloc | ready | waits => rfl
  | build _ ps => simp only [execOp]; rw [hp (ps := ps) h]
  | buildSlice _ _ ps => simp only [execOp]; rw [hp (ps := ps) h]
  | makeFunc fn f c =>
    simp only [Op.operands, Array.mem_append] at h
    simp only [execOp]; rw [hm (l := f) fun x hx => h x (.inl hx), hm (l := c) fun x hx => h x (.inr hx)]
  | makeMap t r =>
    simp only [execOp]; rw [ho (x := r) fun y hy => h y (by simp [Op.operands]; exact hy)]
  | slice t x l h' m =>
    simp only [execOp]
    rw [h x (by simp [Op.operands]), ho (x := l) fun y hy => h y (by simp [Op.operands]; exact .inr (.inl hy)), ho (x := h') fun y hy => h y (by simp [Op.operands]; exact .inr (.inr (.inl hy))), ho (x := m) fun y hy => h y (by simp [Op.operands]; exact .inr (.inr (.inr hy)))]
  | call c => simp only [execOp]; rw [hr (c := c) h]
  | go c => simp only [execOp]; rw [hr (c := c) h]
  | defer c => simp only [execOp]; rw [hr (c := c) h]
  | select cs b => exact absurd rfl (hs cs b)
  | _ => simp [Op.operands] at h <;> simp [execOp, h]

theorem eval_put {a : Act} {d : Nat} {v : Value} {x : Operand} (h : x ≠ .tmp d) : (a.put (some d) v).eval x = a.eval x := by
  cases x with
  | tmp s =>
    have : d ≠ s := fun h' => h (by rw [h'])
    simp [Act.eval, Act.put, Array.getElem?_setIfInBounds_ne this]
  | _ => rfl

theorem put_put {a : Act} {d : Nat} {o : Option Tmp} {v x : Value} (h : o ≠ some d) : (a.put (some d) v).put o x = (a.put o x).put (some d) v := by
  cases o with
  | none => rfl
  | some e =>
    have : d ≠ e := fun h' => h (by rw [h'])
    simp only [Act.put]
    rw [Array.setIfInBounds_comm _ _ this]

structure Front (ops : Array Oper) (j : Nat) (p : Oper) (d : Nat) : Prop where
  here : ops[j]? = some p
  guard : p.guard = none
  dst : p.dst = some d
  sel : ∀ cs b, p.op ≠ .select cs b
  other : ∀ i o, ops[i]? = some o → i ≠ j → (∀ cs b, o.op ≠ .select cs b) ∧ o.dst ≠ some d ∧ (d ∈ slotsOf o → reach ops ops.size i j = true) ∧ (∀ s, o.dst = some s → s ∈ slotsOf p → reach ops ops.size j i = true ∨ reach ops ops.size i j = true) ∧ (∀ g b, o.guard = some (g, b) → guardSlot ops g ≠ some d)

theorem mem_slots {o : Oper} {s : Nat} (h : Operand.tmp s ∈ o.op.operands) : s ∈ slotsOf o := by
  unfold slotsOf
  exact List.mem_filterMap.2 ⟨.tmp s, by simpa using h, rfl⟩

theorem wanted_put {o : Oper} {a : Act} {d : Nat} {v : Value} (h : ∀ g b, o.guard = some (g, b) → guardSlot ops g ≠ some d) : Region.wanted o (yielded ops (a.put (some d) v).tmps) = Region.wanted o (yielded ops a.tmps) := by
  unfold Region.wanted
  cases hg : o.guard with
  | none => rfl
  | some p =>
    obtain ⟨g, b⟩ := p
    have := h g b hg
    have e : yielded ops (a.put (some d) v).tmps g = yielded ops a.tmps g := by
      unfold guardSlot at this
      unfold yielded
      cases hs : (ops[g]?).bind (·.dst) with
      | none => rfl
      | some s =>
        rw [hs] at this
        have hds : d ≠ s := fun h' => this (by rw [h'])
        simp only [Act.put, Option.bind_some, Array.getElem?_setIfInBounds_ne hds]
    simp [e]

/-- another operation, with the name's slot filled or not -/
theorem wpOp_swap {Q : Exit → Act → World → Prop} (hQ : ∀ e a w, e ≠ .normal → ¬ Q e a w) {i d : Nat} {o : Oper} {a : Act} {w : World} {v : Value} {K K' : Act → World → Prop}
    (ho : ops[i]? = some o) (hs : ∀ cs b, o.op ≠ .select cs b) (hd : o.dst ≠ some d) (hr : d ∉ slotsOf o) (hg : ∀ g b, o.guard = some (g, b) → guardSlot ops g ≠ some d)
    (hK : ∀ ds x w', K (({ a with defers := ds } : Act).put o.dst x |>.put (some d) v) w' → K' (({ a with defers := ds } : Act).put o.dst x) w')
    (h : Go.wpOp P ops Q i K (a.put (some d) v) w) : Go.wpOp P ops Q i K' a w := by
  have he : execOp (a.put (some d) v).eval o = execOp a.eval o := exec_congr hs fun x hx => eval_put fun hxd => hr (mem_slots (by rw [← hxd]; exact hx))
  have hout : ¬ LetsOut Q := fun ⟨a, w, h⟩ => hQ _ _ _ (by simp) h
  have hk : ∀ x w', K ((a.put (some d) v).put o.dst x) w' → K' (a.put o.dst x) w' := fun x w' h => hK a.defers x w' (by rw [put_put hd] at h; exact h)
  simp only [Go.wpOp, ho, wanted_put hg] at h ⊢
  split
  · rename_i hw
    simp only [hw, if_true] at h
    rcases h with h | ⟨_, h⟩
    · refine .inl ?_
      simp only [Oper.wp, he] at h ⊢
      generalize (execOp a.eval o).run P w = r at *
      cases r with
      | ok n w' =>
        cases n <;> simp only [Oper.upon] at h ⊢
        case value => exact hk _ _ h
        case skip => exact hk _ _ h
        case defer D =>
          refine hK (D :: a.defers) _ _ ?_
          have : ({ (a.put (some d) v) with defers := D :: (a.put (some d) v).defers } : Act) = ({ a with defers := D :: a.defers } : Act).put (some d) v := rfl
          rw [this, put_put hd] at h; exact h
        case enter =>
          refine Calls.mono h fun e w'' h => ?_
          rcases e with _ | _ | _
          · exact hk _ _ h
          · exact absurd h (hQ _ _ _ (by simp))
          · exact absurd h hout
        case row => exact Rows.mono h fun _ _ h => hk _ _ h
      | halt x w' =>
        cases x <;> simp only [Oper.upon] at h ⊢
        exact absurd h (hQ _ _ _ (by simp))
    · exact absurd h hout
  · rename_i hw
    simp only [hw] at h
    exact hk _ _ h

/-- a name, taken first -/
theorem front_run {Q : Exit → Act → World → Prop} (hQ : ∀ e a w, e ≠ .normal → ¬ Q e a w) {j d : Nat} {p : Oper} (hf : Front ops j p d) :
    ∀ (fuel : Nat) (listed : Array Bool) (a : Act) (w : World) (v : Value), listed.size = ops.size → Closed ops (fun k => listed.getD k false) → j ∈ Region.ready .any ops listed →
      (∀ w', (execOp a.eval p).run P w' = .ok (.value v) w') → wpAny P .any ops Q fuel (listed.setIfInBounds j true) (a.put (some d) v) w → wpAny P .any ops Q (fuel + 1) listed a w := by
  intro fuel
  have key : ∀ {listed : Array Bool} {i : Nat}, listed.size = ops.size → i ∈ Region.ready .any ops listed → j ∈ Region.ready .any ops listed → i ≠ j → i ∈ Region.ready .any ops (listed.setIfInBounds j true) := by
    intro listed i hsz hi hj hij
    obtain ⟨o, ho, h1, h2⟩ := (ready_iff hsz).1 hi
    obtain ⟨p', hp', _⟩ := (ready_iff hsz).1 hj
    have hjl : j < listed.size := by rw [hsz]; exact (Array.getElem?_eq_some_iff.1 hp').1
    refine (ready_iff (by simpa using hsz)).2 ⟨o, ho, ?_, fun k hk => ?_⟩
    · rw [set_getD hjl, if_neg (Ne.symm hij)]; exact h1
    · rw [set_getD hjl]; split
      · rfl
      · exact h2 k hk
  have first : ∀ (fuel : Nat) (listed : Array Bool) (a : Act) (w : World) (v : Value), (∀ w', (execOp a.eval p).run P w' = .ok (.value v) w') → wpAny P .any ops Q fuel (listed.setIfInBounds j true) (a.put (some d) v) w →
      Go.wpOp P ops Q j (wpAny P .any ops Q fuel (listed.setIfInBounds j true)) a w := by
    intro fuel listed a w v hex h
    simp only [Go.wpOp, hf.here]
    rw [if_pos (by simp [Region.wanted, hf.guard])]
    refine .inl ?_
    simp only [Oper.wp, hex w, Oper.upon, hf.dst]
    exact h
  induction fuel with
  | zero =>
    intro listed a w v hsz hc hj hex h
    refine ⟨fun hr => absurd hj (by rw [hr]; simp), fun i hi => ?_⟩
    by_cases hij : i = j
    · subst hij; exact first 0 listed a w v hex h
    · exact absurd (key hsz hi hj hij) (by rw [h.1]; simp)
  | succ fuel ih =>
    intro listed a w v hsz hc hj hex h
    refine ⟨fun hr => absurd hj (by rw [hr]; simp), fun i hi => ?_⟩
    by_cases hij : i = j
    · subst hij; exact first (fuel + 1) listed a w v hex h
    · obtain ⟨o, ho, h1, h2⟩ := (ready_iff hsz).1 hi
      obtain ⟨p', hp', k1, k2⟩ := (ready_iff hsz).1 hj
      rw [hf.here] at hp'; cases hp'
      have hjl : j < listed.size := by rw [hsz]; exact (Array.getElem?_eq_some_iff.1 hf.here).1
      have hil : i < listed.size := by rw [hsz]; exact (Array.getElem?_eq_some_iff.1 ho).1
      obtain ⟨s1, s2, s3, s4, s5⟩ := hf.other i o ho hij
      have hr : d ∉ slotsOf o := fun hm => by
        have := reach_listed hc ops.size i j o ho h2 (s3 hm)
        rw [k1] at this; cases this
      have hr' : ∀ s, o.dst = some s → s ∉ slotsOf p := fun s hs hm => by
        rcases s4 s hs hm with s4 | s4
        · have := reach_listed hc ops.size j i p hf.here k2 s4
          rw [h1] at this; cases this
        · have := reach_listed hc ops.size i j o ho h2 s4
          rw [k1] at this; cases this
      refine wpOp_swap hQ ho s1 s2 hr s5 (fun ds x w' hk => ?_) (h.2 i (key hsz hi hj hij))
      rw [Array.setIfInBounds_comm _ _ (Ne.symm hij)] at hk
      refine ih _ _ _ v (by simpa using hsz) (hc.step hil ho h2) ((ready_iff (by simpa using hsz)).2 ⟨p, hf.here, by rw [set_getD hil, if_neg hij]; exact k1, fun k hk' => ?_⟩) (fun w' => ?_) hk
      · rw [set_getD hil]; split
        · rfl
        · exact k2 k hk'
      · rw [← hex w']
        congr 1
        refine exec_congr hf.sel fun x hx => ?_
        cases hod : o.dst with
        | none => cases x <;> rfl
        | some e =>
          rw [eval_put (fun hxe => hr' e hod (mem_slots (by rw [← hxe]; exact hx)))]
          cases x <;> rfl

/-! ### the names' values -/
def isSlice : AV → Bool
  | .sl _ _ _ => true
  | .so _ _ => true
  | _ => false

def frontV (P : Program) (op : Op) (σ : St) (K : AV → Prop) : Prop :=
  match op with
  | .move x => K (σ.ev x)
  | .indexAddr T x i => isSlice (σ.ev x) = true ∧ evIndexAddr P T (σ.ev x) (σ.ev i) K
  | _ => False

theorem frontV_sound {p : Oper} {σ : St} {K : AV → Prop} (h : frontV P p.op σ K) :
    ∃ y, K y ∧ ∀ (G : Nat → Status) (a : Act) (w : World), Good G w → (∀ x, VRel G w (σ.ev x) (a.eval x)) → ∃ v, VRel G w y v ∧ ∀ w', (execOp a.eval p).run P w' = .ok (.value v) w' := by
  unfold frontV at h
  split at h
  · rename_i x ho
    exact ⟨_, h, fun G a w _ hv => ⟨_, hv x, fun w' => by simp [execOp, ho]⟩⟩
  · rename_i T x i ho
    obtain ⟨hsl, h⟩ := h
    unfold evIndexAddr at h
    split at h
    · rename_i k n hi
      split at h
      · rename_i E t es xs hT hx
        obtain ⟨⟨⟨sz, by_, z⟩, hq, rfl⟩, h0, h1, hK⟩ := h
        refine ⟨_, hK, fun G a w hg hv => ?_⟩
        have hu := hv i; rw [hi] at hu
        have hu := hu.sc_inv
        have hv' := hv x; rw [hx] at hv'
        obtain ⟨ao, c, hvx, h2, h3, _, h4⟩ := hv'.sl_inv
        rcases h4 with rfl | ⟨b, off, vals, rfl, hs⟩
        · simp at h1; omega
        · refine ⟨.pointer (some ⟨b, off + n.toNat * sz + 0, none⟩), .pe _ _ _ _ _ _ _ c (by rw [hvx] at hv'; exact hv') (by omega), fun w' => ?_⟩
          simp [execOp, ho, hvx, hu, Instr.indexAt, asIntOf, run_underlying hT, h0, h1, run_sizeOf hq, Addr.add_none]
      · rename_i E t xs hT hx
        obtain ⟨⟨⟨sz, by_, z⟩, hq, rfl⟩, h0, h1, hK⟩ := h
        refine ⟨_, hK, fun G a w hg hv => ?_⟩
        have hu := hv i; rw [hi] at hu
        have hu := hu.sc_inv
        have hv' := hv x; rw [hx] at hv'
        obtain ⟨ao, c, hvx, h3, _, h4⟩ := hv'.so_inv
        rcases h4 with rfl | ⟨b, vals, rfl, hs⟩
        · simp at h1; omega
        · refine ⟨.pointer (some ⟨b, 0 + n.toNat, none⟩), .po _ _ _ _ _ c (by rw [hvx] at hv'; exact hv') (by omega), fun w' => ?_⟩
          simp [execOp, ho, hvx, hu, Instr.indexAt, asIntOf, run_underlying hT, h0, h1, run_sizeOf hq, Addr.add_none]
      · rename_i hx
        rw [hx] at hsl; simp [isSlice] at hsl
      · rename_i len E hT
        exfalso
        obtain ⟨hp, _⟩ := h
        generalize σ.ev x = y at hsl hp
        cases y <;> simp [isSlice, isPtr] at hsl hp
      · exact h.elim
    · exact h.elim
  · exact h.elim

/-! ### the walk -/
/-- what the check says -/
structure PlanX (ops : Array Oper) (F : List Nat) (m : Nat) : Prop where
  le : m ≤ ops.size
  lt : ∀ i o, ops[i]? = some o → ∀ k ∈ edges o, k < i
  head : ∀ i o, ops[i]? = some o → i < m → F.contains i = false → o.guard = none ∧ ∃ d, o.dst = some d ∧ d ∉ slotsOf o ∧ ∀ j p s, j < m → j ≠ i → ops[j]? = some p → p.dst = some s → s ≠ d ∧ (s ∈ slotsOf o → if j < i then reach ops ops.size i j = true else reach ops ops.size j i = true)
  tail : ∀ i o, ops[i]? = some o → m ≤ i → F.contains i = false → ∀ j, j < i → F.contains j = false → reach ops ops.size i j = true
  front : ∀ i o, ops[i]? = some o → F.contains i = true → ∃ d, Front ops i o d

def walkT (P : Program) (ops : Array Oper) (F : List Nat) : Nat → List Oper → St → (St → Prop) → Prop
  | _, [], σ, K => K σ
  | k, o :: l, σ, K => if F.contains k = true then walkT P ops F (k + 1) l σ K else opsA P ops [o] σ fun σ' => walkT P ops F (k + 1) l σ' K

theorem tail_runX {F : List Nat} {m : Nat} {G0 : Orig} {w0 : World} {K : St → Prop} {Q : Exit → Act → World → Prop} (hp : PlanX ops F m) (h0 : True) (hQ : ∀ σ' G' a' w', K σ' → SRel G0 w0 σ' G' a' w' → Q .normal a' w') :
    ∀ (r fuel k : Nat) (listed : Array Bool) (U : List Nat) (σ : St) (G : Nat → Status) (a : Act) (w : World), k + r = ops.size → Left ops listed U → U.length = fuel → m ≤ k → (∀ i, i < ops.size → (listed.getD i false = true ↔ i < k ∨ F.contains i = true)) →
      Closed ops (fun k => listed.getD k false) → walkT P ops F k (ops.toList.drop k) σ K → SRel G0 w0 σ G a w → wpAny P .any ops Q fuel listed a w := by
  intro r
  induction r with
  | zero =>
    intro fuel k listed U σ G a w hkr hl hU hmk hk hc hw h
    have hUn : U = [] := by
      apply List.eq_nil_iff_forall_not_mem.2
      intro i hi
      obtain ⟨h1, h2⟩ := (hl.mem i).1 hi
      have := (hk i h1).2 (.inl (by omega))
      rw [h2] at this; cases this
    subst hUn
    simp at hU; subst hU
    have hkk : k = ops.size := by omega
    subst hkk
    refine ⟨?_, ?_⟩
    · apply List.eq_nil_iff_forall_not_mem.2
      intro i hi
      obtain ⟨o, ho, h1, _⟩ := (ready_iff hl.size).1 hi
      have := (hl.mem i).2 ⟨(Array.getElem?_eq_some_iff.1 ho).1, h1⟩
      simp at this
    · have hd : ops.toList.drop ops.size = [] := by simp
      rw [hd] at hw
      exact hQ σ G a w hw h
  | succ r ih =>
    intro fuel k listed U σ G a w hkr hl hU hmk hk hc hw h
    have hltk : k < ops.size := by omega
    obtain ⟨ok, hok⟩ : ∃ o, ops[k]? = some o := ⟨ops[k], by simp [hltk]⟩
    have hdrop : ops.toList.drop k = ok :: ops.toList.drop (k + 1) := by
      have hlt' : k < ops.toList.length := by simpa using hltk
      rw [List.drop_eq_getElem_cons hlt']
      have : ops.toList[k] = ok := by
        have := Array.getElem?_eq_some_iff.1 hok
        simpa using this.2
      rw [this]
    rw [hdrop] at hw
    simp only [walkT] at hw
    split at hw
    · rename_i hF
      refine ih fuel (k + 1) listed U σ G a w (by omega) hl hU (by omega) (fun i hi => ?_) hc hw h
      rw [hk i hi]
      constructor
      · rintro (h | h)
        · exact .inl (by omega)
        · exact .inr h
      · rintro (h | h)
        · by_cases hik : i = k
          · subst hik; exact .inr hF
          · exact .inl (by omega)
        · exact .inr h
    · rename_i hF
      have hF' : F.contains k = false := by simpa using hF
      have hkf : listed.getD k false = false := by
        cases hb : listed.getD k false
        · rfl
        · rcases (hk k hltk).1 hb with h | h
          · omega
          · rw [hF'] at h; cases h
      have hmem : k ∈ U := (hl.mem k).2 ⟨hltk, hkf⟩
      have hUn : U ≠ [] := by intro h; rw [h] at hmem; simp at hmem
      obtain ⟨l1, l2⟩ := hl.step hmem
      obtain ⟨f, rfl⟩ : ∃ f, fuel = f + 1 := ⟨fuel - 1, by omega⟩
      refine ⟨fun hr => absurd hr (some_ready hl hp.lt hUn), fun i hi => ?_⟩
      obtain ⟨o, ho, h1, h2⟩ := (ready_iff hl.size).1 hi
      have hlt := (Array.getElem?_eq_some_iff.1 ho).1
      have hni : ¬ (i < k ∨ F.contains i = true) := fun h => by have := (hk i hlt).2 h; rw [h1] at this; cases this
      have hiF : F.contains i = false := by
        cases hb : F.contains i
        · rfl
        · exact absurd (.inr hb) hni
      have hik : i = k := by
        apply Classical.byContradiction
        intro hne
        have hlk : k < i := by
          have : ¬ i < k := fun h => hni (.inl h)
          omega
        have := reach_listed hc ops.size i k o ho h2 (hp.tail i o ho (by omega) hiF k hlk hF')
        rw [hkf] at this; cases this
      subst hik
      obtain rfl : o = ok := by rw [ho] at hok; exact Option.some.inj hok
      have hsz : i < listed.size := by rw [hl.size]; exact hlt
      have hk' : ∀ j, j < ops.size → ((listed.setIfInBounds i true).getD j false = true ↔ j < i + 1 ∨ F.contains j = true) := fun j hj => by
        rw [set_getD hsz]
        by_cases hij : i = j
        · subst hij; simp
        · rw [if_neg hij, hk j hj]
          constructor
          · rintro (h | h)
            · exact .inl (by omega)
            · exact .inr h
          · rintro (h | h)
            · exact .inl (by omega)
            · exact .inr h
      have hcont : ∀ {σ' G' a' w'}, walkT P ops F (i + 1) (ops.toList.drop (i + 1)) σ' K → SRel G0 w0 σ' G' a' w' → wpAny P .any ops Q f (listed.setIfInBounds i true) a' w' := fun hk2 hs2 =>
        ih f (i + 1) _ _ _ _ _ _ (by omega) l1 (by omega) (by omega) hk' (hc.step hsz ho h2) hk2 hs2
      simp only [opsA] at hw
      simp only [Go.wpOp, ho]
      have run : ∀ {σ}, AM.wpOp P o σ (fun σ' => walkT P ops F (i + 1) (ops.toList.drop (i + 1)) σ' K) → SRel G0 w0 σ G a w → o.wp P a w (wpAny P .any ops Q f (listed.setIfInBounds i true)) Q := fun hw h =>
        wpOp_sound hw h h0 _ _ fun σ' G' a' w' hk hs => hcont hk hs
      cases hg : o.guard with
      | none =>
        simp only [hg] at hw
        rw [if_pos (by simp [Region.wanted, hg])]
        exact .inl (run hw h)
      | some p =>
        obtain ⟨j, want⟩ := p
        simp only [hg] at hw
        cases hgs : guardSlot ops j with
        | none => simp [hgs] at hw
        | some g =>
          simp only [hgs] at hw
          split at hw
          · rename_i b hb
            have hv := h.slots g
            rw [hb] at hv
            have hy := yielded_bool hgs hv.sc_inv
            by_cases hbw : b = want
            · subst hbw
              rw [if_pos (by simp [Region.wanted, hg, hy])]
              exact .inl (run (hw.1 rfl) (h.same hb))
            · rw [if_neg (by simp [Region.wanted, hg, hy, hbw])]
              have hbn : b = !want := by cases b <;> cases want <;> simp_all
              obtain ⟨hdst, hw⟩ := hw.2 hbn
              have hs := (h.same (g := g) (x := .sc (.bool (!want))) (by rw [hb, hbn])).add (.refl G w) h.good (fun _ _ h => h) (d := o.dst) (x := .sc undef) (v := undef) (by rw [put_n]; exact hdst) (.froz (.sc _))
              exact hcont hw hs
          · rename_i vs hb
            have hv := h.slots g
            rw [hb] at hv
            have hy := yielded_none hgs hv.sc_inv
            rw [if_neg (by simp [Region.wanted, hg, hy])]
            obtain ⟨hdst, hw⟩ := hw
            have hs := h.add (.refl G w) h.good (fun _ _ h => h) (d := o.dst) (x := .sc undef) (v := undef) hdst (.froz (.sc _))
            exact hcont hw hs
          · exact hw.elim
theorem head_runX {F : List Nat} {m : Nat} {G0 : Orig} {w0 : World} {σ : St} {K : St → Prop} {Q : Exit → Act → World → Prop} {vs : List (Nat × AV)} (hp : PlanX ops F m) (h0 : True) (hQ : ∀ σ' G' a' w', K σ' → SRel G0 w0 σ' G' a' w' → Q .normal a' w') (hvl : vs.length = m) (hap : Apart vs)
    (hK : walkT P ops F m (ops.toList.drop m) (puts σ vs) K)
    (hst : ∀ i o, i < m → ops[i]? = some o → ∃ d y, vs[i]? = some (d, y) ∧ o.dst = some d ∧ d < σ.n ∧ (F.contains i = false → StepOk P o d (puts σ (vs.take i)).ev σ.boxes y)) :
    ∀ (fuel : Nat) (listed : Array Bool) (U : List Nat) (τ : St) (G : Nat → Status) (a : Act) (w : World), Left ops listed U → U.length = fuel → (∀ i, i < ops.size → m ≤ i → (listed.getD i false = true ↔ F.contains i = true)) → (∀ i, i < ops.size → F.contains i = true → listed.getD i false = true) →
      Closed ops (fun k => listed.getD k false) → At vs (fun i => listed.getD i false) σ τ → SRel G0 w0 τ G a w →
      (∀ i o d, ops[i]? = some o → i < m → o.dst = some d → creates o.op = true → listed.getD i false = false → Fresh d G) → wpAny P .any ops Q fuel listed a w := by
  intro fuel
  induction fuel with
  | zero =>
    intro listed U τ G a w hl hU hm hF hc hat h hfr
    have hUn : U = [] := List.eq_nil_of_length_eq_zero hU
    subst hUn
    have hall : ∀ i, i < ops.size → listed.getD i false = true := fun i hi => by
      cases hb : listed.getD i false
      · have := (hl.mem i).2 ⟨hi, hb⟩; simp at this
      · rfl
    have heq : SRel G0 w0 (puts σ vs) G a w := by
      have hpa := puts_at m vs σ hap
      rw [List.take_of_length_le (by omega)] at hpa
      refine h.slotsEq (by rw [hpa.n, hat.n]) (by rw [hpa.boxes, hat.boxes]) fun s => ?_
      by_cases hs : ∀ (i d : Nat) (y : AV), vs[i]? = some (d, y) → d ≠ s
      · rw [hpa.rest s hs, hat.rest s hs]
      · have : ∃ (i : Nat) (y : AV), vs[i]? = some (s, y) := by
          apply Classical.byContradiction
          intro hcon
          exact hs fun i d y hi hds => hcon ⟨i, y, by rw [← hds]; exact hi⟩
        obtain ⟨i, y, hi⟩ := this
        have hil : i < m := by rw [← hvl]; exact (List.getElem?_eq_some_iff.1 hi).1
        rw [hpa.dst i s y hi, hat.dst i s y hi]
        simp [hil, hall i (by have := hp.le; omega)]
    refine tail_runX (P := P) hp h0 hQ (ops.size - m) 0 m listed [] (puts σ vs) G a w (by have := hp.le; omega) hl rfl (Nat.le_refl m) (fun i hi => ⟨fun hb => ?_, fun _ => hall i hi⟩) hc hK heq
    by_cases him : i < m
    · exact .inl him
    · exact .inr ((hm i hi (by omega)).1 hb)
  | succ fuel ih =>
    intro listed U τ G a w hl hU hm hF hc hat h hfr
    have hUn : U ≠ [] := by intro h; rw [h] at hU; simp at hU
    by_cases hdone : ∀ i, i < m → listed.getD i false = true
    · have heq : SRel G0 w0 (puts σ vs) G a w := by
        have hpa := puts_at m vs σ hap
        rw [List.take_of_length_le (by omega)] at hpa
        refine h.slotsEq (by rw [hpa.n, hat.n]) (by rw [hpa.boxes, hat.boxes]) fun s => ?_
        by_cases hs : ∀ (i d : Nat) (y : AV), vs[i]? = some (d, y) → d ≠ s
        · rw [hpa.rest s hs, hat.rest s hs]
        · have : ∃ (i : Nat) (y : AV), vs[i]? = some (s, y) := by
            apply Classical.byContradiction
            intro hcon
            exact hs fun i d y hi hds => hcon ⟨i, y, by rw [← hds]; exact hi⟩
          obtain ⟨i, y, hi⟩ := this
          have hil : i < m := by rw [← hvl]; exact (List.getElem?_eq_some_iff.1 hi).1
          rw [hpa.dst i s y hi, hat.dst i s y hi]
          simp [hil, hdone i hil]
      refine tail_runX (P := P) hp h0 hQ (ops.size - m) (fuel + 1) m listed U (puts σ vs) G a w (by have := hp.le; omega) hl hU (Nat.le_refl m) (fun i hi => ⟨fun hb => ?_, fun hor => ?_⟩) hc hK heq
      · by_cases him : i < m
        · exact .inl him
        · exact .inr ((hm i hi (by omega)).1 hb)
      · rcases hor with hor | hor
        · exact hdone i hor
        · exact hF i hi hor
    · refine ⟨fun hr => absurd hr (some_ready hl hp.lt hUn), fun i hi => ?_⟩
      obtain ⟨o, ho, h1, h2⟩ := (ready_iff hl.size).1 hi
      have hlt := (Array.getElem?_eq_some_iff.1 ho).1
      have hiF : F.contains i = false := by
        cases hb : F.contains i
        · rfl
        · have := hF i hlt hb; rw [h1] at this; cases this
      have him : i < m := by
        apply Classical.byContradiction
        intro hge
        refine hdone fun j hj => ?_
        cases hjF : F.contains j
        · exact reach_listed hc ops.size i j o ho h2 (hp.tail i o ho (by omega) hiF j (by omega) hjF)
        · exact hF j (by have := hp.le; omega) hjF
      obtain ⟨d, y, hv, hd, hdn, hstep⟩ := hst i o him ho
      have hstep := hstep hiF
      obtain ⟨hg, d', hd', hself, hpair⟩ := hp.head i o ho him hiF
      rw [hd] at hd'; cases hd'
      have hmem : i ∈ U := (hl.mem i).2 ⟨hlt, h1⟩
      obtain ⟨l1, l2⟩ := hl.step hmem
      have hsz : i < listed.size := by rw [hl.size]; exact hlt
      have hops : ∀ x ∈ o.op.operands, VRel G w ((puts σ (vs.take i)).ev x) (a.eval x) := by
        intro x hx
        have hrel := h.ev x
        suffices (puts σ (vs.take i)).ev x = τ.ev x by rw [this]; exact hrel
        cases x with
        | tmp s =>
          simp only [St.ev]
          have hpa := puts_at i vs σ hap
          have hsm : s ∈ slotsOf o := by
            unfold slotsOf
            exact List.mem_filterMap.2 ⟨.tmp s, by simpa using hx, rfl⟩
          by_cases hs : ∀ (i d : Nat) (y : AV), vs[i]? = some (d, y) → d ≠ s
          · rw [hpa.rest s hs, hat.rest s hs]
          · have : ∃ (j : Nat) (y : AV), vs[j]? = some (s, y) := by
              apply Classical.byContradiction
              intro hcon
              exact hs fun i d y hi hds => hcon ⟨i, y, by rw [← hds]; exact hi⟩
            obtain ⟨j, y', hj⟩ := this
            have hjl : j < m := by rw [← hvl]; exact (List.getElem?_eq_some_iff.1 hj).1
            obtain ⟨p, hpj⟩ : ∃ p, ops[j]? = some p := ⟨ops[j]'(by have := hp.le; omega), by have := hp.le; simp [show j < ops.size by omega]⟩
            obtain ⟨d'', y'', hv'', hds'', _⟩ := hst j p hjl hpj
            rw [hj] at hv''; cases hv''
            have hji : j ≠ i := fun hji => by subst hji; rw [hv] at hj; cases hj; exact hself hsm
            have hre := (hpair j p s hjl hji hpj hds'').2 hsm
            rw [hpa.dst j s y' hj, hat.dst j s y' hj]
            by_cases hjlt : j < i
            · rw [if_pos hjlt] at hre
              have := reach_listed hc ops.size i j o ho h2 hre
              simp [hjlt, this]
            · rw [if_neg hjlt] at hre
              have hjf : listed.getD j false = false := by
                cases hb : listed.getD j false
                · rfl
                · have := reach_listed hc ops.size j i p hpj (fun k hk => hc j p hpj hb k hk) hre
                  rw [h1] at this; cases this
              simp [hjlt, hjf]
        | const v => rfl
        | func f => rfl
        | global g => rfl
      simp only [Go.wpOp, ho]
      rw [if_pos (by simp [Region.wanted, hg])]
      refine .inl (hstep _ G a w h.good (by rw [← hat.boxes]; exact h.boxes) (fun hcr => hfr i o d ho him hd hcr h1) hops _ _ fun v w' G' g1 g2 g3 g4 => ?_)
      have hs' : SRel G0 w0 (τ.put (some d) y) G' (a.put o.dst v) w' := by
        rw [hd]
        exact h.add g2 g3 g4.boxes (by simp [dstOk, hat.n, hdn]) g1
      refine ih _ _ _ G' _ _ l1 (by omega) (fun j hjs hj => ?_) (fun j hjs hj => ?_) (hc.step hsz ho h2) (hat.step hap hv (fun j hj => ?_) ?_) hs' (fun j oj dj hoj hjm hdj hcr hjf => ?_)
      · rw [set_getD hsz, if_neg (by omega)]; exact hm j hjs hj
      · rw [set_getD hsz]; split
        · rfl
        · exact hF j hjs hj
      · simp only [set_getD hsz]; rw [if_neg (Ne.symm hj)]
      · simp only [set_getD hsz]; simp
      · rw [set_getD hsz] at hjf
        by_cases hij : i = j
        · rw [if_pos hij] at hjf; cases hjf
        · rw [if_neg hij] at hjf
          have hne := (hpair j oj dj hjm (Ne.symm hij) hoj hdj).1
          exact g4.fresh (Ne.symm hne) (hfr j oj dj hoj hjm hdj hcr hjf)


/-- the head in a row; what was taken first is put once more -/
def walkX (P : Program) (ops : Array Oper) (F : List Nat) (m : Nat) : Nat → List Oper → St → (St → Prop) → Prop
  | k, [], σ, K => walkT P ops F k [] σ K
  | k, o :: l, σ, K => if k < m then
      (if F.contains k = true then match o.dst with
        | some d => d < σ.n ∧ walkX P ops F m (k + 1) l (σ.put (some d) (σ.ev (.tmp d))) K
        | none => False
      else headOp P o σ fun σ' => walkX P ops F m (k + 1) l σ' K)
    else walkT P ops F k (o :: l) σ K

theorem walkX_vals {F : List Nat} {m : Nat} {K : St → Prop} : ∀ (l : List Oper) (k : Nat) (σ : St), k ≤ m → m ≤ k + l.length → walkX P ops F m k l σ K → ∃ vs : List (Nat × AV), vs.length = m - k ∧ walkT P ops F m (l.drop (m - k)) (puts σ vs) K ∧
    ∀ i o, k + i < m → l[i]? = some o → ∃ d y, vs[i]? = some (d, y) ∧ o.dst = some d ∧ d < σ.n ∧ (F.contains (k + i) = true → y = (puts σ (vs.take i)).get d) ∧ (F.contains (k + i) = false → StepOk P o d (puts σ (vs.take i)).ev σ.boxes y)
  | [], k, σ, h1, h2, h => by
    have : m = k := by simp at h2; omega
    subst this
    exact ⟨[], by simp, by simpa [walkX, puts] using h, fun i o hi ho => by simp at ho⟩
  | o :: l, k, σ, h1, h2, h => by
    simp only [walkX] at h
    split at h
    · rename_i hkm
      have e : m - k = (m - (k + 1)) + 1 := by omega
      have wrap : ∀ {d : Nat} {y : AV}, o.dst = some d → d < σ.n → (F.contains k = true → y = σ.get d) → (F.contains k = false → StepOk P o d σ.ev σ.boxes y) → walkX P ops F m (k + 1) l (σ.put (some d) y) K →
          ∃ vs : List (Nat × AV), vs.length = m - k ∧ walkT P ops F m ((o :: l).drop (m - k)) (puts σ vs) K ∧
            ∀ i o', k + i < m → (o :: l)[i]? = some o' → ∃ d y, vs[i]? = some (d, y) ∧ o'.dst = some d ∧ d < σ.n ∧ (F.contains (k + i) = true → y = (puts σ (vs.take i)).get d) ∧ (F.contains (k + i) = false → StepOk P o' d (puts σ (vs.take i)).ev σ.boxes y) := by
        intro d y g1 g2 g3 g4 g5
        obtain ⟨vs, k1, k2, k3⟩ := walkX_vals l (k + 1) _ (by omega) (by simp at h2; omega) g5
        refine ⟨(d, y) :: vs, by simp [k1]; omega, by rw [e, List.drop_succ_cons]; exact k2, fun i o' hi ho => ?_⟩
        cases i with
        | zero =>
          simp at ho; subst ho
          exact ⟨d, y, rfl, g1, g2, g3, g4⟩
        | succ i =>
          obtain ⟨d', y', f1, f2, f3, f4, f5⟩ := k3 i o' (by omega) (by simpa using ho)
          rw [put_n] at f3; rw [put_boxes] at f5
          rw [show k + 1 + i = k + (i + 1) by omega] at f4 f5
          exact ⟨d', y', by simpa using f1, f2, f3, f4, f5⟩
      split at h
      · rename_i hF
        split at h
        · rename_i d hd
          exact wrap hd h.1 (fun _ => rfl) (fun hf => by rw [hF] at hf; cases hf) h.2
        · exact h.elim
      · rename_i hF
        obtain ⟨d, y, g1, g2, g3, g4⟩ := headOp_sound h
        exact wrap g1 g2 (fun hf => absurd hf hF) (fun _ => g4) g3
    · have : m = k := by omega
      subst this
      exact ⟨[], by simp, by simpa [puts] using h, fun i o hi ho => by omega⟩

/-- the names, taken first -/
def frontsA (P : Program) (ops : Array Oper) : List Nat → St → (St → Prop) → Prop
  | [], σ, K => K σ
  | j :: F, σ, K => match ops[j]? with
    | some ⟨some d, op, _, _, _, _⟩ => d < σ.n ∧ frontV P op σ fun y => frontsA P ops F (σ.put (some d) y) K
    | _ => False

def noSel (o : Oper) : Bool :=
  match o.op with
  | .select _ _ => false
  | _ => true
theorem noSel_of {o : Oper} (h : noSel o = true) : ∀ cs b, o.op ≠ .select cs b := fun cs b he => by simp [noSel, he] at h

def frontOk (ops : Array Oper) (j : Nat) (p : Oper) : Bool :=
  p.guard.isNone && noSel p && match p.dst with
  | none => false
  | some d => (List.range ops.size).all fun i => i == j || match ops[i]? with
    | none => false
    | some o => noSel o && (o.dst != some d && ((!(slotsOf o).contains d || reach ops ops.size i j) && ((match o.dst with
      | none => true
      | some s => !(slotsOf p).contains s || (reach ops ops.size j i || reach ops ops.size i j)) && match o.guard with
      | none => true
      | some (g, _) => guardSlot ops g != some d)))
/-- the names come in a row that their edges allow -/
def namesOk (ops : Array Oper) : List Nat → List Nat → Bool
  | _, [] => true
  | done, j :: F => !done.contains j && (match ops[j]? with | some p => (edges p).all (fun k => done.contains k) | none => false) && namesOk ops (done ++ [j]) F
def drawOkX (ops : Array Oper) (F : List Nat) (m : Nat) : Bool :=
  decide (m ≤ ops.size) && (namesOk ops [] F && (List.range ops.size).all fun i => match ops[i]? with
    | none => false
    | some o => (edges o).all (fun k => decide (k < i)) && if F.contains i then frontOk ops i o else if i < m then headOk ops m i o else (List.range i).all fun j => F.contains j || reach ops ops.size i j)

theorem frontOk_front {j : Nat} {p : Oper} (hj : ops[j]? = some p) (h : frontOk ops j p = true) : ∃ d, Front ops j p d := by
  simp only [frontOk, Bool.and_eq_true] at h
  obtain ⟨⟨h1, h2⟩, h3⟩ := h
  split at h3
  · cases h3
  · rename_i d hd
    refine ⟨d, hj, by simpa using h1, hd, noSel_of h2, fun i o ho hij => ?_⟩
    simp only [List.all_eq_true, List.mem_range] at h3
    have := h3 i (Array.getElem?_eq_some_iff.1 ho).1
    simp only [ho, Bool.or_eq_true, beq_iff_eq, hij, false_or, Bool.and_eq_true, bne_iff_ne, ne_eq, Bool.not_eq_true'] at this
    obtain ⟨g1, g2, g3, g4, g5⟩ := this
    refine ⟨noSel_of g1, g2, fun hm => ?_, fun s hs hm => ?_, fun g b hg => ?_⟩
    · exact g3.resolve_left (by simpa using hm)
    · rw [hs] at g4
      simp only [Bool.or_eq_true, Bool.not_eq_true'] at g4
      exact g4.resolve_left (by simpa using hm)
    · rw [hg] at g5; simpa using g5

theorem drawOkX_plan {F : List Nat} {m : Nat} (h : drawOkX ops F m = true) : PlanX ops F m ∧ namesOk ops [] F = true := by
  simp only [drawOkX, Bool.and_eq_true, decide_eq_true_eq, List.all_eq_true, List.mem_range] at h
  obtain ⟨h1, h0, h2⟩ := h
  have hof : ∀ i o, ops[i]? = some o → (∀ k ∈ edges o, k < i) ∧ (if F.contains i = true then frontOk ops i o else if i < m then headOk ops m i o else (List.range i).all fun j => F.contains j || reach ops ops.size i j) = true := fun i o ho => by
    have := h2 i (Array.getElem?_eq_some_iff.1 ho).1
    rw [ho] at this
    simp only [Bool.and_eq_true, List.all_eq_true, decide_eq_true_eq] at this
    exact this
  refine ⟨⟨h1, fun i o ho => (hof i o ho).1, fun i o ho hi hF => ?_, fun i o ho hi hF j hj hjF => ?_, fun i o ho hF => ?_⟩, h0⟩
  · have := (hof i o ho).2
    rw [if_neg (by rw [hF]; simp), if_pos hi] at this
    simp only [headOk, Bool.and_eq_true] at this
    obtain ⟨⟨g1, _⟩, g3⟩ := this
    refine ⟨by simpa using g1, ?_⟩
    split at g3
    · cases g3
    · rename_i d hd
      simp only [Bool.and_eq_true, List.all_eq_true, List.mem_range, Bool.not_eq_true', Bool.or_eq_true, beq_iff_eq] at g3
      refine ⟨d, hd, by simpa using g3.1, fun j p s hj hji hp hs => ?_⟩
      have := (g3.2 j hj).resolve_left hji
      simp only [hp, hs, Bool.and_eq_true, bne_iff_ne, ne_eq, Bool.or_eq_true, Bool.not_eq_true'] at this
      refine ⟨this.1, fun hm => ?_⟩
      have h' := this.2.resolve_left (by simpa using hm)
      split at h'
      · rename_i hlt; rw [if_pos hlt]; exact h'
      · rename_i hlt; rw [if_neg hlt]; exact h'
  · have := (hof i o ho).2
    rw [if_neg (by rw [hF]; simp), if_neg (by omega)] at this
    simp only [List.all_eq_true, List.mem_range, Bool.or_eq_true] at this
    exact (this j hj).resolve_left (by rw [hjF]; simp)
  · have := (hof i o ho).2
    rw [if_pos hF] at this
    exact frontOk_front ho this

theorem fronts_run {Q : Exit → Act → World → Prop} (hlt : ∀ i o, ops[i]? = some o → ∀ k ∈ edges o, k < i) (hQ : ∀ e a w, e ≠ .normal → ¬ Q e a w) {G0 : Orig} {w0 : World} {K : St → Prop} :
    ∀ (F done : List Nat) (σ : St) (G : Nat → Status) (a : Act) (w : World) (listed : Array Bool) (U : List Nat), Left ops listed U → Closed ops (fun k => listed.getD k false) → (∀ i, i < ops.size → (listed.getD i false = true ↔ done.contains i = true)) →
      namesOk ops done F = true → (∀ j ∈ F, ∀ p, ops[j]? = some p → ∃ d, Front ops j p d) → frontsA P ops F σ K → SRel G0 w0 σ G a w →
      (∀ σ' a' listed' U', K σ' → Left ops listed' U' → Closed ops (fun k => listed'.getD k false) → (∀ i, i < ops.size → (listed'.getD i false = true ↔ (done ++ F).contains i = true)) → SRel G0 w0 σ' G a' w → wpAny P .any ops Q U'.length listed' a' w) →
      wpAny P .any ops Q U.length listed a w
  | [], done, σ, G, a, w, listed, U, hl, hc, hd, _, _, h, hs, hk => hk σ a listed U h hl hc (by simpa using hd) hs
  | j :: F, done, σ, G, a, w, listed, U, hl, hc, hd, hr, hf, h, hs, hk => by
    simp only [frontsA] at h
    split at h
    · rename_i d op T pos af g hj
      obtain ⟨hdn, h⟩ := h
      simp only [namesOk, hj, Bool.and_eq_true, Bool.not_eq_true', List.all_eq_true] at hr
      obtain ⟨⟨hr1, hr2⟩, hr3⟩ := hr
      obtain ⟨d', hfr⟩ := hf j (List.mem_cons_self ..) _ hj
      obtain rfl : d = d' := by simpa using hfr.dst
      have hjs := (Array.getElem?_eq_some_iff.1 hj).1
      have hjf : listed.getD j false = false := by
        cases hb : listed.getD j false
        · rfl
        · rw [hd j hjs, hr1] at hb; cases hb
      have hmem : j ∈ U := (hl.mem j).2 ⟨hjs, hjf⟩
      obtain ⟨l1, l2⟩ := hl.step hmem
      have hsz : j < listed.size := by rw [hl.size]; exact hjs
      have hedge : ∀ k ∈ edges (⟨some d, op, T, pos, af, g⟩ : Oper), listed.getD k false = true := fun k hk => by
        have hkd := hr2 k hk
        exact (hd k (by have := hlt j _ hj k hk; omega)).2 hkd
      obtain ⟨y, hK, hy⟩ := frontV_sound (p := ⟨some d, op, T, pos, af, g⟩) h
      obtain ⟨v, hv, hex⟩ := hy G a w hs.good (fun x => hs.ev x)
      have hrun := fronts_run hlt hQ F (done ++ [j]) (σ.put (some d) y) G (a.put (some d) v) w (listed.setIfInBounds j true) (U.erase j) l1 (hc.step hsz hj hedge) (fun i hi => by
          rw [set_getD hsz]
          by_cases hij : j = i
          · subst hij; simp
          · rw [if_neg hij, hd i hi]; simp [Ne.symm hij]) hr3 (fun j' hj' => hf j' (List.mem_cons_of_mem _ hj')) hK
        (hs.add (.refl G w) hs.good (fun _ _ h => h) (by simp [dstOk, hdn]) hv)
        (fun σ' a' listed' U' k1 k2 k3 k4 k5 => hk σ' a' listed' U' k1 k2 k3 (by simpa using k4) k5)
      rw [← l2]
      exact front_run hQ hfr _ _ _ _ v hl.size hc ((ready_iff hl.size).2 ⟨_, hj, hjf, hedge⟩) hex hrun
    · exact h.elim

theorem wpAny_normal {Q : Exit → Act → World → Prop} : ∀ (fuel : Nat) (listed : Array Bool) (a : Act) (w : World), wpAny P .any ops (fun e a w => e = .normal ∧ Q e a w) fuel listed a w → wpAny P .any ops Q fuel listed a w := by
  have hop : ∀ {i : Nat} {K K' : Act → World → Prop} {a : Act} {w : World}, (∀ a w, K a w → K' a w) → Go.wpOp P ops (fun e a w => e = .normal ∧ Q e a w) i K a w → Go.wpOp P ops Q i K' a w := by
    intro i K K' a w hk h
    have hout : ¬ LetsOut (fun e a w => e = .normal ∧ Q e a w) := fun ⟨_, _, h, _⟩ => by cases h
    unfold Go.wpOp at h ⊢
    split
    · rename_i ho; simp only [ho] at h; exact hk _ _ h
    · rename_i o ho
      simp only [ho] at h
      split
      · rename_i hw
        simp only [hw, if_true] at h
        rcases h with h | ⟨_, h⟩
        · refine .inl ?_
          simp only [Oper.wp] at h ⊢
          generalize (execOp a.eval o).run P w = r at *
          cases r with
          | ok n w' =>
            cases n <;> simp only [Oper.upon] at h ⊢
            case value => exact hk _ _ h
            case skip => exact hk _ _ h
            case defer => exact hk _ _ h
            case enter =>
              refine Calls.mono h fun e w'' h => ?_
              rcases e with _ | _ | _
              · exact hk _ _ h
              · exact absurd h.1 (by simp)
              · exact absurd h hout
            case row => exact Rows.mono h fun _ _ h => hk _ _ h
          | halt x w' =>
            cases x <;> simp only [Oper.upon] at h ⊢
            exact absurd h.1 (by simp)
        · exact absurd h hout
      · rename_i hw
        simp only [hw] at h
        exact hk _ _ h
  intro fuel
  induction fuel with
  | zero => exact fun listed a w h => ⟨h.1, h.2.2⟩
  | succ fuel ih => exact fun listed a w h => ⟨fun hr => (h.1 hr).2, fun i hi => hop (fun a w h => ih _ a w h) (h.2 i hi)⟩

/-- A DRAWN REGION, some of whose operations (those of F) only name places: these are walked first, then the first m others, then the rest. -/
theorem DrawK.front {l : List Oper} {σ : St} {K : St → Prop} (F : List Nat) (m : Nat) (hm : P.follows .mixedOrders = true) (hok : drawOkX l.toArray F m = true)
    (h : andK (freeAll σ (crs (l.take m)) = true) (frontsA P l.toArray F σ fun σ' => walkX P l.toArray F m 0 l σ' K)) : DrawK P l.toArray σ K := by
  intro G0 w0 G a w id Q h0 hs hQ
  obtain ⟨hfree, h⟩ := h
  obtain ⟨hp, hrow⟩ := drawOkX_plan hok
  refine wp_region_any hm (wpAny_normal _ _ _ _ ?_)
  obtain ⟨G', g1, g2, _⟩ := (hs.drawn (w.drawn + 1)).freshAll h0 (crs (l.take m)) G hfree
  have hgd : ∀ i, (Array.replicate l.toArray.size false).getD i false = false := fun i => by
    by_cases hi : i < l.toArray.size
    · simp at hi; simp [hi]
    · simp at hi; simp [hi]
  have hml : m ≤ l.length := by simpa using hp.le
  have := fronts_run (P := P) (ops := l.toArray) (Q := fun e a w => e = .normal ∧ Q e a w) hp.lt (fun e a w he h => he h.1) (G0 := G0) (w0 := w0) (K := fun σ' => walkX P l.toArray F m 0 l σ' K) F [] σ G' a _ (Array.replicate l.toArray.size false) (List.range l.toArray.size)
    ⟨by simp, List.nodup_range, fun i => by rw [List.mem_range, hgd]; simp⟩ (fun i o _ hi => absurd (show (Array.replicate l.toArray.size false).getD i false = true from hi) (by rw [hgd]; simp)) (fun i _ => by rw [hgd]; simp) hrow
    (fun j hj p hjp => hp.front j p hjp (by simpa using hj)) h g1 ?_
  · simpa using this
  intro σ' a' listed' U' hK k1 k2 k3 k4
  obtain ⟨vs, v1, v2, v3⟩ := walkX_vals l 0 σ' (by omega) (by omega) hK
  have hst : ∀ i o, i < m → l.toArray[i]? = some o → ∃ d y, vs[i]? = some (d, y) ∧ o.dst = some d ∧ d < σ'.n ∧ (F.contains i = true → y = (puts σ' (vs.take i)).get d) ∧ (F.contains i = false → StepOk P o d (puts σ' (vs.take i)).ev σ'.boxes y) := fun i o hi ho => by
    have := v3 i o (by omega) (by simpa using ho)
    simpa using this
  have hvl : vs.length = m := by omega
  have hap : Apart vs := by
    intro i j d y d' y' h1 h2 hij
    have hil : i < m := by have := (List.getElem?_eq_some_iff.1 h1).1; omega
    have hjl : j < m := by have := (List.getElem?_eq_some_iff.1 h2).1; omega
    obtain ⟨oi, hoi⟩ : ∃ p, l.toArray[i]? = some p := ⟨l[i]'(by omega), by simp [show i < l.length by omega]⟩
    obtain ⟨oj, hoj⟩ : ∃ p, l.toArray[j]? = some p := ⟨l[j]'(by omega), by simp [show j < l.length by omega]⟩
    obtain ⟨_, _, k1, k2, _⟩ := hst i oi hil hoi
    obtain ⟨_, _, k3, k4, _⟩ := hst j oj hjl hoj
    rw [h1] at k1; cases k1
    rw [h2] at k3; cases k3
    cases hjF : F.contains j
    · obtain ⟨_, d1, e1, _, e2⟩ := hp.head j oj hoj hjl hjF
      rw [k4] at e1; cases e1
      exact (e2 i oi d hil hij hoi k2).1
    · obtain ⟨dj, hfj⟩ := hp.front j oj hoj hjF
      have e1 := hfj.dst
      rw [k4] at e1; cases e1
      have := (hfj.other i oi hoi hij).2.1
      rw [k2] at this
      exact fun h => this (by rw [h])
  refine head_runX (P := P) (σ := σ') (vs := vs) hp h0 (fun σ'' G'' a'' w'' hk hs => ⟨rfl, hQ σ'' G'' a'' w'' hk hs⟩) hvl hap (by simpa using v2) (fun i o hi ho => ?_) U'.length listed' U' σ' G' a' _ k1 rfl (fun i hi _ => by simpa using k3 i hi) (fun i hi hF => (k3 i hi).2 (by simpa using hF)) k2
    ⟨rfl, rfl, fun i d y hi => ?_, fun _ _ => rfl⟩ k4 (fun i o d ho hi hd hcr _ => ?_)
  · obtain ⟨d, y, e1, e2, e3, _, e4⟩ := hst i o hi ho
    exact ⟨d, y, e1, e2, e3, e4⟩
  · have him : i < m := by have := (List.getElem?_eq_some_iff.1 hi).1; omega
    obtain ⟨oi, hoi⟩ : ∃ p, l.toArray[i]? = some p := ⟨l[i]'(by omega), by simp [show i < l.length by omega]⟩
    obtain ⟨d', y', e1, e2, e3, e4, _⟩ := hst i oi him hoi
    rw [hi] at e1; cases e1
    split
    · rename_i hli
      have hF : F.contains i = true := by simpa using (k3 i (by simp; omega)).1 hli
      have := (puts_at i vs σ' hap).dst i d y hi
      rw [if_neg (by simp)] at this
      rw [← this]; exact (e4 hF).symm
    · rfl
  · refine g2 d ?_
    rw [crs_eq]
    refine List.mem_filterMap.2 ⟨o, ?_, by rw [if_pos hcr]; exact hd⟩
    refine List.mem_of_getElem? (i := i) ?_
    rw [List.getElem?_take, if_pos hi]; simpa using ho
end

/-! ### rules -/
section
variable {P : Program} {n : Nat} {t : List (Nat × AV)} {b : List (List AV)} {F : List Nat} {m k j : Nat} {ops : Array Oper} {l : List Oper}
variable {d : Nat} {T : TypeId} {pos : String} {af : Array Edge} {g : Option (Nat × Bool)} {K : St → Prop}
def fAt (P : Program) (o : Option Oper) (σ : St) (K : St → Prop) : Prop :=
  match o with
  | some ⟨some d, op, _, _, _, _⟩ => d < σ.n ∧ frontV P op σ fun y => K (σ.put (some d) y)
  | _ => False
@[congr] theorem fAt_congr {o o' : Option Oper} {K : St → Prop} {σ σ' : St} (h1 : o = o') (h : mkd σ = σ') : fAt P o σ K = fAt P o' σ' K := by subst_vars; rfl
@[congr] theorem frontsA_congr {K : St → Prop} {σ σ' : St} (h : mkd σ = σ') : frontsA P ops F σ K = frontsA P ops F σ' K := by subst_vars; rfl
@[congr] theorem walkX_congr {K : St → Prop} {σ σ' : St} {k' : Nat} (h1 : k = k') (h : mkd σ = σ') : walkX P ops F m k l σ K = walkX P ops F m k' l σ' K := by subst_vars; rfl
@[congr] theorem walkT_congr {K : St → Prop} {σ σ' : St} {k' : Nat} (h1 : k = k') (h : mkd σ = σ') : walkT P ops F k l σ K = walkT P ops F k' l σ' K := by subst_vars; rfl
@[go_sem] theorem frontsA_nil : frontsA P ops [] ⟨n, t, b⟩ K = K ⟨n, t, b⟩ := rfl
@[go_sem] theorem frontsA_cons : frontsA P l.toArray (j :: F) ⟨n, t, b⟩ K = fAt P l[j]? ⟨n, t, b⟩ fun σ' => frontsA P l.toArray F σ' K := by
  simp only [frontsA, fAt, List.getElem?_toArray]
@[go_sem] theorem fAt_move {x : Operand} : fAt P (some ⟨some d, .move x, T, pos, af, g⟩) ⟨n, t, b⟩ K = andK (d < n) (K (St.put ⟨n, t, b⟩ (some d) (St.ev ⟨n, t, b⟩ x))) := rfl
@[go_sem] theorem fAt_indexAddr {T' : TypeId} {x i : Operand} : fAt P (some ⟨some d, .indexAddr T' x i, T, pos, af, g⟩) ⟨n, t, b⟩ K = andK (d < n) (andK (isSlice (St.ev ⟨n, t, b⟩ x) = true) (evIndexAddr P T' (St.ev ⟨n, t, b⟩ x) (St.ev ⟨n, t, b⟩ i) fun r => K (St.put ⟨n, t, b⟩ (some d) r))) := by simp [fAt, frontV, andK]

def selK (c : Bool) (p q : Prop) : Prop := match c with | true => p | false => q
@[congr] theorem selK_congr {c c' : Bool} {p q : Prop} (h : mkd c = c') : selK c p q = selK c' p q := by subst_vars; rfl
@[go_sem] theorem selK_true {p q : Prop} : selK true p q = p := rfl
@[go_sem] theorem selK_false {p q : Prop} : selK false p q = q := rfl
theorem selK_ite {c : Bool} {p q : Prop} : selK c p q = if c = true then p else q := by cases c <;> simp [selK]
theorem selK_dec {c : Prop} [Decidable c] {p q : Prop} : selK (decide c) p q = if c then p else q := by by_cases c <;> simp [selK, *]
@[go_sem] theorem walkT_nil : walkT P ops F k [] ⟨n, t, b⟩ K = K ⟨n, t, b⟩ := rfl
@[go_sem] theorem walkT_cons {o : Oper} : walkT P ops F k (o :: l) ⟨n, t, b⟩ K = selK (F.contains k) (walkT P ops F (k + 1) l ⟨n, t, b⟩ K) (opsA P ops [o] ⟨n, t, b⟩ fun σ' => walkT P ops F (k + 1) l σ' K) := by rw [selK_ite]; rfl
@[go_sem] theorem walkX_nil : walkX P ops F m k [] ⟨n, t, b⟩ K = K ⟨n, t, b⟩ := rfl
@[go_sem] theorem walkX_some {op : Op} : walkX P ops F m k (⟨some d, op, T, pos, af, g⟩ :: l) ⟨n, t, b⟩ K = selK (decide (k < m)) (selK (F.contains k) (andK (d < n) (walkX P ops F m (k + 1) l (St.put ⟨n, t, b⟩ (some d) (St.ev ⟨n, t, b⟩ (.tmp d))) K)) (headOp P ⟨some d, op, T, pos, af, g⟩ ⟨n, t, b⟩ fun σ' => walkX P ops F m (k + 1) l σ' K)) (walkT P ops F k (⟨some d, op, T, pos, af, g⟩ :: l) ⟨n, t, b⟩ K) := by rw [selK_dec, selK_ite]; rfl
@[go_sem] theorem walkX_none {op : Op} : walkX P ops F m k (⟨none, op, T, pos, af, g⟩ :: l) ⟨n, t, b⟩ K = selK (decide (k < m)) (selK (F.contains k) False (headOp P ⟨none, op, T, pos, af, g⟩ ⟨n, t, b⟩ fun σ' => walkX P ops F m (k + 1) l σ' K)) (walkT P ops F k (⟨none, op, T, pos, af, g⟩ :: l) ⟨n, t, b⟩ K) := by rw [selK_dec, selK_ite]; rfl
attribute [go_sem] decide_true decide_false isSlice List.getElem?_cons_succ List.getElem?_cons_zero
end
end Go.AM

/-! ## AmT -/
namespace Go.AM
open Go Go.RowKit Go.WideShapes Go.ChangeShapes

/-- what was there before the call is never written -/
def oldG (w : World) (b : Nat) : Status := if b < w.heap.size then .stable else .junk
theorem oldG_lt {w : World} {b : Nat} (h : b < w.heap.size) : Stable (oldG w) b := by simp [Stable, oldG, h]
theorem oldG_tag (w : World) (b t : Nat) : oldG w b ≠ .tag t := by unfold oldG; split <;> simp
theorem oldG_box (w : World) (b t : Nat) : oldG w b ≠ .box t := by unfold oldG; split <;> simp
theorem oldG_good (w : World) : Good (oldG w) w := by
  refine ⟨fun b h => ?_, fun b b' t h => absurd h (oldG_tag w b t), fun b b' t h => absurd h (oldG_box w b t)⟩
  unfold oldG at h; split at h
  · assumption
  · exact absurd rfl h

theorem cell_old {w : World} {a : Addr} {v : Value} (h : w.cell? a = some v) : a.block < w.heap.size := by
  unfold World.cell? at h
  rcases Nat.lt_or_ge a.block w.heap.size with h' | h'
  · exact h'
  · rw [Array.getElem?_eq_none h'] at h; simp at h

section
variable {H : Type} {enc : TypeId × Value → H} {P : Program} {w : World} {base : Nat} {spare : Nat → Bool} {held : Bool}

/-- how a datum of one cell stands -/
def Stands (enc : TypeId × Value → H) (P : Program) (w : World) (base : Nat) (spare : Nat → Bool) (held : Bool) (e : TypeId) (f : DataW H → AV) : Prop :=
  ∀ n v d ps, DataW.trod enc P w base spare held n e [v] = some (d, ps) → FRel (Stable (oldG w)) w (f d) v ∧ (f d).leafy = true ∧ v.oneCell' = true

def avInt : DataW H → AV
  | .lit (.int k n) => .sc (.int k n)
  | _ => .any
def avBool : DataW H → AV
  | .lit (.bool b) => .sc (.bool b)
  | _ => .any
def avStr : DataW H → AV
  | .lit (.string l) => .sc (.string ⟨l.toArray⟩)
  | _ => .any
def avSl (f : DataW H → AV) : DataW H → AV
  | .slice xs _ => .sl 0 1 (xs.map f)
  | _ => .sl 0 1 []

theorem stands_int {e : TypeId} {k : IntKind} (he : P.underlying e = some (.int k)) : Stands enc P w base spare held e avInt := by
  intro n v d ps h
  obtain ⟨x, e0, e1, wx⟩ := DataW.trod_int he h
  simp only [List.cons.injEq, and_true] at e0
  simp only [Prod.mk.injEq] at e1
  obtain ⟨rfl, _⟩ := e1
  subst e0
  exact ⟨.sc _, rfl, rfl⟩
/-- the number that a datum is -/
def numI : DataW H → Int
  | .lit (.int _ n) => n
  | _ => 0
/-- the elements' images -/
def rowOf {α : Type} (f : DataW H → α) : DataW H → List α
  | .slice xs _ => xs.map f
  | _ => []
theorem stands_i64 {e : TypeId} (he : P.underlying e = some (.int .i64)) : Stands enc P w base spare held e fun d => .sc (.int .i64 (numI d)) := by
  intro n v d ps h
  obtain ⟨x, e0, e1, wx⟩ := DataW.trod_int he h
  simp only [List.cons.injEq, and_true] at e0
  simp only [Prod.mk.injEq] at e1
  obtain ⟨rfl, _⟩ := e1
  subst e0
  exact ⟨.sc _, rfl, rfl⟩
theorem avSl_row {α : Type} (g : α → AV) (f : DataW H → α) (d : DataW H) : avSl (fun x => g (f x)) d = .sl 0 1 ((rowOf f d).map g) := by
  cases d <;> simp [avSl, rowOf]
theorem stands_bool {e : TypeId} (he : P.underlying e = some .bool) : Stands enc P w base spare held e avBool := by
  intro n v d ps h
  obtain ⟨x, e0, e1⟩ := DataW.trod_bool he h
  simp only [List.cons.injEq, and_true] at e0
  simp only [Prod.mk.injEq] at e1
  obtain ⟨rfl, _⟩ := e1
  subst e0
  exact ⟨.sc _, rfl, rfl⟩
theorem stands_string {e : TypeId} (he : P.underlying e = some .string) : Stands enc P w base spare held e avStr := by
  intro n v d ps h
  obtain ⟨x, e0, e1, _⟩ := DataW.trod_string he h
  simp only [List.cons.injEq, and_true] at e0
  simp only [Prod.mk.injEq] at e1
  obtain ⟨rfl, _⟩ := e1
  subst e0
  refine ⟨?_, rfl, rfl⟩
  simp only [avStr, Array.toArray_toList]
  exact .sc _

theorem flat_leafy {xs : List AV} (h : ∀ x ∈ xs, x.leafy = true) : flat xs = xs := by
  induction xs with
  | nil => rfl
  | cons x xs ih =>
    have hx := h x (by simp)
    have hc : x.cells = [x] := by cases x <;> first | rfl | (simp [AV.leafy] at hx)
    have := ih fun y hy => h y (by simp [hy])
    simp only [flat, List.flatMap_cons, hc] at this ⊢
    rw [this]; rfl

theorem stands_slice {t e : TypeId} {f : DataW H → AV} (ht : P.underlying t = some (.slice e)) (hc : P.cellsOf e = 1) (hf : Stands enc P w base spare held e f) : Stands enc P w base spare held t (avSl f) := by
  intro n v d ps h
  rcases Go.Deep.open_slice1 ht hc h with ⟨h1, h2⟩ | ⟨a, len, cap, m, n', V, D, Pl, h1, _, hl, _, hm, h2, hel⟩
  · simp only [List.cons.injEq, and_true] at h1
    simp only [Prod.mk.injEq] at h2
    obtain ⟨rfl, _⟩ := h2
    subst h1
    exact ⟨.slNil _ _ _ _ (by omega) (by simp) (by simp), rfl, rfl⟩
  · simp only [List.cons.injEq, and_true] at h1
    simp only [Prod.mk.injEq] at h2
    obtain ⟨rfl, _⟩ := h2
    subst h1
    refine ⟨?_, rfl, rfl⟩
    have hlm : len ≤ m := by rw [hm]; split <;> omega
    simp only [avSl, List.map_map]
    rcases Nat.eq_zero_or_pos len with h0 | hp
    · subst h0
      exact .slNil _ _ _ _ (by omega) (by simp) (by simp)
    · obtain ⟨b, off, spot⟩ := a
      have hspot : spot = none := by simpa [Addr.add] using World.cell?_spot (hel 0 (by omega)).1
      subst hspot
      have hlen : ((List.range len).map (f ∘ D)).length = len := by simp
      have hone : ∀ i, i < len → FRel (Stable (oldG w)) w (f (D i)) (V i) ∧ (f (D i)).leafy = true ∧ (V i).oneCell' = true := fun i hi => hf n' (V i) (D i) (Pl i) (hel i (by omega)).2
      have hleaf : ∀ x ∈ (List.range len).map (f ∘ D), x.leafy = true := by
        intro x hx
        obtain ⟨i, hi, rfl⟩ := List.mem_map.1 hx
        exact (hone i (List.mem_range.1 hi)).2.1
      have hb : b < w.heap.size := cell_old (a := (Addr.mk b off none).add 0) (hel 0 (by omega)).1
      have := FRel.sl (S := Stable (oldG w)) (w := w) 0 1 ((List.range len).map (f ∘ D)) b off cap ((List.range len).map V) (by omega) (oldG_lt hb) (by simp) (by rw [hlen]; exact hl)
        (fun x hx => by have h := hleaf x hx; cases x <;> first | rfl | (simp [AV.leafy] at h)) (by rw [flat_leafy hleaf]; simp)
        (fun u hu => by obtain ⟨i, hi, rfl⟩ := List.mem_map.1 hu; exact (hone i (List.mem_range.1 hi)).2.2)
        (fun j u hj => by
          have hjl : j < len := by have := (List.getElem?_eq_some_iff.1 hj).1; simpa using this
          simp only [List.getElem?_map, List.getElem?_range hjl, Option.map_some, Option.some.injEq] at hj
          subst hj
          have := (hel j (by omega)).1
          rwa [Go.WideShapes.add_plain] at this)
        (fun j x u hx hu => by
          rw [flat_leafy hleaf] at hx
          have hjl : j < len := by have := (List.getElem?_eq_some_iff.1 hx).1; simpa using this
          simp only [List.getElem?_map, List.getElem?_range hjl, Option.map_some, Option.some.injEq] at hx hu
          subst hx; subst hu
          exact (hone j hjl).1)
      rw [hlen] at this
      exact this

/-- one argument of one cell -/
theorem Stands.arg {t : TypeId} {f : DataW H → AV} {v : Value} {d : DataW H} {ps : List MemPlace} (hs : Stands enc P w base spare held t f) (h1 : v.cells.toList = [v]) (h : DataW.Trod enc P w base spare held t v d ps) : VRel (oldG w) w (f d) v := by
  obtain ⟨n, hn⟩ := h
  rw [h1] at hn
  exact .froz (hs n v d ps hn).1

theorem trodAll_stays (hl : laidOutB P = true) {W W' : World} {sp : Nat → Bool} (hb : Go.RowKit.Below W.heap.size W W') : ∀ {ts : List TypeId} {vs : List Value} {ds : List (DataW H)} {ps : List MemPlace}, (∀ t ∈ ts, P.readableRec t = true ∧ t < P.types.size) →
    DataW.TrodAll enc P W 0 (fun _ => true) true ts vs ds ps → (∀ p ∈ ps, p.block < W.heap.size) → (∀ p ∈ ps, sp p.block = true) → DataW.TrodAll enc P W' 0 sp true ts vs ds ps
  | [], vs, ds, ps, _, h, _, _ => by
    cases vs <;> cases ds <;> simp only [DataW.TrodAll] at h ⊢ <;> first | exact h | exact h.elim
  | t :: ts, vs, ds, ps, hr, h, h1, h2 => by
    cases vs with
    | nil => cases ds <;> simp only [DataW.TrodAll] at h
    | cons v vs =>
      cases ds with
      | nil => simp only [DataW.TrodAll] at h
      | cons d ds =>
        simp only [DataW.TrodAll] at h ⊢
        obtain ⟨p, q, hp, hq, rfl⟩ := h
        exact ⟨p, q, WideElems.Trod_stays hl (hr t (by simp)).1 (hr t (by simp)).2 hp (fun x hx => hb.same (h1 x (by simp [hx]))) (fun x hx => h2 x (by simp [hx])),
          trodAll_stays hl hb (fun t' ht' => hr t' (by simp [ht'])) hq (fun x hx => h1 x (by simp [hx])) (fun x hx => h2 x (by simp [hx])), rfl⟩

/-- what a law's row asks behind a call that writes to nothing that was there -/
theorem law_post {f : Func} {s : ChangeSpec} {W W' : World} {args : Array Value} {ds gs : List (DataW H)} {before : List MemPlace} {tb : TypeId} (hl : laidOutB P = true) (hv : s.vars = []) (hr : f.resultTypes = #[tb]) (ht : P.underlying tb = some .bool)
    (hrec : ∀ t ∈ f.params.toList, P.readableRec t = true ∧ t < P.types.size)
    (hW : DataW.Whole enc P f.params.toList s.vars false W args.toList ds gs before) (hs : s.fn H (ds ++ gs) = { results := [.lit (.bool true)], args := ds }) (hb : Go.RowKit.Below W.heap.size W W') :
    s.post enc P f false true false false W args (.bool true) W' := by
  have hW0 := hW
  have hlt : ∀ p ∈ before, p.block < W.heap.size := fun p hp => hW.lt p hp
  obtain ⟨p, q, hA, hV, rfl, hfz, hnd⟩ := hW
  have hV0 := hV
  rw [hv] at hV
  obtain ⟨hg, hq⟩ : gs = [] ∧ q = [] := by
    cases gs <;> simp only [DataW.TrodVars] at hV
    exact ⟨rfl, hV⟩
  subst hg; subst hq
  have hargs : ∀ sp : Nat → Bool, (∀ x ∈ p ++ [], sp x.block = true) → DataW.TrodAll enc P W' 0 sp true f.params.toList args.toList (s.fn H (ds ++ [])).args p := fun sp h => by
    rw [hs]
    exact trodAll_stays hl hb hrec hA (fun x hx => hlt x (by simp [hx])) (fun x hx => h x (by simp [hx]))
  have hvars : ∀ sp : Nat → Bool, DataW.TrodVars enc P W' sp s.vars (s.fn H (ds ++ [])).vars [] := fun sp => by rw [hs, hv]; simp only [DataW.TrodVars]
  have hres : ∀ (b : Nat) (sp : Nat → Bool) (hd : Bool), DataW.TrodAll enc P W' b sp hd f.resultTypes.toList ((Value.bool true).resultList f.resultTypes.size) (s.fn H (ds ++ [])).results [] := fun b sp hd => by
    rw [hs, hr]
    exact trodAll_mk1 (shut_bool ht true)
  have hold : ∀ x ∈ p ++ [], (fun b => decide (b < W.heap.size)) x.block = true := fun x hx => by simpa using hlt x hx
  exact ⟨ds, [], p ++ [], [], p, [], hW0, hres _ _ _, hargs _ hold, hvars _, World.keptBut_mono (fun x hx => ⟨hx, .inr (.inl (by simpa using hx))⟩) (hb.frame (· ∈ p ++ [])), fun h => by cases h⟩

/-- a law's contract, at the arguments' own standing -/
theorem Con.law {f : FuncId} {avs : List AV} {W : World} {args : Array Value} (hc : Con P f avs [] fun r _ => r = .sc (.bool true)) (hv : PW (VRel (oldG W) W) avs args.toList) {Q : Ending → World → Prop}
    (hQ : ∀ W', Go.RowKit.Below W.heap.size W W' → Q (.returned (.bool true)) W') : Calls P f args W Q := by
  refine (hc.2 (oldG W) W args (oldG_good W) (oldG_tag W) (fun b i h => absurd h (oldG_box W b i)) ⟨fun i vs hv => by simp [noGh] at hv, fun i cs h => by simp at h⟩ hv).mono ?_
  rintro e w' ⟨v, r, bx', G', rfl, rfl, hr, _, _, _, e1, e2, e3, e4, _, e6⟩
  obtain rfl := hr.sc_inv
  exact hQ w' ⟨e1, e2, e3, e4, fun k hk => e6 k hk fun i h => oldG_box W k i h⟩
end
end Go.AM

/-! ## Am2 -/
namespace Go.AM
open Go.RowKit

@[go_sem] theorem freeB_app {d : Nat} : ∀ (x y : List (List AV)), freeB d (x ++ y) = (freeB d x && freeB d y)
  | [], y => by simp [freeB]
  | c :: x, y => by rw [List.cons_append, freeB, freeB, freeB_app x y, Bool.and_assoc]
@[go_sem] theorem mapB_app {f : AV → AV} : ∀ (x y : List (List AV)), mapB f (x ++ y) = mapB f x ++ mapB f y
  | [], y => rfl
  | c :: x, y => by rw [List.cons_append, mapB, mapB, mapB_app x y]; rfl
theorem leB_app : ∀ {x y x' y' : List (List AV)}, leB x x' → leB y y' → leB (x ++ y) (x' ++ y')
  | [], y, [], y', _, h => h
  | [], y, c :: x', y', h, _ => by simp [leB] at h
  | c :: x, y, [], y', h, _ => by simp [leB] at h
  | c :: x, y, c' :: x', y', h, h2 => by
    simp only [leB] at h
    simp only [List.cons_append, leB]
    exact ⟨h.1, leB_app h.2 h2⟩

theorem leC_self : ∀ l : List AV, leC l l
  | [] => trivial
  | x :: l => ⟨leV_refl x, leC_self l⟩
theorem leB_self : ∀ l : List (List AV), leB l l
  | [] => trivial
  | x :: l => ⟨leC_self x, leB_self l⟩

/-- the variables of k rounds, of c cells each -/
def Rk (c k : Nat) : List (List AV) := List.replicate k (List.replicate c .any)
theorem Rk_len (c k : Nat) : (Rk c k).length = k := by simp [Rk]
theorem Rk_succ (c k : Nat) : Rk c (k + 1) = Rk c k ++ [List.replicate c .any] := by unfold Rk; rw [List.replicate_succ']
theorem Rk_succ2 (c k : Nat) : Rk c (k + 1 + 1) = Rk c k ++ [List.replicate c .any, List.replicate c .any] := by rw [Rk_succ, Rk_succ, List.append_assoc]; rfl
theorem mapTops_rep {f : AV → AV} (hf : f .any = .any) : ∀ c, mapTops f (List.replicate c .any) = List.replicate c .any
  | 0 => rfl
  | c + 1 => by rw [List.replicate_succ, mapTops, mapTops_rep hf c]; simp [AV.mapTop, hf]
theorem mapB_Rk {f : AV → AV} (hf : f .any = .any) (c : Nat) : ∀ k, mapB f (Rk c k) = Rk c k
  | 0 => rfl
  | k + 1 => by
    have := mapB_Rk hf c k
    unfold Rk at *; rw [List.replicate_succ, mapB, this, mapTops_rep hf]
@[go_sem] theorem mapB_kill_Rk {t c k : Nat} : mapB (killLeaf t) (Rk c k) = Rk c k := mapB_Rk rfl c k
@[go_sem] theorem mapB_freeze_Rk {p : Nat → Bool} {c k : Nat} : mapB (freezeLeaf p) (Rk c k) = Rk c k := mapB_Rk rfl c k
@[go_sem] theorem mapB_put_Rk {t c k : Nat} {P : Program} {a e : TypeId} {D : DataW Unit} : mapB (putMap t P a e D) (Rk c k) = Rk c k := mapB_Rk rfl c k
@[go_sem] theorem mapB_store_Rk {t es i o c k : Nat} {ys : List AV} : mapB (storeLeaf t es i o ys) (Rk c k) = Rk c k := mapB_Rk rfl c k
theorem freeA_rep {d : Nat} : ∀ c, allLeafs (freeLeaf d) (List.replicate c .any) = true
  | 0 => rfl
  | c + 1 => by rw [List.replicate_succ, allLeafs, freeA_rep c]; rfl
@[go_sem] theorem freeB_Rk {d c : Nat} : ∀ {k : Nat}, freeB d (Rk c k) = true
  | 0 => rfl
  | k + 1 => by
    have := freeB_Rk (d := d) (c := c) (k := k)
    unfold Rk at *; rw [List.replicate_succ, freeB, this, freeA_rep]; rfl
@[go_sem] theorem leB_Rk {c k : Nat} : leB (Rk c k) (Rk c k) = True := eq_true (leB_self _)
@[go_sem] theorem leB_RkS {c k : Nat} {x : List (List AV)} : leB (Rk c k ++ x) (Rk c k ++ x) = True := eq_true (leB_self _)
theorem leB_RkA {c k : Nat} {x y : List (List AV)} (h : leB x y) : leB (Rk c k ++ x) (Rk c k ++ y) := leB_app (leB_self _) h
@[go_sem] theorem leB_Rk1 {k : Nat} {x : AV} : leB (Rk 1 k ++ [[x]]) (Rk 1 k ++ [List.replicate 1 .any]) = True := eq_true (leB_RkA ⟨⟨leV_any _, trivial⟩, trivial⟩)
@[go_sem] theorem leB_Rk2 {k : Nat} {x y z u : AV} : leB (Rk 2 k ++ [[x, y], [z, u]]) (Rk 2 k ++ [List.replicate 2 .any, List.replicate 2 .any]) = True := eq_true (leB_RkA ⟨⟨leV_any _, leV_any _, trivial⟩, ⟨leV_any _, leV_any _, trivial⟩, trivial⟩)
/-- variables of which nothing is known, of so many cells -/
def Jk (cs : List Nat) : List (List AV) := cs.map fun c => List.replicate c .any
theorem Jk_len (cs : List Nat) : (Jk cs).length = cs.length := by simp [Jk]
theorem Jk_app (cs ds : List Nat) : Jk (cs ++ ds) = Jk cs ++ Jk ds := by simp [Jk]
theorem mapB_Jk {f : AV → AV} (hf : f .any = .any) : ∀ cs, mapB f (Jk cs) = Jk cs
  | [] => rfl
  | c :: cs => by
    have := mapB_Jk hf cs
    unfold Jk at *; rw [List.map_cons, mapB, this, mapTops_rep hf]
@[go_sem] theorem mapB_kill_Jk {t : Nat} {cs : List Nat} : mapB (killLeaf t) (Jk cs) = Jk cs := mapB_Jk rfl cs
@[go_sem] theorem mapB_freeze_Jk {p : Nat → Bool} {cs : List Nat} : mapB (freezeLeaf p) (Jk cs) = Jk cs := mapB_Jk rfl cs
@[go_sem] theorem mapB_put_Jk {t : Nat} {P : Program} {a e : TypeId} {D : DataW Unit} {cs : List Nat} : mapB (putMap t P a e D) (Jk cs) = Jk cs := mapB_Jk rfl cs
@[go_sem] theorem mapB_store_Jk {t es i o : Nat} {ys : List AV} {cs : List Nat} : mapB (storeLeaf t es i o ys) (Jk cs) = Jk cs := mapB_Jk rfl cs
@[go_sem] theorem mapB_retag_Jk {a b : Nat} {cs : List Nat} : mapB (retagLeaf a b) (Jk cs) = Jk cs := mapB_Jk rfl cs
@[go_sem] theorem freeB_Jk {d : Nat} : ∀ {cs : List Nat}, freeB d (Jk cs) = true
  | [] => rfl
  | c :: cs => by
    have := freeB_Jk (d := d) (cs := cs)
    unfold Jk at *; rw [List.map_cons, freeB, this, freeA_rep]; rfl
@[go_sem] theorem leB_Jk {cs : List Nat} : leB (Jk cs) (Jk cs) = True := eq_true (leB_self _)
@[go_sem] theorem leB_JkS {cs : List Nat} {x : List (List AV)} : leB (Jk cs ++ x) (Jk cs ++ x) = True := eq_true (leB_self _)
theorem leB_JkA {cs ds : List Nat} {x : List (List AV)} (h : leB x (Jk ds)) : leB (Jk cs ++ x) (Jk (cs ++ ds)) := by rw [Jk_app]; exact leB_app (leB_self _) h
/-- the variables behind others -/
theorem app_at {α : Type} {B L : List α} {n i : Nat} (h : B.length = n) : (B ++ L)[n + i]? = L[i]? := by
  rw [List.getElem?_append_right (by omega), h, Nat.add_sub_cancel_left]
theorem app_at0 {α : Type} {B L : List α} {n : Nat} (h : B.length = n) : (B ++ L)[n]? = L[0]? := app_at (i := 0) h
theorem app_at1 {α : Type} {B L : List α} {n : Nat} (h : B.length = n) : (B ++ L)[n + 1]? = L[1]? := app_at (i := 1) h
theorem app_set0 {α : Type} {B L : List α} {n : Nat} {z : α} (h : B.length = n) : (B ++ L).set n z = B ++ L.set 0 z := by
  rw [List.set_append_right _ _ (by omega), h, Nat.sub_self]
theorem app_set1 {α : Type} {B L : List α} {n : Nat} {z : α} (h : B.length = n) : (B ++ L).set (n + 1) z = B ++ L.set 1 z := by
  rw [List.set_append_right _ _ (by omega), h, Nat.add_sub_cancel_left]
theorem leV_ag {xs ys : List AV} (h : leC xs ys) : leV (.ag xs) (.ag ys) := leV_sem fun G w v hv => by
  obtain ⟨vs, rfl, h1, h2⟩ := hv.ag_inv
  have := leC_pw h h2
  exact .ag _ _ this.1 h1 this.2
theorem leV_tup {xs ys : List AV} (h : leC xs ys) : leV (.tup xs) (.tup ys) := leV_sem fun G w v hv => by
  obtain ⟨vs, rfl, h2⟩ := hv.tup_inv
  have := leC_pw h h2
  exact .tup _ _ this.1 this.2
theorem app_setN {α : Type} {B L : List α} {n i : Nat} {z : α} (h : B.length = n) : (B ++ L).set (n + i) z = B ++ L.set i z := by
  rw [List.set_append_right _ _ (by omega), h, Nat.add_sub_cancel_left]
/-- a contract of which less is said -/
theorem Con.weak {P : Program} {f : FuncId} {args : List AV} {bx : List (List AV)} {post post' : AV → List (List AV) → Prop} (h : Con P f args bx post) (hp : ∀ r b, post r b → ∃ r', post' r' b ∧ leV r r') : Con P f args bx post' :=
  ⟨h.1, fun G w vs h1 h2 h3 h4 h5 => (h.2 G w vs h1 h2 h3 h4 h5).mono fun _ _ ⟨v, r, bx', G', he, hq, hv, rest⟩ => by
    obtain ⟨r', hq', hle⟩ := hp _ _ hq
    exact ⟨v, r', bx', G', he, hq', hv.le hle, rest⟩⟩
end Go.AM

/-! ## Am1 -/
namespace Go.AM
open Go.RowKit

inductive Tr where
  | done
  /-- an operation that only names a place: taken at once -/
  | front (j : Nat) (t : Tr)
  | one (j : Nat) (t : Tr)
  /-- an operation that only adds, taken as in a region's head -/
  | hd (j : Nat) (t : Tr)
  | alt (a b : Tr)
  /-- what bears tag a bears b from here on -/
  | retag (a b : Nat) (t : Tr)

def Tr.cover : Tr → List Nat
  | .one j _ => [j]
  | .hd j _ => [j]
  | .alt a b => a.cover ++ b.cover
  | _ => []

def readyIn (ops : Array Oper) (L : List Nat) (i : Nat) : Bool :=
  !L.contains i && match ops[i]? with
  | none => false
  | some o => (edges o).all fun k => L.contains k
def covers (ops : Array Oper) (L : List Nat) (c : List Nat) : Bool := ((List.range ops.size).any fun i => !L.contains i) && (List.range ops.size).all fun i => !readyIn ops L i || c.contains i

def trOk (ops : Array Oper) : Bool → List Nat → Tr → Bool
  | top, L, .done => top && (List.range ops.size).all fun i => L.contains i
  | top, L, .front j t => top && (readyIn ops L j && ((match ops[j]? with | some p => frontOk ops j p | none => false) && trOk ops true (j :: L) t))
  | top, L, .one j t => (!top || covers ops L [j]) && trOk ops true (j :: L) t
  | top, L, .hd j t => (!top || covers ops L [j]) && trOk ops true (j :: L) t
  | top, L, .retag _ _ t => top && trOk ops true L t
  | top, L, .alt a b => (!top || covers ops L (a.cover ++ b.cover)) && (trOk ops false L a && trOk ops false L b)
def treeOk (ops : Array Oper) (t : Tr) : Bool :=
  ((List.range ops.size).all fun i => match ops[i]? with | none => false | some o => (edges o).all fun k => decide (k < i)) && trOk ops true [] t

/-- what only names a place, or is known from the operands alone -/
def frontW (P : Program) (op : Op) (σ : St) (K : AV → Prop) : Prop :=
  match op with
  | .fieldAddr T x f => evFieldAddr P T (σ.ev x) f K
  | op => frontV P op σ K

theorem frontV_sound' {P : Program} {p : Oper} {σ : St} {K : AV → Prop} (h : frontV P p.op σ K) :
    ∃ y, K y ∧ ∀ (G : Nat → Status) (a : Act) (w : World), Good G w → (∀ x ∈ p.op.operands, VRel G w (σ.ev x) (a.eval x)) → ∃ v, VRel G w y v ∧ ∀ w', (execOp a.eval p).run P w' = .ok (.value v) w' := by
  unfold frontV at h
  split at h
  · rename_i x ho
    exact ⟨_, h, fun G a w _ hv => ⟨_, hv x (by simp [ho, Op.operands]), fun w' => by simp [execOp, ho]⟩⟩
  · rename_i T x i ho
    obtain ⟨hsl, h⟩ := h
    unfold evIndexAddr at h
    split at h
    · rename_i k n hi
      split at h
      · rename_i E t es xs hT hx
        obtain ⟨⟨⟨sz, by_, z⟩, hq, rfl⟩, h0, h1, hK⟩ := h
        refine ⟨_, hK, fun G a w hg hv => ?_⟩
        have hu := hv i (by simp [ho, Op.operands]); rw [hi] at hu
        have hu := hu.sc_inv
        have hv' := hv x (by simp [ho, Op.operands]); rw [hx] at hv'
        obtain ⟨ao, c, hvx, h2, h3, _, h4⟩ := hv'.sl_inv
        rcases h4 with rfl | ⟨b, off, vals, rfl, hs⟩
        · simp at h1; omega
        · refine ⟨.pointer (some ⟨b, off + n.toNat * sz + 0, none⟩), .pe _ _ _ _ _ _ _ c (by rw [hvx] at hv'; exact hv') (by omega), fun w' => ?_⟩
          simp [execOp, ho, hvx, hu, Instr.indexAt, asIntOf, run_underlying hT, h0, h1, run_sizeOf hq, Addr.add_none]
      · rename_i E t xs hT hx
        obtain ⟨⟨⟨sz, by_, z⟩, hq, rfl⟩, h0, h1, hK⟩ := h
        refine ⟨_, hK, fun G a w hg hv => ?_⟩
        have hu := hv i (by simp [ho, Op.operands]); rw [hi] at hu
        have hu := hu.sc_inv
        have hv' := hv x (by simp [ho, Op.operands]); rw [hx] at hv'
        obtain ⟨ao, c, hvx, h3, _, h4⟩ := hv'.so_inv
        rcases h4 with rfl | ⟨b, vals, rfl, hs⟩
        · simp at h1; omega
        · refine ⟨.pointer (some ⟨b, 0 + n.toNat, none⟩), .po _ _ _ _ _ c (by rw [hvx] at hv'; exact hv') (by omega), fun w' => ?_⟩
          simp [execOp, ho, hvx, hu, Instr.indexAt, asIntOf, run_underlying hT, h0, h1, run_sizeOf hq, Addr.add_none]
      · rename_i hx
        rw [hx] at hsl; simp [isSlice] at hsl
      · rename_i len E hT
        exfalso
        obtain ⟨hp, _⟩ := h
        generalize σ.ev x = y at hsl hp
        cases y <;> simp [isSlice, isPtr] at hsl hp
      · exact h.elim
    · exact h.elim
  · exact h.elim

theorem frontW_sound' {P : Program} {p : Oper} {σ : St} {K : AV → Prop} (h : frontW P p.op σ K) :
    ∃ y, K y ∧ ∀ (G : Nat → Status) (a : Act) (w : World), Good G w → (∀ x ∈ p.op.operands, VRel G w (σ.ev x) (a.eval x)) → ∃ v, VRel G w y v ∧ ∀ w', (execOp a.eval p).run P w' = .ok (.value v) w' := by
  unfold frontW at h
  split at h
  · rename_i T x f ho
    obtain ⟨hp, ⟨off, ty⟩, hf, ⟨⟨sz, by_, z⟩, hq, h0⟩, hK⟩ := h
    obtain ⟨fs, fd, hT, hfd, rfl, rfl⟩ := fieldOf_some hf
    refine ⟨_, hK, fun G a w hg hv => ?_⟩
    have hvx := hv x (by simp [ho, Op.operands])
    obtain ⟨b, o, hb, ho'⟩ := hvx.ptr_inv hp
    refine ⟨.pointer (some ⟨b, o + fd.offset, none⟩), ho' _, fun w' => ?_⟩
    simp only at h0 hq
    simp [execOp, ho, hb, Instr.fieldAt, run_underlying hT, hfd, Instr.sureAddr, fieldPlace, run_sizeOf hq, h0, Addr.add_none]
  · exact frontV_sound' h

theorem frontW_sound {P : Program} {p : Oper} {σ : St} {K : AV → Prop} (h : frontW P p.op σ K) :
    ∃ y, K y ∧ ∀ (G : Nat → Status) (a : Act) (w : World), Good G w → (∀ x, VRel G w (σ.ev x) (a.eval x)) → ∃ v, VRel G w y v ∧ ∀ w', (execOp a.eval p).run P w' = .ok (.value v) w' :=
  let ⟨y, h1, h2⟩ := frontW_sound' h
  ⟨y, h1, fun G a w hg hv => h2 G a w hg fun x _ => hv x⟩

def frA (P : Program) (o : Option Oper) (σ : St) (K : St → Prop) : Prop :=
  match o with
  | some ⟨some d, op, _, _, _, _⟩ => d < σ.n ∧ frontW P op σ fun y => K (σ.put (some d) y)
  | _ => False
def stepA (P : Program) (ops : Array Oper) (o : Option Oper) (σ : St) (K : St → Prop) : Prop :=
  match o with
  | some o => opsA P ops [o] σ K
  | none => False
def stepH (P : Program) (o : Option Oper) (σ : St) (K : St → Prop) : Prop :=
  match o with
  | some ⟨some d, op, T, pos, af, none⟩ => σ.free d = true ∧ headOp P ⟨some d, op, T, pos, af, none⟩ σ K
  | _ => False
def treeA (P : Program) (ops : Array Oper) : Tr → St → (St → Prop) → Prop
  | .done, σ, K => K σ
  | .front j t, σ, K => frA P ops[j]? σ fun σ' => treeA P ops t σ' K
  | .one j t, σ, K => stepA P ops ops[j]? σ fun σ' => treeA P ops t σ' K
  | .hd j t, σ, K => stepH P ops[j]? σ fun σ' => treeA P ops t σ' K
  | .alt a b, σ, K => treeA P ops a σ K ∧ treeA P ops b σ K
  | .retag a b t, σ, K => 2 ≤ a ∧ 2 ≤ b ∧ treeA P ops t (σ.map (retagLeaf a b)) K

section
variable {P : Program} {ops : Array Oper} {G0 : Orig} {w0 : World} {Q : Exit → Act → World → Prop}

theorem one_run {i : Nat} {o : Oper} {σ : St} {K1 : St → Prop} {KK : Act → World → Prop} {G : Nat → Status} {a : Act} {w : World} (h0 : True) (ho : ops[i]? = some o) (hw : opsA P ops [o] σ K1) (h : SRel G0 w0 σ G a w)
    (hcont : ∀ {σ' G' a' w'}, K1 σ' → SRel G0 w0 σ' G' a' w' → KK a' w') : Go.wpOp P ops Q i KK a w := by
  simp only [opsA] at hw
  simp only [Go.wpOp, ho]
  have run : ∀ {σ}, AM.wpOp P o σ K1 → SRel G0 w0 σ G a w → o.wp P a w KK Q := fun hw h =>
    wpOp_sound hw h h0 _ _ fun σ' G' a' w' hk hs => hcont hk hs
  cases hg : o.guard with
  | none =>
    simp only [hg] at hw
    rw [if_pos (by simp [Region.wanted, hg])]
    exact .inl (run hw h)
  | some p =>
    obtain ⟨j, want⟩ := p
    simp only [hg] at hw
    cases hgs : guardSlot ops j with
    | none => simp [hgs] at hw
    | some g =>
      simp only [hgs] at hw
      split at hw
      · rename_i b hb
        have hv := h.slots g
        rw [hb] at hv
        have hy := yielded_bool hgs hv.sc_inv
        by_cases hbw : b = want
        · subst hbw
          rw [if_pos (by simp [Region.wanted, hg, hy])]
          exact .inl (run (hw.1 rfl) (h.same hb))
        · rw [if_neg (by simp [Region.wanted, hg, hy, hbw])]
          have hbn : b = !want := by cases b <;> cases want <;> simp_all
          obtain ⟨hdst, hw⟩ := hw.2 hbn
          have hs := (h.same (g := g) (x := .sc (.bool (!want))) (by rw [hb, hbn])).add (.refl G w) h.good (fun _ _ h => h) (d := o.dst) (x := .sc undef) (v := undef) (by rw [put_n]; exact hdst) (.froz (.sc _))
          exact hcont hw hs
      · rename_i vs hb
        have hv := h.slots g
        rw [hb] at hv
        have hy := yielded_none hgs hv.sc_inv
        rw [if_neg (by simp [Region.wanted, hg, hy])]
        obtain ⟨hdst, hw⟩ := hw
        have hs := h.add (.refl G w) h.good (fun _ _ h => h) (d := o.dst) (x := .sc undef) (v := undef) hdst (.froz (.sc _))
        exact hcont hw hs
      · exact hw.elim

theorem hd_run {i : Nat} {o : Oper} {σ : St} {K1 : St → Prop} {KK : Act → World → Prop} {G : Nat → Status} {a : Act} {w : World} (h0 : True) (ho : ops[i]? = some o) (hw : stepH P (some o) σ K1) (h : SRel G0 w0 σ G a w)
    (hcont : ∀ {σ' G' a' w'}, K1 σ' → SRel G0 w0 σ' G' a' w' → KK a' w') : Go.wpOp P ops Q i KK a w := by
  unfold stepH at hw
  split at hw
  · rename_i d op T pos af hoo
    simp only [Option.some.injEq] at hoo
    subst hoo
    obtain ⟨hf, hw⟩ := hw
    obtain ⟨d', y, hd, hdn, hK, hstep⟩ := headOp_sound hw
    obtain rfl : d = d' := by simpa using hd
    obtain ⟨hs, hfr⟩ := h.fresh hf h0
    simp only [Go.wpOp, ho]
    rw [if_pos (by simp [Region.wanted])]
    exact .inl (hstep _ _ a w hs.good hs.boxes (fun _ => hfr) (fun x _ => hs.ev x) _ _ fun v w' G' g1 g2 g3 g4 =>
      hcont hK (hs.add g2 g3 g4.boxes (d := some d) (by simp [dstOk, hdn]) g1))
  · exact hw.elim

theorem readyIn_iff {listed : Array Bool} {U : List Nat} {L : List Nat} (hl : Left ops listed U) (hlt : ∀ i o, ops[i]? = some o → ∀ k ∈ edges o, k < i) (hL : ∀ i, i < ops.size → (listed.getD i false = true ↔ L.contains i = true)) {i : Nat} :
    readyIn ops L i = true ↔ i ∈ Region.ready .any ops listed := by
  rw [ready_iff hl.size]
  unfold readyIn
  cases ho : ops[i]? with
  | none => simp
  | some o =>
    have hi := (Array.getElem?_eq_some_iff.1 ho).1
    have h1 := hL i hi
    simp only [Bool.and_eq_true, Bool.not_eq_true', List.all_eq_true, Option.some.injEq, exists_eq_left']
    refine and_congr ?_ ⟨fun h k hk => ?_, fun h k hk => ?_⟩
    · cases hb : listed.getD i false <;> cases hc : L.contains i <;> simp_all
    · exact (hL k (by have := hlt i o ho k hk; omega)).2 (h k hk)
    · exact (hL k (by have := hlt i o ho k hk; omega)).1 (h k hk)

theorem of_steps {listed : Array Bool} {U : List Nat} {L c : List Nat} {a : Act} {w : World} (hl : Left ops listed U) (hlt : ∀ i o, ops[i]? = some o → ∀ k ∈ edges o, k < i) (hL : ∀ i, i < ops.size → (listed.getD i false = true ↔ L.contains i = true))
    (hc : covers ops L c = true) (h : ∀ i ∈ c, i ∈ Region.ready .any ops listed → Go.wpOp P ops Q i (wpAny P .any ops Q (U.length - 1) (listed.setIfInBounds i true)) a w) : wpAny P .any ops Q U.length listed a w := by
  simp only [covers, Bool.and_eq_true, List.any_eq_true, List.all_eq_true, List.mem_range, Bool.or_eq_true, Bool.not_eq_true'] at hc
  obtain ⟨⟨i, hi, hn⟩, hcov⟩ := hc
  have hUn : U ≠ [] := fun hU => by
    have : i ∈ U := (hl.mem i).2 ⟨hi, by
      cases hb : listed.getD i false
      · rfl
      · rw [(hL i hi).1 hb] at hn; cases hn⟩
    rw [hU] at this; simp at this
  obtain ⟨n, hn⟩ : ∃ n, U.length = n + 1 := ⟨U.length - 1, by have := List.length_pos_iff.2 hUn; omega⟩
  rw [hn] at h ⊢
  refine ⟨fun hr => absurd hr (some_ready hl hlt hUn), fun i hi => h i ?_ hi⟩
  obtain ⟨o, ho, _, _⟩ := (ready_iff hl.size).1 hi
  have := (hcov i (Array.getElem?_eq_some_iff.1 ho).1).resolve_left (by rw [(readyIn_iff hl hlt hL).2 hi]; simp)
  simpa using this

theorem tree_run {K : St → Prop} (h0 : True) (hlt : ∀ i o, ops[i]? = some o → ∀ k ∈ edges o, k < i) (hN : ∀ e a w, e ≠ .normal → ¬ Q e a w) (hQ : ∀ σ' G' a' w', K σ' → SRel G0 w0 σ' G' a' w' → Q .normal a' w') :
    ∀ (t : Tr) (top : Bool) (L : List Nat) (listed : Array Bool) (U : List Nat) (σ : St) (G : Nat → Status) (a : Act) (w : World), trOk ops top L t = true → Left ops listed U → Closed ops (fun k => listed.getD k false) → (∀ i, i < ops.size → (listed.getD i false = true ↔ L.contains i = true)) →
      treeA P ops t σ K → SRel G0 w0 σ G a w →
      (top = true → wpAny P .any ops Q U.length listed a w) ∧ ∀ i ∈ t.cover, i ∈ Region.ready .any ops listed → Go.wpOp P ops Q i (wpAny P .any ops Q (U.length - 1) (listed.setIfInBounds i true)) a w
  | .done, top, L, listed, U, σ, G, a, w, hok, hl, hc, hL, h, hs => by
    simp only [trOk, Bool.and_eq_true, List.all_eq_true, List.mem_range] at hok
    refine ⟨fun _ => ?_, fun i hi => by simp [Tr.cover] at hi⟩
    have hU : U = [] := by
      apply List.eq_nil_iff_forall_not_mem.2
      intro i hi
      obtain ⟨h1, h2⟩ := (hl.mem i).1 hi
      rw [(hL i h1).2 (hok.2 i h1)] at h2; cases h2
    subst hU
    refine ⟨?_, hQ σ G a w h hs⟩
    apply List.eq_nil_iff_forall_not_mem.2
    intro i hi
    obtain ⟨o, ho, h1, _⟩ := (ready_iff hl.size).1 hi
    have hlt' := (Array.getElem?_eq_some_iff.1 ho).1
    rw [(hL i hlt').2 (hok.2 i hlt')] at h1; cases h1
  | .front j t, top, L, listed, U, σ, G, a, w, hok, hl, hc, hL, h, hs => by
    simp only [trOk, Bool.and_eq_true] at hok
    obtain ⟨_, hr, hf, ht⟩ := hok
    have hready := (readyIn_iff hl hlt hL).1 hr
    refine ⟨fun _ => ?_, fun i hi => by simp [Tr.cover] at hi⟩
    obtain ⟨p, hp, k1, k2⟩ := (ready_iff hl.size).1 hready
    rw [hp] at hf
    obtain ⟨d', hfr⟩ := frontOk_front hp hf
    simp only [treeA, frA, hp] at h
    split at h
    · rename_i d op T pos af g hj
      cases hj
      obtain ⟨hdn, h⟩ := h
      obtain rfl : d = d' := by simpa using hfr.dst
      have hjs := (Array.getElem?_eq_some_iff.1 hp).1
      have hmem : j ∈ U := (hl.mem j).2 ⟨hjs, k1⟩
      obtain ⟨l1, l2⟩ := hl.step hmem
      have hsz : j < listed.size := by rw [hl.size]; exact hjs
      obtain ⟨y, hK, hy⟩ := frontW_sound (p := ⟨some d, op, T, pos, af, g⟩) h
      obtain ⟨v, hv, hex⟩ := hy G a w hs.good (fun x => hs.ev x)
      have hrun := (tree_run h0 hlt hN hQ t true (j :: L) (listed.setIfInBounds j true) (U.erase j) (σ.put (some d) y) G (a.put (some d) v) w ht l1 (hc.step hsz hp k2) (fun i hi => by
          rw [set_getD hsz]
          by_cases hij : j = i
          · subst hij; simp
          · rw [if_neg hij, hL i hi]; simp [Ne.symm hij]) hK
        (hs.add (.refl G w) hs.good (fun _ _ h => h) (by simp [dstOk, hdn]) hv)).1 rfl
      rw [← l2]
      exact front_run hN hfr _ _ _ _ v hl.size hc hready hex hrun
    · exact h.elim
  | .one j t, top, L, listed, U, σ, G, a, w, hok, hl, hc, hL, h, hs => by
    simp only [trOk, Bool.and_eq_true, Bool.or_eq_true, Bool.not_eq_true'] at hok
    have key : j ∈ Region.ready .any ops listed → Go.wpOp P ops Q j (wpAny P .any ops Q (U.length - 1) (listed.setIfInBounds j true)) a w := by
      intro hready
      obtain ⟨o, ho, k1, k2⟩ := (ready_iff hl.size).1 hready
      have hjs := (Array.getElem?_eq_some_iff.1 ho).1
      have hmem : j ∈ U := (hl.mem j).2 ⟨hjs, k1⟩
      obtain ⟨l1, l2⟩ := hl.step hmem
      have hsz : j < listed.size := by rw [hl.size]; exact hjs
      simp only [treeA, stepA, ho] at h
      refine one_run h0 ho h hs fun {σ' G' a' w'} hk hs' => ?_
      have := (tree_run h0 hlt hN hQ t true (j :: L) (listed.setIfInBounds j true) (U.erase j) σ' G' a' w' hok.2 l1 (hc.step hsz ho k2) (fun i hi => by
          rw [set_getD hsz]
          by_cases hij : j = i
          · subst hij; simp
          · rw [if_neg hij, hL i hi]; simp [Ne.symm hij]) hk hs').1 rfl
      rw [show U.length - 1 = (U.erase j).length by omega]
      exact this
    refine ⟨fun htop => ?_, fun i hi hr => ?_⟩
    · refine of_steps hl hlt hL (hok.1.resolve_left (by simp [htop])) fun i hi hr => ?_
      have hij : i = j := by simpa using hi
      subst hij; exact key hr
    · have hij : i = j := by simpa [Tr.cover] using hi
      subst hij; exact key hr
  | .hd j t, top, L, listed, U, σ, G, a, w, hok, hl, hc, hL, h, hs => by
    simp only [trOk, Bool.and_eq_true, Bool.or_eq_true, Bool.not_eq_true'] at hok
    have key : j ∈ Region.ready .any ops listed → Go.wpOp P ops Q j (wpAny P .any ops Q (U.length - 1) (listed.setIfInBounds j true)) a w := by
      intro hready
      obtain ⟨o, ho, k1, k2⟩ := (ready_iff hl.size).1 hready
      have hjs := (Array.getElem?_eq_some_iff.1 ho).1
      have hmem : j ∈ U := (hl.mem j).2 ⟨hjs, k1⟩
      obtain ⟨l1, l2⟩ := hl.step hmem
      have hsz : j < listed.size := by rw [hl.size]; exact hjs
      simp only [treeA, ho] at h
      refine hd_run h0 ho h hs fun {σ' G' a' w'} hk hs' => ?_
      have := (tree_run h0 hlt hN hQ t true (j :: L) (listed.setIfInBounds j true) (U.erase j) σ' G' a' w' hok.2 l1 (hc.step hsz ho k2) (fun i hi => by
          rw [set_getD hsz]
          by_cases hij : j = i
          · subst hij; simp
          · rw [if_neg hij, hL i hi]; simp [Ne.symm hij]) hk hs').1 rfl
      rw [show U.length - 1 = (U.erase j).length by omega]
      exact this
    refine ⟨fun htop => ?_, fun i hi hr => ?_⟩
    · refine of_steps hl hlt hL (hok.1.resolve_left (by simp [htop])) fun i hi hr => ?_
      have hij : i = j := by simpa using hi
      subst hij; exact key hr
    · have hij : i = j := by simpa [Tr.cover] using hi
      subst hij; exact key hr
  | .retag x y t, top, L, listed, U, σ, G, a, w, hok, hl, hc, hL, h, hs => by
    simp only [trOk, Bool.and_eq_true] at hok
    exact ⟨fun _ => (tree_run h0 hlt hN hQ t true L listed U _ _ a w hok.2 hl hc hL h.2.2 (hs.retag h0 h.1 h.2.1)).1 rfl, fun i hi => by simp [Tr.cover] at hi⟩
  | .alt x y, top, L, listed, U, σ, G, a, w, hok, hl, hc, hL, h, hs => by
    simp only [trOk, Bool.and_eq_true, Bool.or_eq_true, Bool.not_eq_true'] at hok
    obtain ⟨hcov, hx, hy⟩ := hok
    have ix := (tree_run h0 hlt hN hQ x false L listed U σ G a w hx hl hc hL h.1 hs).2
    have iy := (tree_run h0 hlt hN hQ y false L listed U σ G a w hy hl hc hL h.2 hs).2
    have key : ∀ i ∈ (Tr.alt x y).cover, i ∈ Region.ready .any ops listed → Go.wpOp P ops Q i (wpAny P .any ops Q (U.length - 1) (listed.setIfInBounds i true)) a w := fun i hi hr => by
      rcases List.mem_append.1 hi with hi | hi
      · exact ix i hi hr
      · exact iy i hi hr
    exact ⟨fun htop => of_steps hl hlt hL (hcov.resolve_left (by simp [htop])) key, key⟩
end

/-- A DRAWN REGION, in every order that its edges allow. -/
theorem DrawK.treeO {P : Program} {ops : Array Oper} {σ : St} {K : St → Prop} (t : Tr) (hm : P.follows .mixedOrders = true) (hok : treeOk ops t = true) (h : treeA P ops t σ K) : DrawK P ops σ K := by
  intro G0 w0 G a w id Q h0 hs hQ
  simp only [treeOk, Bool.and_eq_true, List.all_eq_true, List.mem_range] at hok
  refine wp_region_any hm (wpAny_normal _ _ _ _ ?_)
  have hgd : ∀ i, (Array.replicate ops.size false).getD i false = false := fun i => by
    by_cases hi : i < ops.size <;> simp [hi]
  have := (tree_run (P := P) (Q := fun e a w => e = .normal ∧ Q e a w) h0 (fun i o ho => by
      have := hok.1 i (Array.getElem?_eq_some_iff.1 ho).1
      rw [ho] at this
      simpa only [List.all_eq_true, decide_eq_true_eq] using this) (fun e a w hn h => hn h.1) (fun σ' G' a' w' hk hs => ⟨rfl, hQ σ' G' a' w' hk hs⟩) t true [] (Array.replicate ops.size false) (List.range ops.size) σ G a _ hok.2
      ⟨by simp, List.nodup_range, fun i => by rw [List.mem_range, hgd]; simp⟩ (fun i o _ hi => absurd (show (Array.replicate ops.size false).getD i false = true from hi) (by rw [hgd]; simp)) (fun i _ => by rw [hgd]; simp) h (hs.drawn (w.drawn + 1))).1 rfl
  simpa using this

theorem DrawK.tree {P : Program} {l : List Oper} {σ : St} {K : St → Prop} (t : Tr) (hm : P.follows .mixedOrders = true) (hok : treeOk l.toArray t = true) (h : treeA P l.toArray t σ K) : DrawK P l.toArray σ K := DrawK.treeO t hm hok h

/-! ### rules -/
section
variable {P : Program} {n : Nat} {t : List (Nat × AV)} {b : List (List AV)} {ops : Array Oper} {l : List Oper} {tr tr' : Tr} {j : Nat}
variable {d : Nat} {T : TypeId} {pos : String} {af : Array Edge} {g : Option (Nat × Bool)} {K : St → Prop}
@[congr] theorem frA_congr {o o' : Option Oper} {σ σ' : St} (h1 : o = o') (h : mkd σ = σ') : frA P o σ K = frA P o' σ' K := by subst_vars; rfl
@[congr] theorem stepA_congr {o o' : Option Oper} {σ σ' : St} (h1 : o = o') (h : mkd σ = σ') : stepA P ops o σ K = stepA P ops o' σ' K := by subst_vars; rfl
@[congr] theorem treeA_congr {σ σ' : St} (h : mkd σ = σ') : treeA P ops tr σ K = treeA P ops tr σ' K := by subst_vars; rfl
@[go_sem] theorem treeA_done : treeA P ops .done ⟨n, t, b⟩ K = K ⟨n, t, b⟩ := rfl
@[go_sem] theorem treeA_front : treeA P l.toArray (.front j tr) ⟨n, t, b⟩ K = frA P l[j]? ⟨n, t, b⟩ fun σ' => treeA P l.toArray tr σ' K := by rw [← List.getElem?_toArray]; rfl
@[go_sem] theorem treeA_one : treeA P l.toArray (.one j tr) ⟨n, t, b⟩ K = stepA P l.toArray l[j]? ⟨n, t, b⟩ fun σ' => treeA P l.toArray tr σ' K := by rw [← List.getElem?_toArray]; rfl
@[go_sem] theorem treeA_alt : treeA P ops (.alt tr tr') ⟨n, t, b⟩ K = andK (treeA P ops tr ⟨n, t, b⟩ K) (treeA P ops tr' ⟨n, t, b⟩ K) := rfl
@[go_sem] theorem treeA_retag {x y : Nat} : treeA P ops (.retag x y tr) ⟨n, t, b⟩ K = andK (2 ≤ x) (andK (2 ≤ y) (treeA P ops tr (St.map ⟨n, t, b⟩ (retagLeaf x y)) K)) := rfl
@[go_sem] theorem stepA_some {o : Oper} : stepA P ops (some o) ⟨n, t, b⟩ K = opsA P ops [o] ⟨n, t, b⟩ K := rfl
@[congr] theorem stepH_congr {o o' : Option Oper} {σ σ' : St} (h1 : o = o') (h : mkd σ = σ') : stepH P o σ K = stepH P o' σ' K := by subst_vars; rfl
@[go_sem] theorem treeA_hd : treeA P l.toArray (.hd j tr) ⟨n, t, b⟩ K = stepH P l[j]? ⟨n, t, b⟩ fun σ' => treeA P l.toArray tr σ' K := by rw [← List.getElem?_toArray]; rfl
@[go_sem] theorem stepH_some {op : Op} : stepH P (some ⟨some d, op, T, pos, af, none⟩) ⟨n, t, b⟩ K = andK (St.free ⟨n, t, b⟩ d = true) (headOp P ⟨some d, op, T, pos, af, none⟩ ⟨n, t, b⟩ K) := rfl
@[go_sem] theorem frA_move {x : Operand} : frA P (some ⟨some d, .move x, T, pos, af, g⟩) ⟨n, t, b⟩ K = andK (d < n) (K (St.put ⟨n, t, b⟩ (some d) (St.ev ⟨n, t, b⟩ x))) := rfl
@[go_sem] theorem frA_fieldAddr {T' : TypeId} {x : Operand} {f : Nat} : frA P (some ⟨some d, .fieldAddr T' x f, T, pos, af, g⟩) ⟨n, t, b⟩ K = andK (d < n) (evFieldAddr P T' (St.ev ⟨n, t, b⟩ x) f fun r => K (St.put ⟨n, t, b⟩ (some d) r)) := rfl
@[go_sem] theorem frA_indexAddr {T' : TypeId} {x i : Operand} : frA P (some ⟨some d, .indexAddr T' x i, T, pos, af, g⟩) ⟨n, t, b⟩ K = andK (d < n) (andK (isSlice (St.ev ⟨n, t, b⟩ x) = true) (evIndexAddr P T' (St.ev ⟨n, t, b⟩ x) (St.ev ⟨n, t, b⟩ i) fun r => K (St.put ⟨n, t, b⟩ (some d) r))) := by simp [frA, frontW, frontV, andK]
end
end Go.AM
