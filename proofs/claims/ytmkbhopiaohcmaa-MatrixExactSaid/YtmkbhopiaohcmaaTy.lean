/-
  The types of this program.
-/
import Derived.Test.YtmkbhopiaohcmaaProg
import Derived.Test.YtmkbhopiaohcmaaAmS
namespace Go.AM
open Go Go.Proofs

theorem tinfo_0 : tinfo Try.prog 0 = some (1, 0, some (Value.tuple (List.toArray []))) := by kernel_rfl
theorem agg_0 : aggT Try.prog 0 = some false := by kernel_rfl
theorem tinfo_1 : tinfo Try.prog 1 = some (1, 8, some Value.nilFunc) := by kernel_rfl
theorem agg_1 : aggT Try.prog 1 = some false := by kernel_rfl
theorem tinfo_2 : tinfo Try.prog 2 = some (1, 8, some (Value.int IntKind.i64 (0))) := by kernel_rfl
theorem agg_2 : aggT Try.prog 2 = some false := by kernel_rfl
theorem tinfo_3 : tinfo Try.prog 3 = some (1, 8, some (Value.int IntKind.i64 (0))) := by kernel_rfl
theorem agg_3 : aggT Try.prog 3 = some false := by kernel_rfl
theorem tinfo_4 : tinfo Try.prog 4 = some (1, 1, some (Value.bool false)) := by kernel_rfl
theorem agg_4 : aggT Try.prog 4 = some false := by kernel_rfl
theorem tinfo_5 : tinfo Try.prog 5 = some (1, 1, some (Value.int IntKind.u8 (0))) := by kernel_rfl
theorem agg_5 : aggT Try.prog 5 = some false := by kernel_rfl
theorem tinfo_6 : tinfo Try.prog 6 = some (1, 1, some (Value.int IntKind.u8 (0))) := by kernel_rfl
theorem agg_6 : aggT Try.prog 6 = some false := by kernel_rfl
theorem tinfo_7 : tinfo Try.prog 7 = some (4, 24, some (Value.agg (List.toArray [Value.int IntKind.i64 (0), Value.int IntKind.i64 (0), Value.bool false, Value.int IntKind.u8 (0)]))) := by kernel_rfl
theorem agg_7 : aggT Try.prog 7 = some true := by kernel_rfl
theorem tinfo_8 : tinfo Try.prog 8 = some (4, 24, some (Value.agg (List.toArray [Value.int IntKind.i64 (0), Value.int IntKind.i64 (0), Value.bool false, Value.int IntKind.u8 (0)]))) := by kernel_rfl
theorem agg_8 : aggT Try.prog 8 = some true := by kernel_rfl
theorem tinfo_9 : tinfo Try.prog 9 = some (1, 16, some (Value.string (ByteArray.mk (List.toArray [])))) := by kernel_rfl
theorem agg_9 : aggT Try.prog 9 = some false := by kernel_rfl
theorem tinfo_10 : tinfo Try.prog 10 = some (1, 16, some (Value.string (ByteArray.mk (List.toArray [])))) := by kernel_rfl
theorem agg_10 : aggT Try.prog 10 = some false := by kernel_rfl
theorem tinfo_11 : tinfo Try.prog 11 = some (1, 16, some (Value.string (ByteArray.mk (List.toArray [])))) := by kernel_rfl
theorem agg_11 : aggT Try.prog 11 = some false := by kernel_rfl
theorem tinfo_12 : tinfo Try.prog 12 = some (1, 8, some (Value.int IntKind.u64 (0))) := by kernel_rfl
theorem agg_12 : aggT Try.prog 12 = some false := by kernel_rfl
theorem tinfo_13 : tinfo Try.prog 13 = some (2, 24, some (Value.agg (List.toArray [Value.string (ByteArray.mk (List.toArray [])), Value.int IntKind.u64 (0)]))) := by kernel_rfl
theorem agg_13 : aggT Try.prog 13 = some true := by kernel_rfl
theorem tinfo_14 : tinfo Try.prog 14 = some (2, 24, some (Value.agg (List.toArray [Value.string (ByteArray.mk (List.toArray [])), Value.int IntKind.u64 (0)]))) := by kernel_rfl
theorem agg_14 : aggT Try.prog 14 = some true := by kernel_rfl
theorem tinfo_15 : tinfo Try.prog 15 = some (1, 8, some (Value.pointer none)) := by kernel_rfl
theorem agg_15 : aggT Try.prog 15 = some false := by kernel_rfl
theorem tinfo_16 : tinfo Try.prog 16 = some (1, 8, some (Value.pointer none)) := by kernel_rfl
theorem agg_16 : aggT Try.prog 16 = some false := by kernel_rfl
theorem tinfo_17 : tinfo Try.prog 17 = some (1, 8, some (Value.pointer none)) := by kernel_rfl
theorem agg_17 : aggT Try.prog 17 = some false := by kernel_rfl
theorem tinfo_18 : tinfo Try.prog 18 = some (1, 8, some (Value.agg (List.toArray [Value.pointer none]))) := by kernel_rfl
theorem agg_18 : aggT Try.prog 18 = some true := by kernel_rfl
theorem tinfo_19 : tinfo Try.prog 19 = some (1, 8, some (Value.agg (List.toArray [Value.pointer none]))) := by kernel_rfl
theorem agg_19 : aggT Try.prog 19 = some true := by kernel_rfl
theorem tinfo_20 : tinfo Try.prog 20 = some (1, 16, some Value.nilIface) := by kernel_rfl
theorem agg_20 : aggT Try.prog 20 = some false := by kernel_rfl
theorem tinfo_21 : tinfo Try.prog 21 = some (1, 4, some (Value.int IntKind.i32 (0))) := by kernel_rfl
theorem agg_21 : aggT Try.prog 21 = some false := by kernel_rfl
theorem tinfo_22 : tinfo Try.prog 22 = some (1, 24, some (Value.slice none 0 0)) := by kernel_rfl
theorem agg_22 : aggT Try.prog 22 = some false := by kernel_rfl
theorem tinfo_23 : tinfo Try.prog 23 = some (1, 8, some Value.nilFunc) := by kernel_rfl
theorem agg_23 : aggT Try.prog 23 = some false := by kernel_rfl
theorem tinfo_24 : tinfo Try.prog 24 = some (1, 8, some Value.nilFunc) := by kernel_rfl
theorem agg_24 : aggT Try.prog 24 = some false := by kernel_rfl
theorem tinfo_25 : tinfo Try.prog 25 = some (1, 8, some (Value.pointer none)) := by kernel_rfl
theorem agg_25 : aggT Try.prog 25 = some false := by kernel_rfl
theorem tinfo_26 : tinfo Try.prog 26 = some (1, 8, some Value.nilFunc) := by kernel_rfl
theorem agg_26 : aggT Try.prog 26 = some false := by kernel_rfl
theorem tinfo_27 : tinfo Try.prog 27 = some (1, 24, some (Value.slice none 0 0)) := by kernel_rfl
theorem agg_27 : aggT Try.prog 27 = some false := by kernel_rfl
theorem tinfo_28 : tinfo Try.prog 28 = some (1, 8, some Value.nilFunc) := by kernel_rfl
theorem agg_28 : aggT Try.prog 28 = some false := by kernel_rfl
theorem tinfo_29 : tinfo Try.prog 29 = some (1, 8, some Value.nilFunc) := by kernel_rfl
theorem agg_29 : aggT Try.prog 29 = some false := by kernel_rfl
theorem tinfo_30 : tinfo Try.prog 30 = some (1, 8, some (Value.int IntKind.i64 (0))) := by kernel_rfl
theorem agg_30 : aggT Try.prog 30 = some false := by kernel_rfl
theorem tinfo_31 : tinfo Try.prog 31 = some (1, 0, some (Value.tuple (List.toArray [Value.slice none 0 0, Value.int IntKind.i64 (0)]))) := by kernel_rfl
theorem agg_31 : aggT Try.prog 31 = some false := by kernel_rfl
theorem tinfo_32 : tinfo Try.prog 32 = some (1, 8, some Value.nilFunc) := by kernel_rfl
theorem agg_32 : aggT Try.prog 32 = some false := by kernel_rfl
theorem tinfo_33 : tinfo Try.prog 33 = some (1, 0, some (Value.tuple (List.toArray [Value.int IntKind.i64 (0), Value.int IntKind.i64 (0)]))) := by kernel_rfl
theorem agg_33 : aggT Try.prog 33 = some false := by kernel_rfl
theorem tinfo_34 : tinfo Try.prog 34 = some (1, 8, some Value.nilFunc) := by kernel_rfl
theorem agg_34 : aggT Try.prog 34 = some false := by kernel_rfl
theorem tinfo_35 : tinfo Try.prog 35 = some (1, 8, some Value.nilFunc) := by kernel_rfl
theorem agg_35 : aggT Try.prog 35 = some false := by kernel_rfl
theorem tinfo_36 : tinfo Try.prog 36 = some (1, 0, some (Value.tuple (List.toArray [Value.slice none 0 0, Value.int IntKind.i64 (0)]))) := by kernel_rfl
theorem agg_36 : aggT Try.prog 36 = some false := by kernel_rfl
theorem tinfo_37 : tinfo Try.prog 37 = some (1, 8, some Value.nilFunc) := by kernel_rfl
theorem agg_37 : aggT Try.prog 37 = some false := by kernel_rfl
theorem tinfo_38 : tinfo Try.prog 38 = some (1, 8, some Value.nilFunc) := by kernel_rfl
theorem agg_38 : aggT Try.prog 38 = some false := by kernel_rfl
theorem tinfo_39 : tinfo Try.prog 39 = some (2, 48, some (Value.agg (List.toArray [Value.slice none 0 0, Value.slice none 0 0]))) := by kernel_rfl
theorem agg_39 : aggT Try.prog 39 = some true := by kernel_rfl
theorem tinfo_40 : tinfo Try.prog 40 = some (1, 24, some (Value.slice none 0 0)) := by kernel_rfl
theorem agg_40 : aggT Try.prog 40 = some false := by kernel_rfl
theorem tinfo_41 : tinfo Try.prog 41 = some (1, 8, some Value.nilFunc) := by kernel_rfl
theorem agg_41 : aggT Try.prog 41 = some false := by kernel_rfl
theorem tinfo_42 : tinfo Try.prog 42 = some (1, 8, some Value.nilFunc) := by kernel_rfl
theorem agg_42 : aggT Try.prog 42 = some false := by kernel_rfl
theorem tinfo_43 : tinfo Try.prog 43 = some (1, 8, some Value.nilFunc) := by kernel_rfl
theorem agg_43 : aggT Try.prog 43 = some false := by kernel_rfl
theorem tinfo_44 : tinfo Try.prog 44 = some (1, 8, some Value.nilFunc) := by kernel_rfl
theorem agg_44 : aggT Try.prog 44 = some false := by kernel_rfl
theorem tinfo_45 : tinfo Try.prog 45 = some (1, 8, some Value.nilFunc) := by kernel_rfl
theorem agg_45 : aggT Try.prog 45 = some false := by kernel_rfl
theorem tinfo_46 : tinfo Try.prog 46 = some (1, 8, some Value.nilFunc) := by kernel_rfl
theorem agg_46 : aggT Try.prog 46 = some false := by kernel_rfl
theorem tinfo_47 : tinfo Try.prog 47 = some (1, 8, some (Value.int IntKind.u64 (0))) := by kernel_rfl
theorem agg_47 : aggT Try.prog 47 = some false := by kernel_rfl
theorem tinfo_48 : tinfo Try.prog 48 = some (3, 40, some (Value.agg (List.toArray [Value.slice none 0 0, Value.int IntKind.i64 (0), Value.int IntKind.u64 (0)]))) := by kernel_rfl
theorem agg_48 : aggT Try.prog 48 = some true := by kernel_rfl
theorem tinfo_49 : tinfo Try.prog 49 = some (3, 40, some (Value.agg (List.toArray [Value.slice none 0 0, Value.int IntKind.i64 (0), Value.int IntKind.u64 (0)]))) := by kernel_rfl
theorem agg_49 : aggT Try.prog 49 = some true := by kernel_rfl
theorem tinfo_50 : tinfo Try.prog 50 = some (1, 8, some Value.nilFunc) := by kernel_rfl
theorem agg_50 : aggT Try.prog 50 = some false := by kernel_rfl
theorem tinfo_51 : tinfo Try.prog 51 = some (1, 8, some Value.nilFunc) := by kernel_rfl
theorem agg_51 : aggT Try.prog 51 = some false := by kernel_rfl
theorem tinfo_52 : tinfo Try.prog 52 = some (1, 8, some (Value.int IntKind.u64 (0))) := by kernel_rfl
theorem agg_52 : aggT Try.prog 52 = some false := by kernel_rfl
theorem tinfo_53 : tinfo Try.prog 53 = some (1, 0, some (Value.tuple (List.toArray [Value.slice none 0 0, Value.slice none 0 0]))) := by kernel_rfl
theorem agg_53 : aggT Try.prog 53 = some false := by kernel_rfl
theorem tinfo_54 : tinfo Try.prog 54 = some (1, 8, some Value.nilFunc) := by kernel_rfl
theorem agg_54 : aggT Try.prog 54 = some false := by kernel_rfl
theorem tinfo_55 : tinfo Try.prog 55 = some (1, 8, some Value.nilFunc) := by kernel_rfl
theorem agg_55 : aggT Try.prog 55 = some false := by kernel_rfl
theorem tinfo_56 : tinfo Try.prog 56 = some (1, 8, some Value.nilFunc) := by kernel_rfl
theorem agg_56 : aggT Try.prog 56 = some false := by kernel_rfl
theorem tinfo_57 : tinfo Try.prog 57 = some (1, 8, some Value.nilFunc) := by kernel_rfl
theorem agg_57 : aggT Try.prog 57 = some false := by kernel_rfl
theorem tinfo_58 : tinfo Try.prog 58 = some (1, 8, some Value.nilFunc) := by kernel_rfl
theorem agg_58 : aggT Try.prog 58 = some false := by kernel_rfl
theorem tinfo_59 : tinfo Try.prog 59 = some (1, 8, some Value.nilFunc) := by kernel_rfl
theorem agg_59 : aggT Try.prog 59 = some false := by kernel_rfl
theorem tinfo_60 : tinfo Try.prog 60 = some (1, 8, some Value.nilFunc) := by kernel_rfl
theorem agg_60 : aggT Try.prog 60 = some false := by kernel_rfl
theorem tinfo_61 : tinfo Try.prog 61 = some (1, 0, some (Value.tuple (List.toArray [Value.slice none 0 0, Value.slice none 0 0]))) := by kernel_rfl
theorem agg_61 : aggT Try.prog 61 = some false := by kernel_rfl
theorem tinfo_62 : tinfo Try.prog 62 = some (1, 8, some Value.nilFunc) := by kernel_rfl
theorem agg_62 : aggT Try.prog 62 = some false := by kernel_rfl
theorem tinfo_63 : tinfo Try.prog 63 = some (1, 8, some Value.nilFunc) := by kernel_rfl
theorem agg_63 : aggT Try.prog 63 = some false := by kernel_rfl
theorem tinfo_64 : tinfo Try.prog 64 = some (1, 8, some Value.nilFunc) := by kernel_rfl
theorem agg_64 : aggT Try.prog 64 = some false := by kernel_rfl
theorem tinfo_65 : tinfo Try.prog 65 = some (1, 8, some Value.nilFunc) := by kernel_rfl
theorem agg_65 : aggT Try.prog 65 = some false := by kernel_rfl
theorem tinfo_66 : tinfo Try.prog 66 = some (1, 8, some Value.nilFunc) := by kernel_rfl
theorem agg_66 : aggT Try.prog 66 = some false := by kernel_rfl
theorem tinfo_67 : tinfo Try.prog 67 = some (1, 8, some Value.nilFunc) := by kernel_rfl
theorem agg_67 : aggT Try.prog 67 = some false := by kernel_rfl
theorem tinfo_68 : tinfo Try.prog 68 = some (1, 8, some Value.nilFunc) := by kernel_rfl
theorem agg_68 : aggT Try.prog 68 = some false := by kernel_rfl
theorem tinfo_69 : tinfo Try.prog 69 = some (4, 40, some (Value.agg (List.toArray [Value.pointer none, Value.pointer none, Value.pointer none, Value.string (ByteArray.mk (List.toArray []))]))) := by kernel_rfl
theorem agg_69 : aggT Try.prog 69 = some true := by kernel_rfl
theorem tinfo_70 : tinfo Try.prog 70 = some (4, 40, some (Value.agg (List.toArray [Value.pointer none, Value.pointer none, Value.pointer none, Value.string (ByteArray.mk (List.toArray []))]))) := by kernel_rfl
theorem agg_70 : aggT Try.prog 70 = some true := by kernel_rfl
theorem tinfo_71 : tinfo Try.prog 71 = some (0, 0, some (Value.agg (List.toArray []))) := by kernel_rfl
theorem agg_71 : aggT Try.prog 71 = some true := by kernel_rfl
theorem tinfo_72 : tinfo Try.prog 72 = some (0, 0, some (Value.agg (List.toArray []))) := by kernel_rfl
theorem agg_72 : aggT Try.prog 72 = some true := by kernel_rfl
theorem tinfo_73 : tinfo Try.prog 73 = some (0, 0, some (Value.agg (List.toArray []))) := by kernel_rfl
theorem agg_73 : aggT Try.prog 73 = some true := by kernel_rfl
theorem tinfo_74 : tinfo Try.prog 74 = some (1, 8, some Value.nilFunc) := by kernel_rfl
theorem agg_74 : aggT Try.prog 74 = some false := by kernel_rfl
theorem tinfo_75 : tinfo Try.prog 75 = some (1, 4, some (Value.int IntKind.u32 (0))) := by kernel_rfl
theorem agg_75 : aggT Try.prog 75 = some false := by kernel_rfl
theorem tinfo_76 : tinfo Try.prog 76 = some (1, 1, some (Value.int IntKind.u8 (0))) := by kernel_rfl
theorem agg_76 : aggT Try.prog 76 = some false := by kernel_rfl
theorem tinfo_77 : tinfo Try.prog 77 = some (1, 1, some (Value.int IntKind.u8 (0))) := by kernel_rfl
theorem agg_77 : aggT Try.prog 77 = some false := by kernel_rfl
theorem tinfo_78 : tinfo Try.prog 78 = some (1, 8, some Value.nilFunc) := by kernel_rfl
theorem agg_78 : aggT Try.prog 78 = some false := by kernel_rfl
theorem tinfo_79 : tinfo Try.prog 79 = some (1, 8, some (Value.pointer none)) := by kernel_rfl
theorem agg_79 : aggT Try.prog 79 = some false := by kernel_rfl
theorem tinfo_80 : tinfo Try.prog 80 = some (1, 4, some (Value.int IntKind.i32 (0))) := by kernel_rfl
theorem agg_80 : aggT Try.prog 80 = some false := by kernel_rfl
theorem tinfo_81 : tinfo Try.prog 81 = some (1, 4, some (Value.int IntKind.i32 (0))) := by kernel_rfl
theorem agg_81 : aggT Try.prog 81 = some false := by kernel_rfl
theorem tinfo_82 : tinfo Try.prog 82 = some (11, 48, some (Value.agg (List.toArray [Value.int IntKind.u64 (0), Value.int IntKind.u64 (0), Value.int IntKind.u32 (0), Value.int IntKind.u8 (0), Value.int IntKind.u8 (0), Value.int IntKind.u8 (0), Value.int IntKind.u8 (0), Value.nilFunc, Value.pointer none, Value.int IntKind.i32 (0), Value.int IntKind.i32 (0)]))) := by kernel_rfl
theorem agg_82 : aggT Try.prog 82 = some true := by kernel_rfl
theorem tinfo_83 : tinfo Try.prog 83 = some (11, 48, some (Value.agg (List.toArray [Value.int IntKind.u64 (0), Value.int IntKind.u64 (0), Value.int IntKind.u32 (0), Value.int IntKind.u8 (0), Value.int IntKind.u8 (0), Value.int IntKind.u8 (0), Value.int IntKind.u8 (0), Value.nilFunc, Value.pointer none, Value.int IntKind.i32 (0), Value.int IntKind.i32 (0)]))) := by kernel_rfl
theorem agg_83 : aggT Try.prog 83 = some true := by kernel_rfl
theorem tinfo_84 : tinfo Try.prog 84 = some (1, 8, some (Value.pointer none)) := by kernel_rfl
theorem agg_84 : aggT Try.prog 84 = some false := by kernel_rfl
theorem places_7 : placesOf Try.prog 7 = some [(0, 1), (1, 1), (2, 1), (3, 1)] := by kernel_rfl
theorem field_7_0 : fieldOf Try.prog 7 0 = some (0, 2) := by kernel_rfl
theorem field_7_1 : fieldOf Try.prog 7 1 = some (1, 3) := by kernel_rfl
theorem field_7_2 : fieldOf Try.prog 7 2 = some (2, 4) := by kernel_rfl
theorem field_7_3 : fieldOf Try.prog 7 3 = some (3, 6) := by kernel_rfl
theorem places_8 : placesOf Try.prog 8 = some [(0, 1), (1, 1), (2, 1), (3, 1)] := by kernel_rfl
theorem field_8_0 : fieldOf Try.prog 8 0 = some (0, 2) := by kernel_rfl
theorem field_8_1 : fieldOf Try.prog 8 1 = some (1, 3) := by kernel_rfl
theorem field_8_2 : fieldOf Try.prog 8 2 = some (2, 4) := by kernel_rfl
theorem field_8_3 : fieldOf Try.prog 8 3 = some (3, 6) := by kernel_rfl
theorem places_13 : placesOf Try.prog 13 = some [(0, 1), (1, 1)] := by kernel_rfl
theorem field_13_0 : fieldOf Try.prog 13 0 = some (0, 9) := by kernel_rfl
theorem field_13_1 : fieldOf Try.prog 13 1 = some (1, 12) := by kernel_rfl
theorem places_14 : placesOf Try.prog 14 = some [(0, 1), (1, 1)] := by kernel_rfl
theorem field_14_0 : fieldOf Try.prog 14 0 = some (0, 9) := by kernel_rfl
theorem field_14_1 : fieldOf Try.prog 14 1 = some (1, 12) := by kernel_rfl
theorem places_18 : placesOf Try.prog 18 = some [(0, 1)] := by kernel_rfl
theorem field_18_0 : fieldOf Try.prog 18 0 = some (0, 17) := by kernel_rfl
theorem places_19 : placesOf Try.prog 19 = some [(0, 1)] := by kernel_rfl
theorem field_19_0 : fieldOf Try.prog 19 0 = some (0, 17) := by kernel_rfl
theorem places_39 : placesOf Try.prog 39 = some [(0, 1), (1, 1)] := by kernel_rfl
theorem places_48 : placesOf Try.prog 48 = some [(0, 1), (1, 1), (2, 1)] := by kernel_rfl
theorem field_48_0 : fieldOf Try.prog 48 0 = some (0, 22) := by kernel_rfl
theorem field_48_1 : fieldOf Try.prog 48 1 = some (1, 3) := by kernel_rfl
theorem field_48_2 : fieldOf Try.prog 48 2 = some (2, 47) := by kernel_rfl
theorem places_49 : placesOf Try.prog 49 = some [(0, 1), (1, 1), (2, 1)] := by kernel_rfl
theorem field_49_0 : fieldOf Try.prog 49 0 = some (0, 22) := by kernel_rfl
theorem field_49_1 : fieldOf Try.prog 49 1 = some (1, 3) := by kernel_rfl
theorem field_49_2 : fieldOf Try.prog 49 2 = some (2, 47) := by kernel_rfl
theorem places_69 : placesOf Try.prog 69 = some [(0, 1), (1, 1), (2, 1), (3, 1)] := by kernel_rfl
theorem field_69_0 : fieldOf Try.prog 69 0 = some (0, 17) := by kernel_rfl
theorem field_69_1 : fieldOf Try.prog 69 1 = some (1, 17) := by kernel_rfl
theorem field_69_2 : fieldOf Try.prog 69 2 = some (2, 17) := by kernel_rfl
theorem field_69_3 : fieldOf Try.prog 69 3 = some (3, 9) := by kernel_rfl
theorem places_70 : placesOf Try.prog 70 = some [(0, 1), (1, 1), (2, 1), (3, 1)] := by kernel_rfl
theorem field_70_0 : fieldOf Try.prog 70 0 = some (0, 17) := by kernel_rfl
theorem field_70_1 : fieldOf Try.prog 70 1 = some (1, 17) := by kernel_rfl
theorem field_70_2 : fieldOf Try.prog 70 2 = some (2, 17) := by kernel_rfl
theorem field_70_3 : fieldOf Try.prog 70 3 = some (3, 9) := by kernel_rfl
theorem places_71 : placesOf Try.prog 71 = some [] := by kernel_rfl
theorem places_72 : placesOf Try.prog 72 = some [(0, 0)] := by kernel_rfl
theorem field_72_0 : fieldOf Try.prog 72 0 = some (0, 71) := by kernel_rfl
theorem places_73 : placesOf Try.prog 73 = some [(0, 0)] := by kernel_rfl
theorem field_73_0 : fieldOf Try.prog 73 0 = some (0, 71) := by kernel_rfl
theorem places_82 : placesOf Try.prog 82 = some [(0, 1), (1, 1), (2, 1), (3, 1), (4, 1), (5, 1), (6, 1), (7, 1), (8, 1), (9, 1), (10, 1)] := by kernel_rfl
theorem field_82_0 : fieldOf Try.prog 82 0 = some (0, 12) := by kernel_rfl
theorem field_82_1 : fieldOf Try.prog 82 1 = some (1, 12) := by kernel_rfl
theorem field_82_2 : fieldOf Try.prog 82 2 = some (2, 75) := by kernel_rfl
theorem field_82_3 : fieldOf Try.prog 82 3 = some (3, 76) := by kernel_rfl
theorem field_82_4 : fieldOf Try.prog 82 4 = some (4, 5) := by kernel_rfl
theorem field_82_5 : fieldOf Try.prog 82 5 = some (5, 5) := by kernel_rfl
theorem field_82_6 : fieldOf Try.prog 82 6 = some (6, 77) := by kernel_rfl
theorem field_82_7 : fieldOf Try.prog 82 7 = some (7, 78) := by kernel_rfl
theorem places_83 : placesOf Try.prog 83 = some [(0, 1), (1, 1), (2, 1), (3, 1), (4, 1), (5, 1), (6, 1), (7, 1), (8, 1), (9, 1), (10, 1)] := by kernel_rfl
theorem field_83_0 : fieldOf Try.prog 83 0 = some (0, 12) := by kernel_rfl
theorem field_83_1 : fieldOf Try.prog 83 1 = some (1, 12) := by kernel_rfl
theorem field_83_2 : fieldOf Try.prog 83 2 = some (2, 75) := by kernel_rfl
theorem field_83_3 : fieldOf Try.prog 83 3 = some (3, 76) := by kernel_rfl
theorem field_83_4 : fieldOf Try.prog 83 4 = some (4, 5) := by kernel_rfl
theorem field_83_5 : fieldOf Try.prog 83 5 = some (5, 5) := by kernel_rfl
theorem field_83_6 : fieldOf Try.prog 83 6 = some (6, 77) := by kernel_rfl
theorem field_83_7 : fieldOf Try.prog 83 7 = some (7, 78) := by kernel_rfl
theorem mixed : Try.prog.follows .mixedOrders = true := by kernel_rfl
attribute [go_sem] tinfo_0 agg_0 Try.underlying0 tinfo_1 agg_1 Try.underlying1 tinfo_2 agg_2 Try.underlying2 tinfo_3 agg_3 Try.underlying3 tinfo_4 agg_4 Try.underlying4 tinfo_5 agg_5 Try.underlying5 tinfo_6 agg_6 Try.underlying6 tinfo_7 agg_7 Try.underlying7 tinfo_8 agg_8 Try.underlying8 tinfo_9 agg_9 Try.underlying9 tinfo_10 agg_10 Try.underlying10 tinfo_11 agg_11 Try.underlying11 tinfo_12 agg_12 Try.underlying12 tinfo_13 agg_13 Try.underlying13 tinfo_14 agg_14 Try.underlying14 tinfo_15 agg_15 Try.underlying15 tinfo_16 agg_16 Try.underlying16 tinfo_17 agg_17 Try.underlying17 tinfo_18 agg_18 Try.underlying18 tinfo_19 agg_19 Try.underlying19 tinfo_20 agg_20 Try.underlying20 tinfo_21 agg_21 Try.underlying21 tinfo_22 agg_22 Try.underlying22 tinfo_23 agg_23 Try.underlying23 tinfo_24 agg_24 Try.underlying24 tinfo_25 agg_25 Try.underlying25 tinfo_26 agg_26 Try.underlying26 tinfo_27 agg_27 Try.underlying27 tinfo_28 agg_28 Try.underlying28 tinfo_29 agg_29 Try.underlying29 tinfo_30 agg_30 Try.underlying30 tinfo_31 agg_31 Try.underlying31 tinfo_32 agg_32 Try.underlying32 tinfo_33 agg_33 Try.underlying33 tinfo_34 agg_34 Try.underlying34 tinfo_35 agg_35 Try.underlying35 tinfo_36 agg_36 Try.underlying36 tinfo_37 agg_37 Try.underlying37 tinfo_38 agg_38 Try.underlying38 tinfo_39 agg_39 Try.underlying39 tinfo_40 agg_40 Try.underlying40 tinfo_41 agg_41 Try.underlying41 tinfo_42 agg_42 Try.underlying42 tinfo_43 agg_43 Try.underlying43 tinfo_44 agg_44 Try.underlying44 tinfo_45 agg_45 Try.underlying45 tinfo_46 agg_46 Try.underlying46 tinfo_47 agg_47 Try.underlying47 tinfo_48 agg_48 Try.underlying48 tinfo_49 agg_49 Try.underlying49 tinfo_50 agg_50 Try.underlying50 tinfo_51 agg_51 Try.underlying51 tinfo_52 agg_52 Try.underlying52 tinfo_53 agg_53 Try.underlying53 tinfo_54 agg_54 Try.underlying54 tinfo_55 agg_55 Try.underlying55 tinfo_56 agg_56 Try.underlying56 tinfo_57 agg_57 Try.underlying57 tinfo_58 agg_58 Try.underlying58 tinfo_59 agg_59 Try.underlying59 tinfo_60 agg_60 Try.underlying60 tinfo_61 agg_61 Try.underlying61 tinfo_62 agg_62 Try.underlying62 tinfo_63 agg_63 Try.underlying63 tinfo_64 agg_64 Try.underlying64 tinfo_65 agg_65 Try.underlying65 tinfo_66 agg_66 Try.underlying66 tinfo_67 agg_67 Try.underlying67 tinfo_68 agg_68 Try.underlying68 tinfo_69 agg_69 Try.underlying69 tinfo_70 agg_70 Try.underlying70 tinfo_71 agg_71 Try.underlying71 tinfo_72 agg_72 Try.underlying72 tinfo_73 agg_73 Try.underlying73 tinfo_74 agg_74 Try.underlying74 tinfo_75 agg_75 Try.underlying75 tinfo_76 agg_76 Try.underlying76 tinfo_77 agg_77 Try.underlying77 tinfo_78 agg_78 Try.underlying78 tinfo_79 agg_79 Try.underlying79 tinfo_80 agg_80 Try.underlying80 tinfo_81 agg_81 Try.underlying81 tinfo_82 agg_82 Try.underlying82 tinfo_83 agg_83 Try.underlying83 tinfo_84 agg_84 Try.underlying84 places_7 field_7_0 field_7_1 field_7_2 field_7_3 places_8 field_8_0 field_8_1 field_8_2 field_8_3 places_13 field_13_0 field_13_1 places_14 field_14_0 field_14_1 places_18 field_18_0 places_19 field_19_0 places_39 places_48 field_48_0 field_48_1 field_48_2 places_49 field_49_0 field_49_1 field_49_2 places_69 field_69_0 field_69_1 field_69_2 field_69_3 places_70 field_70_0 field_70_1 field_70_2 field_70_3 places_71 places_72 field_72_0 places_73 field_73_0 places_82 field_82_0 field_82_1 field_82_2 field_82_3 field_82_4 field_82_5 field_82_6 field_82_7 places_83 field_83_0 field_83_1 field_83_2 field_83_3 field_83_4 field_83_5 field_83_6 field_83_7
end Go.AM
