/- Ty LCand CmD CmE CmF CmG CmH CmI CmJ LBnd LTree VL TA -/
import Derived.Test.YtapjfgddbfneaaaGreatProg
import Derived.Test.YtapjfgddbfneaaaGreatg10
import Derived.Test.YtapjfgddbfneaaaGreatg11
namespace Go.AM
open Go Go.Proofs
theorem tinfo_3 : tinfo Tryz.prog 3 = some (1, 8, some (Value.int IntKind.i64 (0))) := by kernel_rfl
theorem agg_3 : aggT Tryz.prog 3 = some false := by kernel_rfl
theorem tinfo_4 : tinfo Tryz.prog 4 = some (1, 1, some (Value.bool false)) := by kernel_rfl
theorem tinfo_5 : tinfo Tryz.prog 5 = some (1, 1, some (Value.int IntKind.u8 (0))) := by kernel_rfl
theorem agg_5 : aggT Tryz.prog 5 = some false := by kernel_rfl
theorem tinfo_9 : tinfo Tryz.prog 9 = some (1, 16, some (Value.string (ByteArray.mk (List.toArray [])))) := by kernel_rfl
theorem agg_9 : aggT Tryz.prog 9 = some false := by kernel_rfl
theorem tinfo_22 : tinfo Tryz.prog 22 = some (1, 24, some (Value.slice none 0 0)) := by kernel_rfl
theorem agg_22 : aggT Tryz.prog 22 = some false := by kernel_rfl
theorem tinfo_26 : tinfo Tryz.prog 26 = some (1, 24, some (Value.slice none 0 0)) := by kernel_rfl
theorem agg_26 : aggT Tryz.prog 26 = some false := by kernel_rfl
theorem tinfo_27 : tinfo Tryz.prog 27 = some (1, 24, some (Value.slice none 0 0)) := by kernel_rfl
theorem agg_27 : aggT Tryz.prog 27 = some false := by kernel_rfl
theorem tinfo_28 : tinfo Tryz.prog 28 = some (1, 24, some (Value.slice none 0 0)) := by kernel_rfl
theorem agg_28 : aggT Tryz.prog 28 = some false := by kernel_rfl
theorem tinfo_29 : tinfo Tryz.prog 29 = some (1, 24, some (Value.slice none 0 0)) := by kernel_rfl
theorem agg_29 : aggT Tryz.prog 29 = some false := by kernel_rfl
theorem tinfo_31 : tinfo Tryz.prog 31 = some (2, 32, some (Value.agg (List.toArray [Value.int IntKind.i64 (0), Value.slice none 0 0]))) := by kernel_rfl
theorem agg_31 : aggT Tryz.prog 31 = some true := by kernel_rfl
theorem tinfo_33 : tinfo Tryz.prog 33 = some (10, 176, some (Value.agg (List.toArray [Value.int IntKind.i64 (0), Value.slice none 0 0, Value.slice none 0 0, Value.slice none 0 0, Value.slice none 0 0, Value.int IntKind.i64 (0), Value.int IntKind.i64 (0), Value.slice none 0 0, Value.int IntKind.i64 (0), Value.slice none 0 0]))) := by kernel_rfl
theorem agg_33 : aggT Tryz.prog 33 = some true := by kernel_rfl
theorem tinfo_35 : tinfo Tryz.prog 35 = some (1, 24, some (Value.slice none 0 0)) := by kernel_rfl
theorem agg_35 : aggT Tryz.prog 35 = some false := by kernel_rfl
theorem tinfo_37 : tinfo Tryz.prog 37 = some (2, 32, some (Value.agg (List.toArray [Value.slice none 0 0, Value.int IntKind.i64 (0)]))) := by kernel_rfl
theorem agg_37 : aggT Tryz.prog 37 = some true := by kernel_rfl
theorem tinfo_45 : tinfo Tryz.prog 45 = some (1, 24, some (Value.slice none 0 0)) := by kernel_rfl
theorem agg_45 : aggT Tryz.prog 45 = some false := by kernel_rfl
theorem tinfo_49 : tinfo Tryz.prog 49 = some (3, 40, some (Value.agg (List.toArray [Value.int IntKind.i64 (0), Value.int IntKind.i64 (0), Value.slice none 0 0]))) := by kernel_rfl
theorem agg_49 : aggT Tryz.prog 49 = some true := by kernel_rfl
theorem tinfo_55 : tinfo Tryz.prog 55 = some (2, 48, some (Value.agg (List.toArray [Value.slice none 0 0, Value.slice none 0 0]))) := by kernel_rfl
theorem agg_55 : aggT Tryz.prog 55 = some true := by kernel_rfl
theorem tinfo_61 : tinfo Tryz.prog 61 = some (2, 32, some (Value.agg (List.toArray [Value.int IntKind.i64 (0), Value.slice none 0 0]))) := by kernel_rfl
theorem agg_61 : aggT Tryz.prog 61 = some true := by kernel_rfl
theorem tinfo_71 : tinfo Tryz.prog 71 = some (2, 32, some (Value.agg (List.toArray [Value.slice none 0 0, Value.int IntKind.i64 (0)]))) := by kernel_rfl
theorem tinfo_74 : tinfo Tryz.prog 74 = some (1, 24, some (Value.slice none 0 0)) := by kernel_rfl
theorem agg_74 : aggT Tryz.prog 74 = some false := by kernel_rfl
theorem tinfo_76 : tinfo Tryz.prog 76 = some (14, 232, some (Value.agg (List.toArray [Value.string (ByteArray.mk (List.toArray [])), Value.int IntKind.i64 (0), Value.int IntKind.i64 (0), Value.slice none 0 0, Value.slice none 0 0, Value.slice none 0 0, Value.int IntKind.i64 (0), Value.int IntKind.i64 (0), Value.int IntKind.i64 (0), Value.slice none 0 0, Value.slice none 0 0, Value.slice none 0 0, Value.slice none 0 0, Value.int IntKind.i64 (0)]))) := by kernel_rfl
theorem agg_76 : aggT Tryz.prog 76 = some true := by kernel_rfl
theorem tinfo_83 : tinfo Tryz.prog 83 = some (4, 48, some (Value.agg (List.toArray [Value.int IntKind.i64 (0), Value.slice none 0 0, Value.int IntKind.i64 (0), Value.int IntKind.i64 (0)]))) := by kernel_rfl
theorem agg_83 : aggT Tryz.prog 83 = some true := by kernel_rfl
theorem tinfo_100 : tinfo Tryz.prog 100 = some (13, 232, some (Value.agg (List.toArray [Value.int IntKind.i64 (0), Value.slice none 0 0, Value.slice none 0 0, Value.slice none 0 0, Value.slice none 0 0, Value.int IntKind.i64 (0), Value.int IntKind.i64 (0), Value.slice none 0 0, Value.int IntKind.i64 (0), Value.slice none 0 0, Value.int IntKind.i64 (0), Value.slice none 0 0, Value.slice none 0 0]))) := by kernel_rfl
theorem agg_116 : aggT Tryz.prog 116 = some false := by kernel_rfl
theorem tinfo_136 : tinfo Tryz.prog 136 = some (1, 24, some (Value.slice none 0 0)) := by kernel_rfl
theorem agg_136 : aggT Tryz.prog 136 = some false := by kernel_rfl
theorem tinfo_138 : tinfo Tryz.prog 138 = some (4, 64, some (Value.agg (List.toArray [Value.int IntKind.i64 (0), Value.int IntKind.i64 (0), Value.slice none 0 0, Value.slice none 0 0]))) := by kernel_rfl
theorem agg_138 : aggT Tryz.prog 138 = some true := by kernel_rfl
theorem tinfo_171 : tinfo Tryz.prog 171 = some (2, 16, some (Value.agg (List.toArray [Value.int IntKind.i64 (0), Value.int IntKind.i64 (0)]))) := by kernel_rfl
theorem tinfo_173 : tinfo Tryz.prog 173 = some (8, 64, some (Value.agg (List.toArray [Value.int IntKind.i64 (0), Value.int IntKind.i64 (0), Value.int IntKind.i64 (0), Value.int IntKind.i64 (0), Value.int IntKind.i64 (0), Value.int IntKind.i64 (0), Value.int IntKind.i64 (0), Value.int IntKind.i64 (0)]))) := by kernel_rfl
theorem agg_173 : aggT Tryz.prog 173 = some true := by kernel_rfl
theorem tinfo_193 : tinfo Tryz.prog 193 = some (3, 24, some (Value.agg (List.toArray [Value.int IntKind.i64 (0), Value.int IntKind.i64 (0), Value.int IntKind.i64 (0)]))) := by kernel_rfl
theorem agg_193 : aggT Tryz.prog 193 = some true := by kernel_rfl
theorem places_31 : placesOf Tryz.prog 31 = some [(0, 1), (1, 1)] := by kernel_rfl
theorem field_31_0 : fieldOf Tryz.prog 31 0 = some (0, 3) := by kernel_rfl
theorem field_31_1 : fieldOf Tryz.prog 31 1 = some (1, 29) := by kernel_rfl
theorem places_33 : placesOf Tryz.prog 33 = some [(0, 1), (1, 1), (2, 1), (3, 1), (4, 1), (5, 1), (6, 1), (7, 1), (8, 2)] := by kernel_rfl
theorem field_33_0 : fieldOf Tryz.prog 33 0 = some (0, 3) := by kernel_rfl
theorem field_33_1 : fieldOf Tryz.prog 33 1 = some (1, 26) := by kernel_rfl
theorem field_33_2 : fieldOf Tryz.prog 33 2 = some (2, 26) := by kernel_rfl
theorem field_33_3 : fieldOf Tryz.prog 33 3 = some (3, 26) := by kernel_rfl
theorem field_33_4 : fieldOf Tryz.prog 33 4 = some (4, 27) := by kernel_rfl
theorem field_33_5 : fieldOf Tryz.prog 33 5 = some (5, 3) := by kernel_rfl
theorem field_33_6 : fieldOf Tryz.prog 33 6 = some (6, 3) := by kernel_rfl
theorem field_33_7 : fieldOf Tryz.prog 33 7 = some (7, 28) := by kernel_rfl
theorem field_33_8 : fieldOf Tryz.prog 33 8 = some (8, 31) := by kernel_rfl
theorem places_37 : placesOf Tryz.prog 37 = some [(0, 1), (1, 1)] := by kernel_rfl
theorem field_37_0 : fieldOf Tryz.prog 37 0 = some (0, 35) := by kernel_rfl
theorem field_37_1 : fieldOf Tryz.prog 37 1 = some (1, 3) := by kernel_rfl
theorem places_49 : placesOf Tryz.prog 49 = some [(0, 1), (1, 2)] := by kernel_rfl
theorem field_49_1 : fieldOf Tryz.prog 49 1 = some (1, 31) := by kernel_rfl
theorem places_55 : placesOf Tryz.prog 55 = some [(0, 1), (1, 1)] := by kernel_rfl
theorem field_55_0 : fieldOf Tryz.prog 55 0 = some (0, 27) := by kernel_rfl
theorem field_55_1 : fieldOf Tryz.prog 55 1 = some (1, 27) := by kernel_rfl
theorem places_61 : placesOf Tryz.prog 61 = some [(0, 1), (1, 1)] := by kernel_rfl
theorem field_61_0 : fieldOf Tryz.prog 61 0 = some (0, 3) := by kernel_rfl
theorem field_61_1 : fieldOf Tryz.prog 61 1 = some (1, 27) := by kernel_rfl
theorem places_71 : placesOf Tryz.prog 71 = some [(0, 1), (1, 1)] := by kernel_rfl
theorem field_71_0 : fieldOf Tryz.prog 71 0 = some (0, 22) := by kernel_rfl
theorem field_71_1 : fieldOf Tryz.prog 71 1 = some (1, 3) := by kernel_rfl
theorem places_76 : placesOf Tryz.prog 76 = some [(0, 1), (1, 1), (2, 1), (3, 1), (4, 1), (5, 1), (6, 1), (7, 1), (8, 1), (9, 1), (10, 1), (11, 1), (12, 1), (13, 1)] := by kernel_rfl
theorem field_76_0 : fieldOf Tryz.prog 76 0 = some (0, 9) := by kernel_rfl
theorem field_76_1 : fieldOf Tryz.prog 76 1 = some (1, 3) := by kernel_rfl
theorem field_76_2 : fieldOf Tryz.prog 76 2 = some (2, 3) := by kernel_rfl
theorem field_76_3 : fieldOf Tryz.prog 76 3 = some (3, 27) := by kernel_rfl
theorem field_76_4 : fieldOf Tryz.prog 76 4 = some (4, 27) := by kernel_rfl
theorem field_76_5 : fieldOf Tryz.prog 76 5 = some (5, 27) := by kernel_rfl
theorem field_76_6 : fieldOf Tryz.prog 76 6 = some (6, 3) := by kernel_rfl
theorem field_76_7 : fieldOf Tryz.prog 76 7 = some (7, 3) := by kernel_rfl
theorem field_76_8 : fieldOf Tryz.prog 76 8 = some (8, 3) := by kernel_rfl
theorem field_76_9 : fieldOf Tryz.prog 76 9 = some (9, 27) := by kernel_rfl
theorem field_76_10 : fieldOf Tryz.prog 76 10 = some (10, 27) := by kernel_rfl
theorem field_76_11 : fieldOf Tryz.prog 76 11 = some (11, 74) := by kernel_rfl
theorem field_76_12 : fieldOf Tryz.prog 76 12 = some (12, 27) := by kernel_rfl
theorem field_76_13 : fieldOf Tryz.prog 76 13 = some (13, 3) := by kernel_rfl
theorem places_83 : placesOf Tryz.prog 83 = some [(0, 1), (1, 1), (2, 1), (3, 1)] := by kernel_rfl
theorem field_83_0 : fieldOf Tryz.prog 83 0 = some (0, 3) := by kernel_rfl
theorem field_83_1 : fieldOf Tryz.prog 83 1 = some (1, 27) := by kernel_rfl
theorem field_83_2 : fieldOf Tryz.prog 83 2 = some (2, 3) := by kernel_rfl
theorem places_100 : placesOf Tryz.prog 100 = some [(0, 10), (10, 1), (11, 1), (12, 1)] := by kernel_rfl
theorem field_100_0 : fieldOf Tryz.prog 100 0 = some (0, 33) := by kernel_rfl
theorem field_100_1 : fieldOf Tryz.prog 100 1 = some (10, 3) := by kernel_rfl
theorem field_100_2 : fieldOf Tryz.prog 100 2 = some (11, 27) := by kernel_rfl
theorem field_100_3 : fieldOf Tryz.prog 100 3 = some (12, 45) := by kernel_rfl
theorem places_138 : placesOf Tryz.prog 138 = some [(0, 1), (1, 1), (2, 1), (3, 1)] := by kernel_rfl
theorem field_138_0 : fieldOf Tryz.prog 138 0 = some (0, 3) := by kernel_rfl
theorem field_138_1 : fieldOf Tryz.prog 138 1 = some (1, 3) := by kernel_rfl
theorem field_138_2 : fieldOf Tryz.prog 138 2 = some (2, 27) := by kernel_rfl
theorem field_138_3 : fieldOf Tryz.prog 138 3 = some (3, 136) := by kernel_rfl
theorem places_171 : placesOf Tryz.prog 171 = some [(0, 1), (1, 1)] := by kernel_rfl
theorem places_173 : placesOf Tryz.prog 173 = some [(0, 2), (2, 2), (4, 2), (6, 2)] := by kernel_rfl
theorem field_173_0 : fieldOf Tryz.prog 173 0 = some (0, 171) := by kernel_rfl
theorem field_173_1 : fieldOf Tryz.prog 173 1 = some (2, 171) := by kernel_rfl
theorem field_173_2 : fieldOf Tryz.prog 173 2 = some (4, 171) := by kernel_rfl
theorem field_173_3 : fieldOf Tryz.prog 173 3 = some (6, 171) := by kernel_rfl
theorem mixed : Tryz.prog.follows .mixedOrders = true := by kernel_rfl
attribute [go_sem] Tryz.underlying0 Tryz.underlying1 Tryz.underlying2 tinfo_3 agg_3 Tryz.underlying3 tinfo_4 Tryz.underlying4 tinfo_5 agg_5 Tryz.underlying5 Tryz.underlying6 Tryz.underlying7 Tryz.underlying8 tinfo_9 agg_9 Tryz.underlying9 Tryz.underlying10 Tryz.underlying11 Tryz.underlying12 Tryz.underlying13 Tryz.underlying14 Tryz.underlying15 Tryz.underlying16 Tryz.underlying17 Tryz.underlying18 Tryz.underlying19 Tryz.underlying20 Tryz.underlying21 tinfo_22 agg_22 Tryz.underlying22 Tryz.underlying23 Tryz.underlying24 Tryz.underlying25 tinfo_26 agg_26 Tryz.underlying26 tinfo_27 agg_27 Tryz.underlying27 tinfo_28 agg_28 Tryz.underlying28 tinfo_29 agg_29 Tryz.underlying29 Tryz.underlying30 tinfo_31 agg_31 Tryz.underlying31 Tryz.underlying32 tinfo_33 agg_33 Tryz.underlying33 Tryz.underlying34 tinfo_35 agg_35 Tryz.underlying35 Tryz.underlying36 tinfo_37 agg_37 Tryz.underlying37 Tryz.underlying38 Tryz.underlying39 Tryz.underlying40 Tryz.underlying41 Tryz.underlying42 Tryz.underlying43 Tryz.underlying44 tinfo_45 agg_45 Tryz.underlying45 Tryz.underlying46 Tryz.underlying47 Tryz.underlying48 tinfo_49 agg_49 Tryz.underlying49 Tryz.underlying50 Tryz.underlying51 Tryz.underlying52 Tryz.underlying53 Tryz.underlying54 tinfo_55 agg_55 Tryz.underlying55 Tryz.underlying56 Tryz.underlying57 Tryz.underlying58 Tryz.underlying59 Tryz.underlying60 tinfo_61 agg_61 Tryz.underlying61 Tryz.underlying62 Tryz.underlying63 Tryz.underlying64 Tryz.underlying65 Tryz.underlying66 Tryz.underlying67 Tryz.underlying68 Tryz.underlying69 Tryz.underlying70 tinfo_71 Tryz.underlying71 Tryz.underlying72 Tryz.underlying73 tinfo_74 agg_74 Tryz.underlying74 Tryz.underlying75 tinfo_76 agg_76 Tryz.underlying76 Tryz.underlying77 Tryz.underlying78 Tryz.underlying79 Tryz.underlying80 Tryz.underlying81 Tryz.underlying82 tinfo_83 agg_83 Tryz.underlying83 Tryz.underlying84 Tryz.underlying85 Tryz.underlying86 Tryz.underlying87 Tryz.underlying88 Tryz.underlying89 Tryz.underlying90 Tryz.underlying91 Tryz.underlying92 Tryz.underlying93 Tryz.underlying94 Tryz.underlying95 Tryz.underlying96 Tryz.underlying97 Tryz.underlying98 Tryz.underlying99 tinfo_100 Tryz.underlying100 Tryz.underlying101 Tryz.underlying102 Tryz.underlying103 Tryz.underlying104 Tryz.underlying105 Tryz.underlying106 Tryz.underlying107 Tryz.underlying108 Tryz.underlying109 Tryz.underlying110 Tryz.underlying111 Tryz.underlying112 Tryz.underlying113 Tryz.underlying114 Tryz.underlying115 agg_116 Tryz.underlying116 Tryz.underlying117 Tryz.underlying118 Tryz.underlying119 Tryz.underlying120 Tryz.underlying121 Tryz.underlying122 Tryz.underlying123 Tryz.underlying124 Tryz.underlying125 Tryz.underlying126 Tryz.underlying127 Tryz.underlying128 Tryz.underlying129 Tryz.underlying130 Tryz.underlying131 Tryz.underlying132 Tryz.underlying133 Tryz.underlying134 Tryz.underlying135 tinfo_136 agg_136 Tryz.underlying136 Tryz.underlying137 tinfo_138 agg_138 Tryz.underlying138 Tryz.underlying139 Tryz.underlying140 Tryz.underlying141 Tryz.underlying142 Tryz.underlying143 Tryz.underlying144 Tryz.underlying145 Tryz.underlying146 Tryz.underlying147 Tryz.underlying148 Tryz.underlying149 Tryz.underlying150 Tryz.underlying151 Tryz.underlying152 Tryz.underlying153 Tryz.underlying154 Tryz.underlying155 Tryz.underlying156 Tryz.underlying157 Tryz.underlying158 Tryz.underlying159 Tryz.underlying160 Tryz.underlying161 Tryz.underlying162 Tryz.underlying163 Tryz.underlying164 Tryz.underlying165 Tryz.underlying166 Tryz.underlying167 Tryz.underlying168 Tryz.underlying169 Tryz.underlying170 tinfo_171 Tryz.underlying171 Tryz.underlying172 tinfo_173 agg_173 Tryz.underlying173 Tryz.underlying174 Tryz.underlying175 Tryz.underlying176 Tryz.underlying177 Tryz.underlying178 Tryz.underlying179 Tryz.underlying180 Tryz.underlying181 Tryz.underlying182 Tryz.underlying183 Tryz.underlying184 Tryz.underlying185 Tryz.underlying186 Tryz.underlying187 Tryz.underlying188 Tryz.underlying189 Tryz.underlying190 Tryz.underlying191 Tryz.underlying192 tinfo_193 agg_193 Tryz.underlying193 Tryz.underlying194 Tryz.underlying195 Tryz.underlying196 Tryz.underlying197 Tryz.underlying198 Tryz.underlying199 Tryz.underlying200 Tryz.underlying201 Tryz.underlying202 Tryz.underlying203 Tryz.underlying204 Tryz.underlying205 Tryz.underlying206 Tryz.underlying207 Tryz.underlying208 Tryz.underlying209 Tryz.underlying210 Tryz.underlying211 Tryz.underlying212 Tryz.underlying213 Tryz.underlying214 Tryz.underlying215 Tryz.underlying216 Tryz.underlying217 Tryz.underlying218 Tryz.underlying219 Tryz.underlying220 Tryz.underlying221 Tryz.underlying222 Tryz.underlying223 Tryz.underlying224 Tryz.underlying225 Tryz.underlying226 Tryz.underlying227 Tryz.underlying228 Tryz.underlying229 Tryz.underlying230 Tryz.underlying231 Tryz.underlying232 Tryz.underlying233 Tryz.underlying234 Tryz.underlying235 Tryz.underlying236 Tryz.underlying237 Tryz.underlying238 places_31 field_31_0 field_31_1 places_33 field_33_0 field_33_1 field_33_2 field_33_3 field_33_4 field_33_5 field_33_6 field_33_7 field_33_8 places_37 field_37_0 field_37_1 places_49 field_49_1 places_55 field_55_0 field_55_1 places_61 field_61_0 field_61_1 places_71 field_71_0 field_71_1 places_76 field_76_0 field_76_1 field_76_2 field_76_3 field_76_4 field_76_5 field_76_6 field_76_7 field_76_8 field_76_9 field_76_10 field_76_11 field_76_12 field_76_13 places_83 field_83_0 field_83_1 field_83_2 places_100 field_100_0 field_100_1 field_100_2 field_100_3 places_138 field_138_0 field_138_1 field_138_2 field_138_3 places_171 places_173 field_173_0 field_173_1 field_173_2 field_173_3
end Go.AM
namespace Go.AM
end Go.AM
namespace Go.AM
open Go Go.Proofs Go.RowKit
set_option maxRecDepth 100000
def diceA (l : List Int) (at_ : Nat) : List AV := [.sl 0 1 (l.map vu), .sc (.int .i64 at_)]
attribute [go_sem] diceA
def Seeds (l : List Int) : Prop := l.length <= 200 /\ ∀ x ∈ l, 0 <= x /\ x < 256
theorem con_new (l : List Int) (hl : l.length <= 9223372036854775807) : Con Tryz.prog 8 [.sl 0 1 (l.map vu)] [] fun r b => r = .pb 0 0 /\ b = [diceA (l.take 200) 0] := by
 refine Con.intro Tryz.func8 rfl Tryz.ntmps8 Tryz.results8 (by kernel_rfl) (by simp) 1 (by simp) ?_
 by_cases h : (200 : Int) < l.length
 ·have h2 : 200 <= l.length := by omega
  simp only [go_sem, h, h2]
  simp [List.map_take]
 ·have e : l.take 200 = l := List.take_of_length_le (by omega)
  simp only [go_sem, h, e]
def pickV (l : List Int) (at_ : Nat) (n : Int) : Int := if l.length <= at_ then 0 else l[at_]! % n
def pickA (l : List Int) (at_ : Nat) : Nat := if l.length <= at_ then at_ else at_ + 1
theorem pickV_lt {l : List Int} {at_ : Nat} {n : Int} (hn : 1 <= n) : 0 <= pickV l at_ n /\ pickV l at_ n < n := by
 unfold pickV
 split
 ·omega
 ·exact ⟨Int.emod_nonneg _ (by omega), Int.emod_lt_of_pos _ (by omega)⟩
theorem pickA_le {l : List Int} {at_ : Nat} (h : at_ <= l.length) : pickA l at_ <= l.length := by
 unfold pickA; split <;> omega
theorem con_pickF (l : List Int) (at_ : Nat) (n : Int) (hs : Seeds l) (_ha : at_ <= l.length) (hn : 1 <= n) : Con Tryz.prog 23 [.pb 0 0, vi n] [diceA l at_]
  fun r b => r = vi (pickV l at_ n) /\ b = [diceA l (pickA l at_)] := by
 refine Con.intro Tryz.func23 rfl Tryz.ntmps23 Tryz.results23 (by kernel_rfl) (by simp) 1 (by simp) ?_
 have hl := hs.1
 simp only [go_sem]
 refine DrawK.walk 9 mixed (by kernel_rfl) ?_
 by_cases hh : l.length <= at_
 ·have e1 : pickV l at_ n = 0 := by unfold pickV; rw [if_pos hh]
  have e2 : pickA l at_ = at_ := by unfold pickA; rw [if_pos hh]
  simp only [go_sem, hh, e1, e2]
 ·have h : at_ < l.length := by omega
  have hg := getu h
  have hw : IntKind.i64.wrap (at_ + 1) = at_ + 1 := wrap_in (by omega) (by omega)
  have hw2 : IntKind.i64.wrap ((at_ : Int) + 1 - 1) = at_ := by rw [wrap_in (by omega) (by omega)]; omega
  have hx := hs.2 l[at_]! (by simp [h])
  have hw3 : IntKind.i64.wrap l[at_]! = l[at_]! := wrap_in (by omega) (by omega)
  have e1 : pickV l at_ n = Int.tmod l[at_]! n := by unfold pickV; rw [if_neg hh, Int.tmod_eq_emod_of_nonneg hx.1]
  have e2 : pickA l at_ = at_ + 1 := by unfold pickA; rw [if_neg hh]
  simp only [go_sem, hh, hw]
  refine DrawK.walk 14 mixed (by kernel_rfl) ?_
  simp only [go_sem, h, hg, hw2, hw3, e1, e2]
  exact fun h => by omega
theorem con_between (x low high : Int) : Con Tryz.prog 101 [vi x, vi low, vi high] [] fun r _ => r = vb (betweenB x low high) := by
 refine Con.intro Tryz.func101 rfl Tryz.ntmps101 Tryz.results101 (by kernel_rfl) (by simp) 0 (by simp) ?_
 unfold betweenB
 by_cases h1 : low <= x
 ·by_cases h2 : x <= high
  ·simp only [go_sem, h1, h2, Bool.and_true]
  ·simp only [go_sem, h1, h2, Bool.and_false]
 ·simp only [go_sem, h1, Bool.false_and]
theorem con_index (x : Int) (n : Int) (h1 : 0 <= n) (h2 : n <= 9223372036854775807) : Con Tryz.prog 138 [vi x, vi n] [] fun r _ => r = vb (decide (0 <= x) && decide (x < n)) := by
 refine Con.intro Tryz.func138 rfl Tryz.ntmps138 Tryz.results138 (by kernel_rfl) (by simp) 0 (by simp) ?_
 have hw : IntKind.i64.wrap (n - 1) = n - 1 := wrap_in (by omega) (by omega)
 have e : betweenB x 0 (n - 1) = (decide (0 <= x) && decide (x < n)) := by
  unfold betweenB
  congr 1
  exact decide_eq_decide.2 (by omega)
 simp only [go_sem, hw]
 refine CallU.free (con_between x 0 (n - 1)) (by simp only [go_sem]) (by simp only [go_sem]) ?_
 rintro r bx rfl
 simp only [go_sem, e]
def SmallI (B : Int) (l : List Int) : Prop := ∀ x ∈ l, -B <= x /\ x <= B
def vAtom (a : AtomD) : AV := .ag [vs 0 a.coefs, vi a.mod, vs 0 a.values]
attribute [go_sem] vAtom
theorem con_numbers (n : Int) (x : CV) (l : List CV) (hl : l.length <= 1000000) : Con Tryz.prog 35 [.ag [vi n, .sl 0 2 ((x :: l).map vV)]] [] fun r _ => r = vs 2 (l.map CV.n) := by
 refine Con.intro Tryz.func35 rfl Tryz.ntmps35 Tryz.results35 (by kernel_rfl) (by simp) 0 (by simp) ?_
 have hd : (1 : Nat) <= (x :: l).length := by simp
 have ht : List.take l.length (l.map vV) = l.map vV := List.take_of_length_le (by simp)
 simp only [go_sem, List.map_cons]
 refine ⟨Nat.le_refl _, ?_⟩
 rw [ht]
 refine LoopK.intro (fun i : Nat => ⟨21, [(3, vs 1216 ((l.take i).map CV.n)), (8, .sl 0 2 (l.map vV)), (9, vi l.length), (10, vi i)], [vi n, .sl 0 2 ((x :: l).map vV)] :: Rk 2 i⟩)
  (fun i => l.length - i) (fun i => i <= l.length) 0 (by omega) ?_ ?_
 ·simp only [go_sem]
  all_goals exact leB_self _
 rintro i hi
 by_cases h : i < l.length
 ·have hg := getvV h
  have hw : IntKind.i64.wrap (i + 1) = i + 1 := wrap_in (by omega) (by omega)
  have hB := Rk_len 2 i
  have n0 := fun L : List (List AV) => app_at0 (L := L) hB
  have s0 := fun (L : List (List AV)) z => app_set0 (L := L) (z := z) hB
  have e : (l.take (i + 1)).map CV.n = (l.take i).map CV.n ++ [l[i]!.n] := by
   rw [List.take_add_one, List.getElem?_eq_getElem h, getElem!_pos l i h, List.map_append]; rfl
  simp only [go_sem, h, hg, hw, hB, n0, s0]
  refine ⟨by unfold roomFor; rw [List.length_take]; omega, ?_⟩
  refine roundK.intro (i + 1) (by omega) (by omega) ?_
  simp only [go_sem, Rk_succ, e]
  refine ⟨?_, leB_RkA (x := [[_, _]]) (y := [List.replicate 2 .any]) ⟨⟨leV_any _, leV_any _, trivial⟩, trivial⟩⟩
  rw [List.map_append, List.map_map]
  exact leV_refl _
 ·have hi2 : i = l.length := by omega
  have e2 : l.take i = l := by rw [hi2, List.take_length]
  simp only [go_sem, h, e2]
def u8v (c : UInt8) : AV := .sc (.int .u8 c.toNat)
attribute [go_sem] u8v vStr vss
theorem u8_low {k c : UInt8} {n : Nat} (h : k.toNat = n) : k <= c ↔ (n : Int) <= (c.toNat : Int) := UInt8.le_iff_toNat_le.trans (by rw [h]; omega)
theorem u8_high {k c : UInt8} {n : Nat} (h : k.toNat = n) : c <= k ↔ (c.toNat : Int) <= (n : Int) := UInt8.le_iff_toNat_le.trans (by rw [h]; omega)
theorem letterB_eq (c : UInt8) : letterB c = (decide ((97 : Int) <= (c.toNat : Int)) && decide ((c.toNat : Int) <= 122)) := by
 unfold letterB
 rw [decide_eq_decide.2 (u8_low (k := 97) (c := c) (n := 97) rfl), decide_eq_decide.2 (u8_high (k := 122) (c := c) (n := 122) rfl)]; rfl
theorem digitB_eq (c : UInt8) : digitB c = (decide ((48 : Int) <= (c.toNat : Int)) && decide ((c.toNat : Int) <= 57)) := by
 unfold digitB
 rw [decide_eq_decide.2 (u8_low (k := 48) (c := c) (n := 48) rfl), decide_eq_decide.2 (u8_high (k := 57) (c := c) (n := 57) rfl)]; rfl
theorem u8_eq {k c : UInt8} {n : Nat} (h : k.toNat = n) : (c == k) = (((c.toNat : Int)) == (n : Int)) := by
 rw [Bool.eq_iff_iff, beq_iff_eq, beq_iff_eq, <- UInt8.toNat_inj, h]; omega
theorem con_letter (c : UInt8) : Con Tryz.prog 167 [u8v c] [] fun r _ => r = vb (letterB c) := by
 refine Con.intro Tryz.func167 rfl Tryz.ntmps167 Tryz.results167 (by kernel_rfl) (by simp) 0 (by simp) ?_
 rw [letterB_eq]
 by_cases h1 : (97 : Int) <= (c.toNat : Int)
 ·by_cases h2 : (c.toNat : Int) <= 122
  ·simp only [go_sem, h1, h2, Bool.and_true]
  ·simp only [go_sem, h1, h2, Bool.and_false]
 ·simp only [go_sem, h1, Bool.false_and]
theorem con_digit (c : UInt8) : Con Tryz.prog 193 [u8v c] [] fun r _ => r = vb (digitB c) := by
 refine Con.intro Tryz.func193 rfl Tryz.ntmps193 Tryz.results193 (by kernel_rfl) (by simp) 0 (by simp) ?_
 rw [digitB_eq]
 by_cases h1 : (48 : Int) <= (c.toNat : Int)
 ·by_cases h2 : (c.toNat : Int) <= 57
  ·simp only [go_sem, h1, h2, Bool.and_true]
  ·simp only [go_sem, h1, h2, Bool.and_false]
 ·simp only [go_sem, h1, Bool.false_and]
theorem con_part (c : UInt8) : Con Tryz.prog 169 [u8v c] [] fun r _ => r = vb (partB c) := by
 refine Con.intro Tryz.func169 rfl Tryz.ntmps169 Tryz.results169 (by kernel_rfl) (by simp) 0 (by simp) ?_
 unfold partB
 rw [u8_eq (k := 95) (c := c) (n := 95) rfl]
 simp only [go_sem]
 refine CallU.free (con_letter c) (by simp only [go_sem]) (by simp only [go_sem]) ?_
 rintro r bx rfl
 cases h1 : letterB c
 ·simp only [go_sem]
  refine CallU.free (con_digit c) (by simp only [go_sem]) (by simp only [go_sem]) ?_
  rintro r bx rfl
  cases h2 : digitB c
  ·simp only [go_sem]
   all_goals simp
  ·simp only [go_sem]
   all_goals simp
 ·simp only [go_sem]
  all_goals simp
def runL (p : UInt8 -> Bool) (l : List UInt8) : Nat := (l.takeWhile p).length
theorem run_stop {p : UInt8 -> Bool} : ∀ {l : List UInt8} {i : Nat}, (∀ j, j < i -> p l[j]! = true) -> i <= l.length -> (i < l.length -> p l[i]! = false) -> runL p l = i
 | [], i, _, h2, _ => by simp at h2; subst h2; rfl
 | x :: l, 0, _, _, h3 => by
  have := h3 (by simp)
  simp at this
  simp [runL, this]
 | x :: l, i + 1, h1, h2, h3 => by
  have hx := h1 0 (by omega)
  simp at hx
  have := run_stop (p := p) (l := l) (i := i) (fun j hj => by simpa using h1 (j + 1) (by omega)) (by simpa using h2) (fun h => by simpa using h3 (by simpa using h))
  unfold runL at *
  rw [List.takeWhile_cons, hx, if_pos rfl, List.length_cons, this]
theorem run_all {p : UInt8 -> Bool} {l : List UInt8} : (runL p l == l.length) = l.all p := by
 unfold runL
 induction l with
 | nil => rfl
 | cons x l ih =>
  cases h : p x
  ·simp [h]
  ·simp only [List.takeWhile_cons, h, if_true, List.length_cons, List.all_cons, Bool.true_and]
   rw [<- ih]
   rw [Bool.eq_iff_iff]; simp
theorem ba_get {s : ByteArray} {i : Nat} (h : i < s.size) : s[i]? = some s.data.toList[i]! := by
 rw [getElem?_pos s i h]
 congr 1
 have h2 : i < s.data.toList.length := by simpa using h
 rw [getElem!_pos s.data.toList i h2, Array.getElem_toList]; rfl
theorem ba_len (s : ByteArray) : s.data.toList.length = s.size := Array.length_toList
theorem con_run (s : ByteArray) (f : FuncId) (p : UInt8 -> Bool) (hf : ∀ c, Con Tryz.prog f [u8v c] [] fun r _ => r = vb (p c)) (hs : s.size <= 9223372036854775806) : Con Tryz.prog 168 [vStr s, .fn f []] [] fun r _ => r = vi (runL p s.data.toList) := by
 refine Con.intro Tryz.func168 rfl Tryz.ntmps168 Tryz.results168 (by kernel_rfl) (by simp) 0 (by simp) ?_
 simp only [go_sem]
 refine LoopK.intro (fun i : Nat => ⟨20, [(0, vStr s), (1, .fn f []), (4, vi 0), (5, vi i)], []⟩)
  (fun i => s.size - i) (fun i => i <= s.size /\ ∀ j, j < i -> p s.data.toList[j]! = true) 0 ⟨by omega, fun j hj => by omega⟩ ?_ ?_
 ·simp only [go_sem]
  all_goals exact leV_refl _
 rintro i ⟨hi, hb⟩
 by_cases h : i < s.size
 ·have hg := ba_get h
  have hw : IntKind.i64.wrap (i + 1) = i + 1 := wrap_in (by omega) (by omega)
  simp only [go_sem, h, hg]
  refine CallU.free (hf s.data.toList[i]!) (by simp only [go_sem]) (by simp only [go_sem]) ?_
  rintro r bx rfl
  cases hp : p s.data.toList[i]!
  ·simp only [go_sem]
   rw [run_stop hb (by rw [ba_len]; exact hi) (fun _ => hp)]
  ·simp only [go_sem, hw]
   refine roundK.intro (i + 1) ⟨by omega, fun j hj => ?_⟩ (by omega) ?_
   ·by_cases hji : j = i
    ·subst hji; exact hp
    ·exact hb j (by omega)
   ·simp only [go_sem]
 ·simp only [go_sem, h]
  rw [run_stop hb (by rw [ba_len]; exact hi) (fun h' => absurd (by rw [ba_len] at h'; exact h') h)]
theorem size_zero {s : ByteArray} : (s.toList == ByteArray.toList { data := #[] }) = decide (s.size = 0) := by
 rw [ByteArray.toList_eq, ByteArray.toList_eq, <- ba_len]
 cases h : s.data.toList <;> simp
theorem con_word (s : ByteArray) (hs : s.size <= 9223372036854775806) : Con Tryz.prog 135 [vStr s] [] fun r _ => r = vb (wordB s) := by
 refine Con.intro Tryz.func135 rfl Tryz.ntmps135 Tryz.results135 (by kernel_rfl) (by simp) 0 (by simp) ?_
 have e : wordB s = (decide (0 < s.size) && decide (s.size <= 12) && letterB s.data.toList[0]! && (runL partB s.data.toList == s.data.toList.length)) := by
  rw [run_all]
  unfold wordB
  rw [ByteArray.toList_eq]
  by_cases h0 : 0 < s.size
  ·have h2 := ba_get h0
   congr 2
   rw [show s.get! 0 = s.data.toList[0]! from ?_]
   have h3 : 0 < s.data.toList.length := by rw [ba_len]; exact h0
   rw [getElem!_pos s.data.toList 0 h3, Array.getElem_toList]
   show s.data[0]! = _
   rw [getElem!_pos s.data 0 h0]
  ·rw [decide_eq_false h0]; simp
 rw [e]
 by_cases h0 : 0 < s.size
 ·have h0' : ¬ s.size = 0 := by omega
  have hg := ba_get h0
  by_cases h1 : (s.size : Int) <= 12
  ·have h1' : s.size <= 12 := by omega
   simp only [go_sem, size_zero, h0', h1]
   simp only [go_sem, hg]
   refine CallU.free (con_letter s.data.toList[0]!) (by simp only [go_sem]) (by simp only [go_sem]) ?_
   rintro r bx rfl
   cases h2 : letterB s.data.toList[0]!
   ·simp only [go_sem]
    all_goals simp
   ·simp only [go_sem]
    refine CallU.free (con_run s 169 partB con_part hs) (by simp only [go_sem]) (by simp only [go_sem]) ?_
    rintro r bx rfl
    simp only [go_sem, ba_len, h0, h1', decide_true, Bool.true_and]
    all_goals congr 2
  ·have h1' : ¬ s.size <= 12 := by omega
   simp only [go_sem, size_zero, h0', h1, h1']
   all_goals simp
 ·have h0' : s.size = 0 := by omega
  simp only [go_sem, size_zero, h0']
  all_goals simp
theorem mem_bangI {α : Type} [Inhabited α] {l : List α} {i : Nat} (h : i < l.length) : l[i]! ∈ l := by rw [getElem!_pos l i h]; exact List.getElem_mem h
def TellsI (f : FuncId) (caps : List AV) (l : List Int) (p : Int -> Bool) : Prop := ∀ x ∈ l, Con Tryz.prog f ([vi x] ++ caps) [] fun r _ => r = .sc (.bool (p x))
theorem con_indexInt (l : List Int) (f : FuncId) (caps : List AV) (p : Int -> Bool) (hc : mapTops (viewV []) caps = caps) (hf : TellsI f caps l p) (hl : l.length <= 9223372036854775806) : Con Tryz.prog 82 [vs 0 l, .fn f caps] [] fun r _ => r = vi (findI p l) := by
 refine Con.intro Tryz.func82 rfl Tryz.ntmps82 Tryz.results82 (by kernel_rfl) (by simp) 0 (by simp) ?_
 simp only [go_sem]
 refine LoopK.intro (fun i : Nat => ⟨19, [(0, vs 0 l), (1, .fn f caps), (7, vi l.length), (8, vi i)], []⟩)
  (fun i => l.length - i) (fun i => i <= l.length /\ ∀ j, j < i -> p l[j]! = false) 0 ⟨by omega, fun j hj => by omega⟩ ?_ ?_
 ·simp only [go_sem]
  all_goals exact leV_refl _
 ·rintro i ⟨hi, hb⟩
  by_cases h : i < l.length
  ·have hg := getv h
   have hw : IntKind.i64.wrap (i + 1) = i + 1 := wrap_in (by omega) (by omega)
   simp only [go_sem, h, hg]
   refine CallU.look (hf l[i]! (mem_bangI h)) (by simp only [go_sem]) (by simp only [go_sem, hc]) ?_
   rintro r bx rfl
   cases hp : p l[i]!
   ·simp only [go_sem, hw]
    refine roundK.intro (i + 1) ⟨by omega, fun j hj => ?_⟩ (by omega) ?_
    ·by_cases hji : j = i
     ·subst hji; exact hp
     ·exact hb j (by omega)
    ·simp only [go_sem]
   ·simp only [go_sem]
    rw [findI_stop h hb hp]
  ·simp only [go_sem, h]
   rw [findI_none (fun j hj => hb j (by omega))]
theorem con_containsInt (l : List Int) (f : FuncId) (caps : List AV) (p : Int -> Bool) (hc : mapTops (viewV []) caps = caps) (hf : TellsI f caps l p) (hl : l.length <= 9223372036854775806) : Con Tryz.prog 58 [vs 0 l, .fn f caps] [] fun r _ => r = .sc (.bool (l.any p)) := by
 refine Con.intro Tryz.func58 rfl Tryz.ntmps58 Tryz.results58 (by kernel_rfl) (by simp) 0 (by simp) ?_
 simp only [go_sem]
 refine CallU.look (con_indexInt l f caps p hc hf hl) (by simp only [go_sem]) (by simp only [go_sem]) ?_
 rintro r bx rfl
 simp only [go_sem, findI_ge]
def TellsR (f : FuncId) (caps : List AV) (l : List RD) (p : RD -> Bool) : Prop := ∀ x ∈ l, Con Tryz.prog f ([vRule x] ++ caps) [] fun r _ => r = .sc (.bool (p x))
attribute [go_sem] vRule
theorem con_indexRule (l : List RD) (f : FuncId) (caps : List AV) (p : RD -> Bool) (hc : mapTops (viewV []) caps = caps) (hf : TellsR f caps l p) (hl : l.length <= 9223372036854775806) : Con Tryz.prog 137 [.sl 0 14 (l.map vRule), .fn f caps] [] fun r _ => r = vi (findI p l) := by
 refine Con.intro Tryz.func137 rfl Tryz.ntmps137 Tryz.results137 (by kernel_rfl) (by simp) 0 (by simp) ?_
 simp only [go_sem]
 refine LoopK.intro (fun i : Nat => ⟨19, [(0, .sl 0 14 (l.map vRule)), (1, .fn f caps), (7, vi l.length), (8, vi i)], []⟩)
  (fun i => l.length - i) (fun i => i <= l.length /\ ∀ j, j < i -> p l[j]! = false) 0 ⟨by omega, fun j hj => by omega⟩ ?_ ?_
 ·simp only [go_sem]
  all_goals exact leV_refl _
 ·rintro i ⟨hi, hb⟩
  by_cases h : i < l.length
  ·have hg := getRule h
   have hw : IntKind.i64.wrap (i + 1) = i + 1 := wrap_in (by omega) (by omega)
   simp only [go_sem, h, hg]
   refine CallU.look (hf l[i]! (mem_bangI h)) (by simp only [go_sem]) (by simp only [go_sem, hc]) ?_
   rintro r bx rfl
   cases hp : p l[i]!
   ·simp only [go_sem, hw]
    refine roundK.intro (i + 1) ⟨by omega, fun j hj => ?_⟩ (by omega) ?_
    ·by_cases hji : j = i
     ·subst hji; exact hp
     ·exact hb j (by omega)
    ·simp only [go_sem]
   ·simp only [go_sem]
    rw [findI_stop h hb hp]
  ·simp only [go_sem, h]
   rw [findI_none (fun j hj => hb j (by omega))]
theorem con_containsRule (l : List RD) (f : FuncId) (caps : List AV) (p : RD -> Bool) (hc : mapTops (viewV []) caps = caps) (hf : TellsR f caps l p) (hl : l.length <= 9223372036854775806) : Con Tryz.prog 105 [.sl 0 14 (l.map vRule), .fn f caps] [] fun r _ => r = .sc (.bool (l.any p)) := by
 refine Con.intro Tryz.func105 rfl Tryz.ntmps105 Tryz.results105 (by kernel_rfl) (by simp) 0 (by simp) ?_
 simp only [go_sem]
 refine CallU.look (con_indexRule l f caps p hc hf hl) (by simp only [go_sem]) (by simp only [go_sem]) ?_
 rintro r bx rfl
 simp only [go_sem, findI_ge]
theorem con_all1 (x : Int) (g : FuncId) (caps : List AV) (p : Int -> Bool) (hc : mapTops (viewV []) caps = caps) (hf : Con Tryz.prog g ([vi x] ++ caps) [] fun r _ => r = .sc (.bool (p x))) : Con Tryz.prog 178 [vi x, .fp [.fn g caps] 0] [] fun r _ => r = .sc (.bool (!p x)) := by
 refine Con.intro Tryz.func178 rfl Tryz.ntmps178 Tryz.results178 (by kernel_rfl) (by simp) 0 (by simp) ?_
 simp only [go_sem]
 refine CallU.look hf (by simp only [go_sem]) (by simp only [go_sem, hc]) ?_
 rintro r bx rfl
 simp only [go_sem]
theorem any_not {α : Type} (p : α -> Bool) : ∀ l : List α, (!l.any fun x => !p x) = l.all p
 | [] => rfl
 | x :: l => by rw [List.any_cons, List.all_cons, <- any_not p l]; cases p x <;> simp
theorem con_all (l : List Int) (g : FuncId) (caps : List AV) (p : Int -> Bool) (hc : mapTops (viewV []) caps = caps) (hf : TellsI g caps l p) (hl : l.length <= 9223372036854775806) : Con Tryz.prog 144 [vs 0 l, .fn g caps] [] fun r _ => r = .sc (.bool (l.all p)) := by
 refine Con.intro Tryz.func144 rfl Tryz.ntmps144 Tryz.results144 (by kernel_rfl) (by simp) 1 (by simp) ?_
 simp only [go_sem]
 refine CallU.look (con_containsInt l 178 [.fp [.fn g caps] 0] (fun x => !p x) (by simp only [go_sem]) (fun x hx => con_all1 x g caps p hc (hf x hx)) hl) (by simp only [go_sem]) (by simp only [go_sem]) ?_
 rintro r bx rfl
 simp only [go_sem, any_not]
theorem beq_cut {a b : List Int} (h : a.length ≠ b.length) : (a == b) = false := by
 rw [beq_eq_false_iff_ne]; intro e; rw [e] at h; exact h rfl
theorem eqI_stop {a b : List Int} {i : Nat} (h : a[i]! ≠ b[i]!) : (a == b) = false := by
 rw [beq_eq_false_iff_ne]; intro e; rw [e] at h; exact h rfl
theorem eqI_all {a b : List Int} (hl : a.length = b.length) (h : ∀ j, j < a.length -> a[j]! = b[j]!) : (a == b) = true := by
 rw [beq_iff_eq]
 apply List.ext_getElem hl
 intro i h1 h2
 have := h i h1
 rw [getElem!_pos a i h1, getElem!_pos b i h2] at this; exact this
theorem con_equalInt (a b : List Int) (hl : a.length <= 9223372036854775806) : Con Tryz.prog 179 [vs 0 a, vs 0 b] [] fun r _ => r = .sc (.bool (a == b)) := by
 refine Con.intro Tryz.func179 rfl Tryz.ntmps179 Tryz.results179 (by kernel_rfl) (by simp) 0 (by simp) ?_
 by_cases he : a.length = b.length
 case neg =>
  have he' : ((a.length : Int) != (b.length : Int)) = true := bne_iff_ne.2 (by omega)
  simp only [go_sem, he', beq_cut he]
 simp only [go_sem, he]
 refine LoopK.intro (fun i : Nat => ⟨26, [(0, vs 0 a), (1, vs 0 b), (12, vi a.length), (13, vi i)], []⟩)
  (fun i => a.length - i) (fun i => i <= a.length /\ ∀ j, j < i -> a[j]! = b[j]!) 0 ⟨by omega, fun j hj => by omega⟩ ?_ ?_
 ·simp only [go_sem, he]
  all_goals exact leV_refl _
 rintro i ⟨hi, hb⟩
 by_cases h : i < a.length
 ·have h2 : i < b.length := by omega
  have g1 := getv h
  have g2 := getv h2
  have hw : IntKind.i64.wrap (i + 1) = i + 1 := wrap_in (by omega) (by omega)
  simp only [go_sem, h]
  refine DrawK.walk 9 mixed (by kernel_rfl) ?_
  by_cases hp : a[i]! = b[i]!
  ·simp only [go_sem, h, h2, g1, g2, hp, hw]
   refine roundK.intro (i + 1) ⟨by omega, fun j hj => ?_⟩ (by omega) ?_
   ·by_cases hji : j = i
    ·subst hji; exact hp
    ·exact hb j (by omega)
   ·simp only [go_sem]
  ·have hp' : (a[i]! != b[i]!) = true := bne_iff_ne.2 hp
   simp only [go_sem, h, h2, g1, g2, hp']
   rw [eqI_stop hp]
 ·simp only [go_sem, h]
  rw [eqI_all he (fun j hj => hb j (by omega))]
theorem con_indexStr (l : List ByteArray) (v : ByteArray) (hl : l.length <= 9223372036854775806) : Con Tryz.prog 194 [vss l, vStr v] [] fun r _ => r = vi (findI (fun x => v.toList == x.toList) l) := by
 refine Con.intro Tryz.func194 rfl Tryz.ntmps194 Tryz.results194 (by kernel_rfl) (by simp) 0 (by simp) ?_
 simp only [go_sem]
 refine LoopK.intro (fun i : Nat => ⟨19, [(0, vss l), (1, vStr v), (7, vi l.length), (8, vi i)], []⟩)
  (fun i => l.length - i) (fun i => i <= l.length /\ ∀ j, j < i -> (v.toList == l[j]!.toList) = false) 0 ⟨by omega, fun j hj => by omega⟩ ?_ ?_
 ·simp only [go_sem]
  all_goals exact leV_refl _
 ·rintro i ⟨hi, hb⟩
  by_cases h : i < l.length
  ·have hg := getStr h
   have hw : IntKind.i64.wrap (i + 1) = i + 1 := wrap_in (by omega) (by omega)
   cases hp : (v.toList == l[i]!.toList)
   ·simp only [go_sem, h, hg, hp, hw]
    refine roundK.intro (i + 1) ⟨by omega, fun j hj => ?_⟩ (by omega) ?_
    ·by_cases hji : j = i
     ·subst hji; exact hp
     ·exact hb j (by omega)
    ·simp only [go_sem]
   ·simp only [go_sem, h, hg, hp]
    rw [findI_stop (p := fun x : ByteArray => v.toList == x.toList) h hb hp]
  ·simp only [go_sem, h]
   rw [findI_none (p := fun x : ByteArray => v.toList == x.toList) (fun j hj => hb j (by omega))]
theorem con_containsStr (l : List ByteArray) (v : ByteArray) (hl : l.length <= 9223372036854775806) : Con Tryz.prog 170 [vss l, vStr v] [] fun r _ => r = .sc (.bool (l.any fun x => v.toList == x.toList)) := by
 refine Con.intro Tryz.func170 rfl Tryz.ntmps170 Tryz.results170 (by kernel_rfl) (by simp) 0 (by simp) ?_
 simp only [go_sem]
 refine CallU.free (con_indexStr l v hl) (by simp only [go_sem]) (by simp only [go_sem]) ?_
 rintro r bx rfl
 simp only [go_sem, findI_ge]
theorem con_keyword (s : ByteArray) : Con Tryz.prog 136 [vStr s] [] fun r _ => r = vb (keywordB s) := by
 refine Con.intro Tryz.func136 rfl Tryz.ntmps136 Tryz.results136 (by kernel_rfl) (by simp) 0 (by simp) ?_
 simp only [go_sem]
 refine CallU.flat (con_containsStr kwL s (by decide)) (by simp only [go_sem]) (by simp only [go_sem, kwL, List.map_cons, List.map_nil]) ?_
 rintro r bx rfl
 simp only [go_sem]
 rfl
def sumL {α : Type} (ls : List (List α)) (i : Nat) : Nat := ((ls.take i).map List.length).sum
theorem sumL_zero {α : Type} (ls : List (List α)) : sumL ls 0 = 0 := rfl
theorem sumL_succ {α : Type} {ls : List (List α)} {i : Nat} (h : i < ls.length) : sumL ls (i + 1) = sumL ls i + ls[i]!.length := by
 unfold sumL
 rw [List.take_add_one, List.getElem?_eq_getElem h, getElem!_pos ls i h, List.map_append, List.sum_append]
 simp only [Option.toList, List.map_cons, List.map_nil, List.sum_cons, List.sum_nil, Nat.add_zero]
theorem sumL_mono {α : Type} {ls : List (List α)} : ∀ {i : Nat}, sumL ls i <= ls.flatten.length := by
 intro i
 unfold sumL
 rw [<- List.length_flatten]
 have h : ls.flatten = (ls.take i).flatten ++ (ls.drop i).flatten := by rw [<- List.flatten_append, List.take_append_drop]
 rw [h, List.length_append]; omega
theorem flat_succ {α : Type} {ls : List (List α)} {i : Nat} (h : i < ls.length) : (ls.take (i + 1)).flatten = (ls.take i).flatten ++ ls[i]! := by
 rw [List.take_add_one, List.getElem?_eq_getElem h, getElem!_pos ls i h, List.flatten_append]
 simp only [Option.toList, List.flatten_cons, List.flatten_nil, List.append_nil]
theorem getRow {ls : List (List ByteArray)} {i : Nat} (h : i < ls.length) : (ls.map vss)[i]? = some (.sl 0 1 (ls[i]!.map vStr)) := by
 rw [List.getElem?_map, List.getElem?_eq_getElem h, getElem!_pos ls i h, Option.map_some]; rfl
theorem con_growStr (n : Nat) (h1 : 1 <= n) (h2 : n <= 1000000) : Con Tryz.prog 166 [.nil, vi n] [] fun r _ => r = .sl 2 1 [] := by
 refine Con.intro Tryz.func166 rfl Tryz.ntmps166 Tryz.results166 (by kernel_rfl) (by simp) 0 (by simp) ?_
 have a1 : ¬ ((n : Int) < 0) := by omega
 have a2 : (0 : Int) < (n : Int) := by omega
 have hw : IntKind.i64.wrap ((n : Int) - 0) = n := by rw [wrap_in (by omega) (by omega)]; omega
 have hz : IntKind.i64.wrap 0 = 0 := wrap_in (by omega) (by omega)
 simp only [go_sem, a1, a2, hz, hw]
 omega
theorem con_concatStr (ls : List (List ByteArray)) (h1 : 1 <= ls.flatten.length) (h2 : ls.flatten.length <= 1000000) (hl : ls.length <= 1000000) : Con Tryz.prog 134 [.sl 0 1 (ls.map vss)] [] fun r _ => r = .sl 2 1 (ls.flatten.map vStr) := by
 refine Con.intro Tryz.func134 rfl Tryz.ntmps134 Tryz.results134 (by kernel_rfl) (by simp) 0 (by simp) ?_
 simp only [go_sem]
 refine LoopK.intro (fun i : Nat => ⟨36, [(0, .sl 0 1 (ls.map vss)), (2, .nil), (3, vi (sumL ls i)), (9, .sl 0 1 (ls.map vss)), (10, vi ls.length), (11, vi i)], []⟩)
  (fun i => ls.length - i) (fun i => i <= ls.length) 0 (by omega) ?_ ?_
 ·simp only [go_sem, sumL_zero]
  all_goals exact leV_refl _
 rintro i hi
 have hm := sumL_mono (ls := ls) (i := i)
 by_cases h : i < ls.length
 ·have hg := getRow h
  have hw : IntKind.i64.wrap (i + 1) = i + 1 := wrap_in (by omega) (by omega)
  have hm2 := sumL_mono (ls := ls) (i := i + 1)
  have hs := sumL_succ h
  have hw2 : IntKind.i64.wrap ((sumL ls i : Int) + (ls[i]!.length : Int)) = (sumL ls (i + 1) : Int) := by rw [wrap_in (by omega) (by omega)]; omega
  have a1 : ¬ ((sumL ls (i + 1) : Int) < 0) := by omega
  simp only [go_sem, h, hg, hw, hw2, a1]
  refine roundK.intro (i + 1) (by omega) (by omega) ?_
  simp only [go_sem]
 ·obtain rfl : i = ls.length := by omega
  have e : sumL ls ls.length = ls.flatten.length := by unfold sumL; rw [List.take_length, <- List.length_flatten]
  simp only [go_sem, h, e]
  refine CallU.free (con_growStr ls.flatten.length h1 h2) (by simp only [go_sem]) (by simp only [go_sem]) ?_
  rintro r bx rfl
  simp only [go_sem]
  refine LoopK.intro (fun i : Nat => ⟨36, [(0, .sl 0 1 (ls.map vss)), (2, .nil), (6, .sl 1602 1 (((ls.take i).flatten).map vStr)), (25, .sl 0 1 (ls.map vss)), (26, vi ls.length), (27, vi i)], []⟩)
   (fun i => ls.length - i) (fun i => i <= ls.length) 0 (by omega) ?_ ?_
  ·simp only [go_sem, List.take_zero, List.flatten_nil, List.map_nil]
   all_goals exact leV_refl _
  rintro i hi
  by_cases h : i < ls.length
  ·have hg := getRow h
   have hw : IntKind.i64.wrap (i + 1) = i + 1 := wrap_in (by omega) (by omega)
   have hm2 := sumL_mono (ls := ls) (i := i + 1)
   have hs := sumL_succ h
   have hf := flat_succ h
   have el : (ls.take i).flatten.length = sumL ls i := by unfold sumL; rw [List.length_flatten]
   simp only [go_sem, h, hg, hw]
   refine ⟨by simp only [roomFor, el]; omega, ?_⟩
   refine roundK.intro (i + 1) (by omega) (by omega) ?_
   simp only [go_sem, hf, List.map_append]
  ·obtain rfl : i = ls.length := by omega
   simp only [go_sem, h, List.take_length]
end Go.AM
namespace Go.AM
abbrev Om : Int := 1099511627776
def canV (r : RD) (v : List Int) : Bool := (List.range v.length).all fun i => decide (r.need[i]! <= v[i]!)
def fireO (r : RD) (v : List Int) : List Int := (List.range v.length).map fun i => if v[i]! = Om then Om else v[i]! + (r.give[i]! - r.need[i]!)
theorem fireO_len (r : RD) (v : List Int) : (fireO r v).length = v.length := by simp [fireO]
theorem fireO_at {r : RD} {v : List Int} {i : Nat} (h : i < v.length) : (fireO r v)[i]! = if v[i]! = Om then Om else v[i]! + (r.give[i]! - r.need[i]!) := by
 rw [getElem!_pos _ i (by rw [fireO_len]; exact h)]; simp [fireO]
theorem canV_iff {r : RD} {v : List Int} : canV r v = true ↔ ∀ i, i < v.length -> r.need[i]! <= v[i]! := by
 unfold canV
 simp only [List.all_eq_true, List.mem_range, decide_eq_true_eq]
abbrev SV := Int × List Int
def coverV (v w : List Int) : Prop := v.length = w.length /\ ∀ i, i < v.length -> w[i]! = Om \/ v[i]! <= w[i]!
def lowV (v : List Int) : Prop := ∀ x ∈ v, x <= Om
def Covered (L : List SV) (s : SV) : Prop := ∃ x ∈ L, x.1 = s.1 /\ coverV s.2 x.2
def ClosedL (rules : List RD) (L : List SV) : Prop := ∀ x ∈ L, ∀ r ∈ rules, r.src = x.1 -> canV r x.2 = true -> ∃ y ∈ L, y.1 = r.dst /\ y.2.length = x.2.length /\ ∀ i, i < x.2.length -> (fireO r x.2)[i]! <= y.2[i]!
theorem bang_low {v : List Int} (h : lowV v) (i : Nat) : v[i]! <= Om := by
 by_cases hi : i < v.length
 ·rw [getElem!_pos v i hi]; exact h _ (List.getElem_mem hi)
 ·rw [getElem!_neg v i hi]; decide
theorem cover_step {rules : List RD} {L : List SV} (hc : ClosedL rules L) (hl : ∀ x ∈ L, lowV x.2) {s : SV} (h : Covered L s) {r : RD} (hr : r ∈ rules) (hs : r.src = s.1) (hv : ∀ i, i < s.2.length -> r.need[i]! <= s.2[i]!) (hn : ∀ i : Nat, r.need[i]! <= 16)
  {w : List Int} (hw : w.length = s.2.length) (hw2 : ∀ i, i < s.2.length -> w[i]! = s.2[i]! + (r.give[i]! - r.need[i]!)) : Covered L (r.dst, w) := by
 obtain ⟨x, hx, e1, e2, e3⟩ := h
 have hcan : canV r x.2 = true := canV_iff.2 fun i hi => by
  have h1 := hv i (by omega)
  have h2 := hn i
  rcases e3 i (by omega) with h3 | h3
  ·rw [h3]; show r.need[i]! <= 1099511627776; omega
  ·omega
 obtain ⟨y, hy, f1, f2, f3⟩ := hc x hx r hr (by rw [hs, e1]) hcan
 refine ⟨y, hy, f1, ?_, fun i hi => ?_⟩
 ·show w.length = y.2.length; omega
 ·have hi' : i < x.2.length := by have : i < w.length := hi; omega
  have h3 := f3 i hi'
  rw [fireO_at hi'] at h3
  have h4 := hw2 i (by omega)
  have h5 := bang_low (hl y hy) i
  show y.2[i]! = Om \/ w[i]! <= y.2[i]!
  rcases e3 i (by omega) with h6 | h6
  ·rw [if_pos h6] at h3
   left; omega
  ·by_cases h7 : x.2[i]! = Om
   ·rw [if_pos h7] at h3
    left; omega
   ·rw [if_neg h7] at h3
    right; omega
def runV (rules : List RD) : SV -> List Nat -> Option SV
 | s, [] => some s
 | s, k :: ks => if k < rules.length /\ rules[k]!.src = s.1 /\ (∀ i, i < s.2.length -> rules[k]!.need[i]! <= s.2[i]!) then runV rules (rules[k]!.dst, (List.range s.2.length).map fun i => s.2[i]! + (rules[k]!.give[i]! - rules[k]!.need[i]!)) ks else none
theorem step_at {r : RD} {v : List Int} {i : Nat} (h : i < v.length) : ((List.range v.length).map fun i => v[i]! + (r.give[i]! - r.need[i]!))[i]! = v[i]! + (r.give[i]! - r.need[i]!) := by
 rw [getElem!_pos _ i (by simpa using h)]; simp
theorem run_len {rules : List RD} : ∀ {ks : List Nat} {s t : SV}, runV rules s ks = some t -> t.2.length = s.2.length
 | [], s, t, h => by simp only [runV, Option.some.injEq] at h; rw [h]
 | k :: ks, s, t, h => by
  unfold runV at h
  split at h
  ·have := run_len h
   rw [this]; simp
  ·cases h
theorem run_cover {rules : List RD} {L : List SV} (hc : ClosedL rules L) (hl : ∀ x ∈ L, lowV x.2) (hn : ∀ r ∈ rules, ∀ i : Nat, r.need[i]! <= 16) : ∀ {ks : List Nat} {s t : SV}, Covered L s -> runV rules s ks = some t -> Covered L t
 | [], s, t, h, e => by
  simp only [runV, Option.some.injEq] at e
  rw [<- e]; exact h
 | k :: ks, s, t, h, e => by
  unfold runV at e
  split at e
  ·rename_i g
   have hm : rules[k]! ∈ rules := by rw [getElem!_pos rules k g.1]; exact List.getElem_mem g.1
   refine run_cover hc hl hn (cover_step hc hl h hm g.2.1 g.2.2 (hn _ hm) (by simp) fun i hi => step_at hi) e
  ·cases e
theorem run_mono {rules : List RD} : ∀ {ks : List Nat} {s t : SV} {v : List Int}, runV rules s ks = some t -> v.length = s.2.length -> (∀ i, i < s.2.length -> s.2[i]! <= v[i]!) ->
  ∃ w, runV rules (s.1, v) ks = some (t.1, w) /\ w.length = t.2.length /\ ∀ i, i < s.2.length -> w[i]! = t.2[i]! + (v[i]! - s.2[i]!)
 | [], s, t, v, e, hv, hle => by
  simp only [runV, Option.some.injEq] at e
  subst e
  exact ⟨v, rfl, hv, fun i _ => by omega⟩
 | k :: ks, s, t, v, e, hv, hle => by
  unfold runV at e
  split at e
  ·rename_i g
   have hl := run_len e
   obtain ⟨w, e1, e2, e3⟩ := run_mono (v := (List.range v.length).map fun i => v[i]! + (rules[k]!.give[i]! - rules[k]!.need[i]!)) e (by simp [hv]) fun i hi => by
    have hi : i < s.2.length := by simpa using hi
    have h1 := hle i hi
    show ((List.range s.2.length).map fun i => s.2[i]! + (rules[k]!.give[i]! - rules[k]!.need[i]!))[i]! <= _
    rw [step_at hi, step_at (by omega)]
    omega
   refine ⟨w, ?_, e2, fun i hi => ?_⟩
   ·unfold runV
    rw [if_pos ⟨g.1, g.2.1, fun i hi => by have hi : i < v.length := hi; have := hle i (by omega); have := g.2.2 i (by omega); show _ <= v[i]!; omega⟩]
    exact e1
   ·have h3 := e3 i (by simpa using hi)
    rw [step_at (by omega)] at h3
    have h4 : ((List.range s.2.length).map fun i => s.2[i]! + (rules[k]!.give[i]! - rules[k]!.need[i]!))[i]! = s.2[i]! + (rules[k]!.give[i]! - rules[k]!.need[i]!) := step_at hi
    rw [h3]
    show t.2[i]! + (v[i]! + (rules[k]!.give[i]! - rules[k]!.need[i]!) - ((List.range s.2.length).map fun i => s.2[i]! + (rules[k]!.give[i]! - rules[k]!.need[i]!))[i]!) = _
    rw [h4]
    omega
  ·cases e
theorem run_app {rules : List RD} : ∀ {a b : List Nat} {s t : SV}, runV rules s a = some t -> runV rules s (a ++ b) = runV rules t b
 | [], b, s, t, h => by
  simp only [runV, Option.some.injEq] at h
  rw [h]; rfl
 | k :: a, b, s, t, h => by
  unfold runV at h
  split at h
  ·rename_i g
   have := run_app (b := b) h
   rw [List.cons_append]
   conv => lhs; unfold runV
   rw [if_pos g]
   exact this
  ·cases h
def repV (a : List Nat) : Nat -> List Nat
 | 0 => []
 | n + 1 => repV a n ++ a
theorem pump_run {rules : List RD} {q : Int} {v w : List Int} {a : List Nat} (h : runV rules (q, v) a = some (q, w)) (hle : ∀ i, i < v.length -> v[i]! <= w[i]!) : ∀ n : Nat, ∃ u, runV rules (q, v) (repV a n) = some (q, u) /\ u.length = v.length /\ ∀ i, i < v.length -> u[i]! = v[i]! + n * (w[i]! - v[i]!)
 | 0 => ⟨v, rfl, rfl, fun i _ => by simp⟩
 | n + 1 => by
  have hl : w.length = v.length := run_len h
  obtain ⟨u, e1, e2, e3⟩ := pump_run h hle n
  obtain ⟨x, f1, f2, f3⟩ := run_mono (v := u) h e2 fun i hi => by
   have h1 := e3 i hi
   have h2 := hle i hi
   have h3 : 0 <= (n : Int) * (w[i]! - v[i]!) := Int.mul_nonneg (by omega) (by omega)
   show v[i]! <= u[i]!
   omega
  refine ⟨x, by rw [repV, run_app e1]; exact f1, by rw [f2]; exact hl, fun i hi => ?_⟩
  have h1 := f3 i hi
  have h2 := e3 i hi
  rw [h1]
  show w[i]! + (u[i]! - v[i]!) = _
  rw [h2, Int.natCast_add, Int.add_mul]
  omega
theorem pump_omega {rules : List RD} {L : List SV} (hc : ClosedL rules L) (hl : ∀ x ∈ L, lowV x.2) (hn : ∀ r ∈ rules, ∀ i : Nat, r.need[i]! <= 16) {q : Int} {v w : List Int} {a : List Nat} (h0 : Covered L (q, v)) (hv : ∀ x ∈ v, 0 <= x) (h : runV rules (q, v) a = some (q, w)) (hle : ∀ i, i < v.length -> v[i]! <= w[i]!)
  {k : Nat} (hk : k < v.length) (hg : v[k]! < w[k]!) : ∃ x ∈ L, x.2.length = v.length /\ x.2[k]! = Om := by
 obtain ⟨u, e1, e2, e3⟩ := pump_run h hle 1099511627777
 obtain ⟨x, hx, g1, g2, g3⟩ := run_cover hc hl hn h0 e1
 have hlen : u.length = x.2.length := g2
 refine ⟨x, hx, by omega, ?_⟩
 rcases g3 k (by show k < u.length; omega) with h1 | h1
 ·exact h1
 ·exfalso
  have h2 := e3 k hk
  have h3 := bang_low (hl x hx) k
  have h4 : 0 <= v[k]! := by rw [getElem!_pos v k hk]; exact hv _ (List.getElem_mem hk)
  have h5 : (1099511627777 : Int) * 1 <= 1099511627777 * (w[k]! - v[k]!) := Int.mul_le_mul_of_nonneg_left (by omega) (by omega)
  have h6 : u[k]! <= x.2[k]! := h1
  have h7 : ((1099511627777 : Nat) : Int) = 1099511627777 := rfl
  have h8 : Om = 1099511627776 := rfl
  rw [h7] at h2
  rw [h8] at h3
  omega
structure ND where
 st : Int
 vec : List Int
 par : Int
 rule : Int
 deriving Inhabited
def okN1 (x : Int) : Prop := (0 <= x /\ x <= 1048576) \/ x = Om
def okV (np : Nat) (v : List Int) : Prop := v.length = np /\ ∀ x ∈ v, okN1 x
theorem okV.at {np : Nat} {v : List Int} (h : okV np v) {i : Nat} (hi : i < np) : okN1 v[i]! := by
 have := h.1
 rw [getElem!_pos v i (by omega)]; exact h.2 _ (List.getElem_mem _)
theorem okN1.nonneg {x : Int} (h : okN1 x) : 0 <= x := by
 unfold okN1 at h
 have h8 : Om = 1099511627776 := rfl
 omega
theorem okN1.le {x : Int} (h : okN1 x) : x <= Om := by
 unfold okN1 at h
 have h8 : Om = 1099511627776 := rfl
 omega
theorem okV.low {np : Nat} {v : List Int} (h : okV np v) : lowV v := fun x hx => (h.2 x hx).le
def overO (r : RD) (v : List Int) : Bool := (List.range v.length).any fun i => decide (v[i]! ≠ Om) && decide (1048576 < v[i]! + (r.give[i]! - r.need[i]!))
theorem fire_ok {np : Nat} {r : RD} {v : List Int} (h : okV np v) (hc : canV r v = true) (hg : ∀ i, i < np -> 0 <= r.give[i]!) (ho : overO r v = false) : okV np (fireO r v) := by
 refine ⟨by rw [fireO_len]; exact h.1, fun x hx => ?_⟩
 obtain ⟨i, hi, rfl⟩ := List.mem_iff_getElem.1 hx
 have hi' : i < v.length := by rw [fireO_len] at hi; exact hi
 rw [<- getElem!_pos (fireO r v) i hi, fireO_at hi']
 split
 ·right; rfl
 ·rename_i hn
  left
  have h1 := (canV_iff.1 hc) i hi'
  have h2 := hg i (by have := h.1; omega)
  refine ⟨by omega, ?_⟩
  unfold overO at ho
  rw [List.any_eq_false] at ho
  have := ho i (List.mem_range.2 hi')
  simp only [Bool.and_eq_true, decide_eq_true_eq, not_and, Int.not_lt] at this
  exact this hn
def ClosedAt (rules : List RD) (l : List ND) (s : Int) (v : List Int) (k : Nat) : Prop := ∀ i, i < k -> rules[i]!.src = s -> canV rules[i]! v = true -> ∃ y ∈ l, y.st = rules[i]!.dst /\ y.vec.length = v.length /\ ∀ j, j < v.length -> (fireO rules[i]! v)[j]! <= y.vec[j]!
structure NodeOk (ns np : Nat) (i : Nat) (x : ND) : Prop where
 st : 0 <= x.st /\ x.st < ns
 vec : okV np x.vec
 par : -1 <= x.par /\ x.par < i
 rule : -1 <= x.rule /\ x.rule < 12
structure Tree (rules : List RD) (ns np : Nat) (s0 : Int) (v0 : List Int) (l : List ND) (next : Nat) : Prop where
 root : ∃ x ∈ l, x.st = s0 /\ x.vec = v0
 nextle : next <= l.length
 len : l.length <= 256
 node : ∀ i, i < l.length -> NodeOk ns np i l[i]!
 closed : ∀ i, i < next -> ClosedAt rules l l[i]!.st l[i]!.vec rules.length
theorem ClosedAt.more {rules : List RD} {l l' : List ND} {s : Int} {v : List Int} {k : Nat} (h : ClosedAt rules l s v k) (hm : ∀ x ∈ l, x ∈ l') : ClosedAt rules l' s v k := fun i hi h1 h2 => by
 obtain ⟨y, hy, h3⟩ := h i hi h1 h2
 exact ⟨y, hm _ hy, h3⟩
theorem ClosedAt.skip {rules : List RD} {l : List ND} {s : Int} {v : List Int} {k : Nat} (h : ClosedAt rules l s v k) (hn : rules[k]!.src = s -> canV rules[k]! v = true -> False) : ClosedAt rules l s v (k + 1) := fun i hi h1 h2 => by
 by_cases hk : i < k
 ·exact h i hk h1 h2
 ·have : i = k := by omega
  subst this
  exact (hn h1 h2).elim
theorem ClosedAt.put {rules : List RD} {l : List ND} {s : Int} {v : List Int} {k : Nat} (h : ClosedAt rules l s v k) {x : ND} (h1 : x.st = rules[k]!.dst) (h2 : x.vec.length = v.length) (h3 : ∀ j, j < v.length -> (fireO rules[k]! v)[j]! <= x.vec[j]!) : ClosedAt rules (l ++ [x]) s v (k + 1) := fun i hi e1 e2 => by
 by_cases hk : i < k
 ·obtain ⟨y, hy, h4⟩ := h i hk e1 e2
  exact ⟨y, List.mem_append_left _ hy, h4⟩
 ·have : i = k := by omega
  subst this
  exact ⟨x, List.mem_append_right _ (List.mem_singleton.2 rfl), h1, h2, h3⟩
structure Part (rules : List RD) (ns np : Nat) (s0 : Int) (v0 : List Int) (l : List ND) (next : Nat) (e : List ND) (k : Nat) : Prop where
 few : e.length <= k
 len : (l ++ e).length <= 256
 node : ∀ i, i < (l ++ e).length -> NodeOk ns np i (l ++ e)[i]!
 closed : ClosedAt rules (l ++ e) l[next]!.st l[next]!.vec k
theorem Tree.part {rules : List RD} {ns np : Nat} {s0 : Int} {v0 : List Int} {l : List ND} {next : Nat} (h : Tree rules ns np s0 v0 l next) : Part rules ns np s0 v0 l next [] 0 := by
 refine ⟨by simp, ?_, ?_, fun i hi => by omega⟩
 ·rw [List.append_nil]; exact h.len
 ·rw [List.append_nil]; exact h.node
theorem Part.skip {rules : List RD} {ns np : Nat} {s0 : Int} {v0 : List Int} {l e : List ND} {next k : Nat} (h : Part rules ns np s0 v0 l next e k) (hn : rules[k]!.src = l[next]!.st -> canV rules[k]! l[next]!.vec = true -> False) : Part rules ns np s0 v0 l next e (k + 1) :=
 ⟨by have := h.few; omega, h.len, h.node, h.closed.skip hn⟩
theorem bang_app {α : Type _} [Inhabited α] {l e : List α} {i : Nat} (h : i < l.length) : (l ++ e)[i]! = l[i]! := by
 rw [getElem!_pos (l ++ e) i (by rw [List.length_append]; omega), getElem!_pos l i h, List.getElem_append_left h]
theorem bang_last {α : Type _} [Inhabited α] {l : List α} {x : α} : (l ++ [x])[l.length]! = x := by
 rw [getElem!_pos (l ++ [x]) l.length (by rw [List.length_append]; simp), List.getElem_append_right (Nat.le_refl _)]; simp
theorem Part.put {rules : List RD} {ns np : Nat} {s0 : Int} {v0 : List Int} {l e : List ND} {next k : Nat} (h : Part rules ns np s0 v0 l next e k) (hl : (l ++ e).length < 256) {x : ND} (ho : NodeOk ns np (l ++ e).length x) (h1 : x.st = rules[k]!.dst) (h2 : x.vec.length = l[next]!.vec.length)
  (h3 : ∀ j, j < l[next]!.vec.length -> (fireO rules[k]! l[next]!.vec)[j]! <= x.vec[j]!) : Part rules ns np s0 v0 l next (e ++ [x]) (k + 1) := by
 refine ⟨by have := h.few; simp; omega, ?_, fun i hi => ?_, ?_⟩
 ·rw [<- List.append_assoc, List.length_append]; simp only [List.length_singleton]; omega
 ·rw [<- List.append_assoc] at hi ⊢
  by_cases hk : i < (l ++ e).length
  ·rw [bang_app hk]; exact h.node i hk
  ·have : i = (l ++ e).length := by rw [List.length_append] at hi; simp only [List.length_singleton] at hi; omega
   subst this
   rw [bang_last]; exact ho
 ·rw [<- List.append_assoc]; exact h.closed.put h1 h2 h3
theorem Tree.step {rules : List RD} {ns np : Nat} {s0 : Int} {v0 : List Int} {l e : List ND} {next : Nat} (h : Tree rules ns np s0 v0 l next) (hn : next < l.length) (hp : Part rules ns np s0 v0 l next e rules.length) : Tree rules ns np s0 v0 (l ++ e) (next + 1) := by
 obtain ⟨x, hx, h1⟩ := h.root
 refine ⟨⟨x, List.mem_append_left _ hx, h1⟩, by rw [List.length_append]; omega, hp.len, hp.node, fun i hi => ?_⟩
 by_cases hk : i < next
 ·rw [bang_app (by omega)]
  exact (h.closed i hk).more fun x hx => List.mem_append_left _ hx
 ·have : i = next := by omega
  subst this
  rw [bang_app hn]; exact hp.closed
theorem Tree.again {rules : List RD} {ns np : Nat} {s0 : Int} {v0 : List Int} {l : List ND} {next : Nat} (h : Tree rules ns np s0 v0 l next) (hn : next < l.length) {k : Nat} (hk : k < next) (h1 : l[k]!.st = l[next]!.st) (h2 : l[k]!.vec = l[next]!.vec) : Tree rules ns np s0 v0 l (next + 1) := by
 refine ⟨h.root, by omega, h.len, h.node, fun i hi => ?_⟩
 by_cases hk : i < next
 ·exact h.closed i hk
 ·have : i = next := by omega
  subst this
  have := h.closed k (by omega)
  rw [h1, h2] at this; exact this
structure LimOk (ns np : Nat) (l : List ND) (n : Nat) (L : List SV) : Prop where
 few : L.length <= n
 real : ∀ y ∈ L, 0 <= y.1 /\ y.1 < ns /\ okV np y.2 /\ ∃ x ∈ l, x.st = y.1 /\ x.vec = y.2
 all : ∀ i, i < n -> ∃ y ∈ L, y.1 = l[i]!.st /\ ∀ j, j < np -> l[i]!.vec[j]! <= y.2[j]!
theorem mem_bang_nd {l : List ND} {x : ND} (h : x ∈ l) : ∃ i, i < l.length /\ l[i]! = x := by
 obtain ⟨i, hi, e⟩ := List.mem_iff_getElem.1 h
 exact ⟨i, hi, by rw [getElem!_pos l i hi, e]⟩
theorem Tree.limits {rules : List RD} {ns np : Nat} {s0 : Int} {v0 : List Int} {l : List ND} (h : Tree rules ns np s0 v0 l l.length) {L : List SV} (hL : LimOk ns np l l.length L) : ClosedL rules L := by
 intro y hy r hr hs hc
 obtain ⟨_, _, hyo, x, hx, e1, e2⟩ := hL.real y hy
 obtain ⟨i, hi, rfl⟩ := mem_bang_nd hx
 obtain ⟨k, hk, rfl⟩ := List.mem_iff_getElem.1 hr
 have hr' : rules[k]! = rules[k] := getElem!_pos rules k hk
 rw [<- hr'] at hs hc ⊢
 rw [<- e1] at hs
 rw [<- e2] at hc
 obtain ⟨z, hz, f1, f2, f3⟩ := h.closed i hi k hk hs hc
 obtain ⟨j, hj, rfl⟩ := mem_bang_nd hz
 obtain ⟨w, hw, g1, g2⟩ := hL.all j hj
 have hwo := (hL.real w hw).2.2.1
 have hv := (h.node i hi).vec.1
 refine ⟨w, hw, by rw [g1, f1], by rw [hwo.1, hyo.1], fun a ha => ?_⟩
 rw [<- e2] at ha ⊢
 have h3 := f3 a ha
 have h4 := g2 a (by omega)
 omega
theorem Tree.start {rules : List RD} {ns np : Nat} {s0 : Int} {v0 : List Int} {l : List ND} {next : Nat} (h : Tree rules ns np s0 v0 l next) {L : List SV} (hL : LimOk ns np l l.length L) : ∃ y ∈ L, y.1 = s0 /\ y.2.length = np /\ ∀ j, j < np -> v0[j]! <= y.2[j]! := by
 obtain ⟨x, hx, e1, e2⟩ := h.root
 obtain ⟨i, hi, rfl⟩ := mem_bang_nd hx
 obtain ⟨y, hy, g1, g2⟩ := hL.all i hi
 exact ⟨y, hy, by rw [g1, e1], (hL.real y hy).2.2.1.1, fun j hj => by rw [<- e2]; exact g2 j hj⟩
theorem LimOk.low {ns np : Nat} {l : List ND} {n : Nat} {L : List SV} (h : LimOk ns np l n L) : ∀ x ∈ L, lowV x.2 := fun x hx => (h.real x hx).2.2.1.low
structure LimPart (ns np : Nat) (l : List ND) (x : ND) (L : List SV) (k : Nat) (P : List SV) (done : Bool) : Prop where
 few : P.length <= k + (if done then 1 else 0)
 real : ∀ y ∈ P, 0 <= y.1 /\ y.1 < ns /\ okV np y.2 /\ ∃ x ∈ l, x.st = y.1 /\ x.vec = y.2
 has : done = true -> (x.st, x.vec) ∈ P
 old : ∀ i, i < k -> L[i]! ∈ P \/ (L[i]!.1 = x.st /\ ∀ j, j < np -> L[i]!.2[j]! <= x.vec[j]!)
theorem mem_bangSV {L : List SV} {y : SV} (h : y ∈ L) : ∃ i, i < L.length /\ L[i]! = y := by
 obtain ⟨i, hi, e⟩ := List.mem_iff_getElem.1 h
 exact ⟨i, hi, by rw [getElem!_pos L i hi, e]⟩
theorem LimPart.skip {ns np : Nat} {l : List ND} {x : ND} {L P : List SV} {k : Nat} {d : Bool} (h : LimPart ns np l x L k P d) (h1 : L[k]!.1 = x.st) (h2 : ∀ j, j < np -> L[k]!.2[j]! <= x.vec[j]!) : LimPart ns np l x L (k + 1) P d := by
 refine ⟨by have := h.few; omega, h.real, h.has, fun i hi => ?_⟩
 by_cases hk : i < k
 ·exact h.old i hk
 ·have : i = k := by omega
  subst this
  exact .inr ⟨h1, h2⟩
theorem LimPart.keep {ns np : Nat} {l : List ND} {x : ND} {L P : List SV} {k : Nat} {d : Bool} (h : LimPart ns np l x L k P d) (hy : 0 <= L[k]!.1 /\ L[k]!.1 < ns /\ okV np L[k]!.2 /\ ∃ x ∈ l, x.st = L[k]!.1 /\ x.vec = L[k]!.2) : LimPart ns np l x L (k + 1) (P ++ [L[k]!]) d := by
 refine ⟨by have := h.few; simp only [List.length_append, List.length_singleton]; omega, fun y hy' => ?_, fun hd => List.mem_append_left _ (h.has hd), fun i hi => ?_⟩
 ·rcases List.mem_append.1 hy' with h1 | h1
  ·exact h.real y h1
  ·rw [List.mem_singleton] at h1; subst h1; exact hy
 ·by_cases hk : i < k
  ·rcases h.old i hk with h1 | h1
   ·exact .inl (List.mem_append_left _ h1)
   ·exact .inr h1
  ·have : i = k := by omega
   subst this
   exact .inl (List.mem_append_right _ (List.mem_singleton.2 rfl))
theorem LimPart.put {ns np : Nat} {l : List ND} {x : ND} {L P : List SV} {k : Nat} (h : LimPart ns np l x L k P false) (hx : x ∈ l) (ho : 0 <= x.st /\ x.st < ns /\ okV np x.vec) : LimPart ns np l x L k (P ++ [(x.st, x.vec)]) true := by
 refine ⟨by have := h.few; simp only [List.length_append, List.length_singleton] at *; simp at *; omega, fun y hy' => ?_, fun _ => List.mem_append_right _ (List.mem_singleton.2 rfl), fun i hi => ?_⟩
 ·rcases List.mem_append.1 hy' with h1 | h1
  ·exact h.real y h1
  ·rw [List.mem_singleton] at h1; subst h1; exact ⟨ho.1, ho.2.1, ho.2.2, x, hx, rfl, rfl⟩
 ·rcases h.old i hi with h1 | h1
  ·exact .inl (List.mem_append_left _ h1)
  ·exact .inr h1
theorem LimPart.done {ns np : Nat} {l : List ND} {L P : List SV} {n : Nat} (hL : LimOk ns np l n L) (h : LimPart ns np l l[n]! L L.length P true) : LimOk ns np l (n + 1) P := by
 refine ⟨by have h1 := h.few; have h2 := hL.few; simp only [if_true] at h1; omega, h.real, fun i hi => ?_⟩
 have hx := h.has rfl
 by_cases hk : i < n
 ·obtain ⟨y, hy, g1, g2⟩ := hL.all i hk
  obtain ⟨a, ha, rfl⟩ := mem_bangSV hy
  rcases h.old a ha with h1 | ⟨h1, h2⟩
  ·exact ⟨_, h1, g1, g2⟩
  ·exact ⟨_, hx, by rw [<- g1, h1], fun j hj => by have := g2 j hj; have := h2 j hj; show _ <= l[n]!.vec[j]!; omega⟩
 ·have : i = n := by omega
  subst this
  exact ⟨_, hx, rfl, fun j _ => Int.le_refl _⟩
theorem LimOk.cover {ns np : Nat} {l : List ND} {L : List SV} {n : Nat} (hL : LimOk ns np l n L) (h : ∃ y ∈ L, y.1 = l[n]!.st /\ ∀ j, j < np -> l[n]!.vec[j]! <= y.2[j]!) : LimOk ns np l (n + 1) L := by
 refine ⟨by have := hL.few; omega, hL.real, fun i hi => ?_⟩
 by_cases hk : i < n
 ·exact hL.all i hk
 ·have : i = n := by omega
  subst this
  exact h
def raised (v w : List Int) : Prop := ∀ i, i < v.length -> w[i]! = v[i]! \/ w[i]! = Om
theorem raised.le {np : Nat} {v w : List Int} (h : raised v w) (hv : okV np v) {i : Nat} (hi : i < v.length) : v[i]! <= w[i]! := by
 rcases h i hi with h1 | h1
 ·rw [h1]; exact Int.le_refl _
 ·rw [h1]; exact (hv.at (by have := hv.1; omega)).le
end Go.AM
namespace Go.AM
open Go Go.Proofs Go.RowKit
set_option maxRecDepth 100000
def elB (x : Int) : Bool := (decide (0 <= x) && decide (x <= 1048576)) || x == 1099511627776
def vecB (l : List Int) : Bool := l.all elB && decide (l.length <= 6)
def leqV (a b : List Int) : Bool := vecB a && vecB b && decide (a.length = b.length) && (List.range a.length).all fun i => decide (a[i]! <= b[i]!)
theorem con_relem (x : Int) : Con Tryz.prog 79 [vi x] [] fun r _ => r = vb (elB x) := by
 refine Con.intro Tryz.func79 rfl Tryz.ntmps79 Tryz.results79 (by kernel_rfl) (by simp) 0 (by simp) ?_
 unfold elB
 by_cases h1 : 0 <= x
 ·by_cases h2 : x <= 1048576
  ·simp only [go_sem, h1, h2, decide_true, Bool.true_and, Bool.true_or]
  ·simp only [go_sem, h1, h2, decide_true, decide_false, Bool.true_and, Bool.false_or]
 ·simp only [go_sem, h1, decide_false, Bool.false_and, Bool.false_or]
theorem con_rvecValid (l : List Int) (hl : l.length <= 1000000) : Con Tryz.prog 55 [vs 0 l] [] fun r _ => r = vb (vecB l) := by
 refine Con.intro Tryz.func55 rfl Tryz.ntmps55 Tryz.results55 (by kernel_rfl) (by simp) 0 (by simp) ?_
 unfold vecB
 simp only [go_sem]
 refine LoopK.intro (fun i : Nat => ⟨19, [(0, vs 0 l), (3, vi i)], []⟩) (fun i => l.length - i) (fun i => i <= l.length /\ ∀ j, j < i -> elB l[j]! = true) 0 ⟨by omega, fun j hj => by omega⟩ ?_ ?_
 ·simp only [go_sem]
 rintro i ⟨hi, hj⟩
 by_cases h : i < l.length
 ·have hg := getv h
  have hw : IntKind.i64.wrap (i + 1) = i + 1 := wrap_in (by omega) (by omega)
  simp only [go_sem, h, hg]
  refine CallU.free (con_relem l[i]!) (by simp only [go_sem]) (by simp only [go_sem]) ?_
  rintro r bx rfl
  cases hb : elB l[i]!
  ·have e : l.all elB = false := by
    rw [List.all_eq_false]
    exact ⟨l[i]!, mem_bangI h, by rw [hb]; simp⟩
   simp only [go_sem, e, Bool.false_and]
  ·simp only [go_sem, hw]
   refine roundK.intro (i + 1) ⟨by omega, fun j hj2 => ?_⟩ (by omega) ?_
   ·by_cases e : j = i
    ·rw [e, hb]
    ·exact hj j (by omega)
   simp only [go_sem]
 ·have e : l.all elB = true := by
   rw [List.all_eq_true]
   intro x hx
   obtain ⟨j, hj2, rfl⟩ := List.getElem_of_mem hx
   have := hj j (by omega)
   rw [getElem!_pos l j hj2] at this
   exact this
  have e2 : decide ((l.length : Int) <= 6) = decide (l.length <= 6) := by simp; omega
  simp only [go_sem, h, e, Bool.true_and]
theorem con_rvecLeq (a b : List Int) (ha : a.length <= 1000000) (hb : b.length <= 1000000) : Con Tryz.prog 29 [vs 0 a, vs 0 b] [] fun r _ => r = vb (leqV a b) := by
 refine Con.intro Tryz.func29 rfl Tryz.ntmps29 Tryz.results29 (by kernel_rfl) (by simp) 0 (by simp) ?_
 unfold leqV
 simp only [go_sem]
 refine CallU.free (con_rvecValid a ha) (by simp only [go_sem]) (by simp only [go_sem]) ?_
 rintro r bx rfl
 cases h1 : vecB a
 ·simp only [go_sem, Bool.false_and]
 simp only [go_sem]
 refine CallU.free (con_rvecValid b hb) (by simp only [go_sem]) (by simp only [go_sem]) ?_
 rintro r bx rfl
 cases h2 : vecB b
 ·simp only [go_sem, Bool.false_and]
 by_cases h3 : a.length = b.length
 case neg =>
  have h3' : ((a.length : Int) != (b.length : Int)) = true := bne_iff_ne.2 (by omega)
  simp only [go_sem, h3', h3, decide_false, Bool.and_false, Bool.false_and]
 have h3' : ((a.length : Int) != (b.length : Int)) = false := by rw [h3]; simp
 rw [decide_eq_true h3, Bool.true_and]
 simp only [go_sem, h3']
 refine LoopK.intro (fun i : Nat => ⟨36, [(0, vs 0 a), (1, vs 0 b), (5, vi i)], []⟩) (fun i => a.length - i) (fun i => i <= a.length /\ ∀ j, j < i -> a[j]! <= b[j]!) 0 ⟨by omega, fun j hj => by omega⟩ ?_ ?_
 ·simp only [go_sem]
 rintro i ⟨hi, hj⟩
 by_cases h : i < a.length
 ·have h' : i < b.length := by omega
  have hg := getv h
  have hg' := getv h'
  have hw : IntKind.i64.wrap (i + 1) = i + 1 := wrap_in (by omega) (by omega)
  simp only [go_sem, h]
  refine DrawK.walk 9 mixed (by kernel_rfl) ?_
  simp only [go_sem, h, h', hg, hg']
  by_cases hlt : b[i]! < a[i]!
  ·have e : ((List.range a.length).all fun i => decide (a[i]! <= b[i]!)) = false := by
    rw [List.all_eq_false]
    exact ⟨i, List.mem_range.2 h, by rw [decide_eq_true_eq]; omega⟩
   simp only [go_sem, hlt, e]
  ·simp only [go_sem, hlt, hw]
   refine roundK.intro (i + 1) ⟨by omega, fun j hj2 => ?_⟩ (by omega) ?_
   ·by_cases e : j = i
    ·rw [e]; omega
    ·exact hj j (by omega)
   simp only [go_sem]
 ·have e : ((List.range a.length).all fun i => decide (a[i]! <= b[i]!)) = true := by
   rw [List.all_eq_true]
   intro j hj2
   rw [List.mem_range] at hj2
   rw [decide_eq_true_eq]
   exact hj j (by omega)
  simp only [go_sem, h, e]
def vLim (y : SV) : AV := .ag [vi y.1, vs 0 y.2]
def vND (x : ND) : AV := .ag [vi x.st, vs 0 x.vec, vi x.par, vi x.rule]
attribute [go_sem] vLim vND
theorem getLim {l : List SV} {i : Nat} (h : i < l.length) : (l.map vLim)[i]? = some (vLim l[i]!) := by
 rw [List.getElem?_map, List.getElem?_eq_getElem h, getElem!_pos l i h, Option.map_some]
theorem getND {l : List ND} {i : Nat} (h : i < l.length) : (l.map vND)[i]? = some (vND l[i]!) := by
 rw [List.getElem?_map, List.getElem?_eq_getElem h, getElem!_pos l i h, Option.map_some]
theorem mem_bangL {l : List SV} {i : Nat} (h : i < l.length) : l[i]! ∈ l := by rw [getElem!_pos l i h]; exact List.getElem_mem h
def TellsL (f : FuncId) (caps : List AV) (l : List SV) (p : SV -> Bool) : Prop := ∀ x ∈ l, Con Tryz.prog f ([vLim x] ++ caps) [] fun r _ => r = .sc (.bool (p x))
theorem con_indexLim (l : List SV) (f : FuncId) (caps : List AV) (p : SV -> Bool) (hc : mapTops (viewV []) caps = caps) (hf : TellsL f caps l p) (hl : l.length <= 9223372036854775806) : Con Tryz.prog 64 [.sl 0 2 (l.map vLim), .fn f caps] [] fun r _ => r = vi (findI p l) := by
 refine Con.intro Tryz.func64 rfl Tryz.ntmps64 Tryz.results64 (by kernel_rfl) (by simp) 0 (by simp) ?_
 simp only [go_sem]
 refine LoopK.intro (fun i : Nat => ⟨19, [(0, .sl 0 2 (l.map vLim)), (1, .fn f caps), (7, vi l.length), (8, vi i)], []⟩)
  (fun i => l.length - i) (fun i => i <= l.length /\ ∀ j, j < i -> p l[j]! = false) 0 ⟨by omega, fun j hj => by omega⟩ ?_ ?_
 ·simp only [go_sem]
  all_goals exact leV_refl _
 ·rintro i ⟨hi, hb⟩
  by_cases h : i < l.length
  ·have hg := getLim h
   have hw : IntKind.i64.wrap (i + 1) = i + 1 := wrap_in (by omega) (by omega)
   simp only [go_sem, h, hg]
   refine CallU.look (hf l[i]! (mem_bangL h)) (by simp only [go_sem]) (by simp only [go_sem, hc]) ?_
   rintro r bx rfl
   cases hp : p l[i]!
   ·simp only [go_sem, hw]
    refine roundK.intro (i + 1) ⟨by omega, fun j hj => ?_⟩ (by omega) ?_
    ·by_cases hji : j = i
     ·subst hji; exact hp
     ·exact hb j (by omega)
    ·simp only [go_sem]
   ·simp only [go_sem]
    rw [findI_stop h hb hp]
  ·simp only [go_sem, h]
   rw [findI_none (fun j hj => hb j (by omega))]
theorem con_containsLim (l : List SV) (f : FuncId) (caps : List AV) (p : SV -> Bool) (hc : mapTops (viewV []) caps = caps) (hf : TellsL f caps l p) (hl : l.length <= 9223372036854775806) : Con Tryz.prog 38 [.sl 0 2 (l.map vLim), .fn f caps] [] fun r _ => r = .sc (.bool (l.any p)) := by
 refine Con.intro Tryz.func38 rfl Tryz.ntmps38 Tryz.results38 (by kernel_rfl) (by simp) 0 (by simp) ?_
 simp only [go_sem]
 refine CallU.look (con_indexLim l f caps p hc hf hl) (by simp only [go_sem]) (by simp only [go_sem]) ?_
 rintro r bx rfl
 simp only [go_sem, findI_ge]
end Go.AM
