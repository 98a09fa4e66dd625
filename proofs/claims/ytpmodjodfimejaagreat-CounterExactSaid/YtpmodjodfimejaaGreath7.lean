/- Am4 LInv CmA CmB0 Ty LCand CmD CmE CmF CmG CmH CmI CmJ CmK CmL CmM CmN CmO CmP CmQ CmR CmS CmT CmU CrA CrB CrC CrD CrE CrF CrL -/
import Derived.Test.YtpmodjodfimejaaGreath6
import Derived.Test.YtpmodjodfimejaaGreatRows
import Derived.Test.YtpmodjodfimejaaGreath5
import Derived.Test.YtpmodjodfimejaaGreatProg
namespace Go.AM
open Go Go.Proofs Go.RowKit
inductive CV where
 | mk (n : Int) (kids : List CV)
 deriving Inhabited
def CV.n : CV -> Int
 | .mk n _ => n
def CV.kids : CV -> List CV
 | .mk _ k => k
mutual
def vV : CV -> AV
 | .mk n kids => .ag [vi n, .sl 0 2 (vVs kids)]
def vVs : List CV -> List AV
 | [] => []
 | x :: l => vV x :: vVs l
end
theorem vVs_map : ∀ l : List CV, vVs l = l.map vV
 | [] => rfl
 | x :: l => by rw [vVs, vVs_map l]; rfl
theorem vV_eq (a : CV) : vV a = .ag [vi a.n, .sl 0 2 (a.kids.map vV)] := by cases a; rw [vV, vVs_map]; rfl
def ordI (a b : Int) : Int := if a < b then -1 else if b < a then 1 else 0
mutual
def cmpV : CV -> CV -> Int
 | .mk n k, .mk m l => if n ≠ m then ordI n m else if k.length ≠ l.length then ordI k.length l.length else cmpVs k l
def cmpVs : List CV -> List CV -> Int
 | [], [] => 0
 | [], _ :: _ => -1
 | _ :: _, [] => 1
 | x :: k, y :: l => if cmpV x y ≠ 0 then cmpV x y else cmpVs k l
end
theorem ordI_zero {a b : Int} : ordI a b = 0 ↔ a = b := by unfold ordI; split <;> (try split) <;> omega
inductive CV.Ok : CV -> Prop
 | mk (n : Int) (k : List CV) : k.length <= 9223372036854775807 -> (∀ x ∈ k, CV.Ok x) -> CV.Ok (.mk n k)
theorem CV.Ok.len {a : CV} (h : a.Ok) : a.kids.length <= 9223372036854775807 := by cases h; assumption
theorem CV.Ok.kid {a : CV} (h : a.Ok) {x : CV} (hx : x ∈ a.kids) : x.Ok := by cases h with | mk n k _ h2 => exact h2 x hx
theorem kid_size {a x : CV} (h : x ∈ a.kids) : SizeOf.sizeOf x < SizeOf.sizeOf a := by
 cases a with
 | mk n k => have := List.sizeOf_lt_of_mem h; simp only [CV.kids] at *; rw [CV.mk.sizeOf_spec]; omega
theorem getvV {l : List CV} {i : Nat} (h : i < l.length) : (l.map vV)[i]? = some (.ag [.sc (.int .i64 l[i]!.n), .sl 0 2 (l[i]!.kids.map vV)]) := by
 rw [List.getElem?_map, List.getElem?_eq_getElem h, getElem!_pos l i h, Option.map_some, vV_eq]; rfl
def orF (l : List Int) : Int := (l.find? (· != 0)).getD 0
theorem or_cmp (a b : CV) : orF [ordI a.n b.n, ordI a.kids.length b.kids.length, cmpVs a.kids b.kids] = cmpV a b := by
 obtain ⟨n, k⟩ := a
 obtain ⟨m, l⟩ := b
 rw [cmpV]
 simp only [CV.n, CV.kids]
 unfold orF
 by_cases h : n = m
 ·rw [if_neg (fun h' => h' h), List.find?_cons_of_neg (by simp [ordI_zero, h])]
  by_cases h2 : k.length = l.length
  ·rw [if_neg (fun h' => h' h2), List.find?_cons_of_neg (by simp [ordI_zero, h2])]
   by_cases h3 : cmpVs k l = 0
   ·rw [List.find?_cons_of_neg (by simp [h3]), h3]; rfl
   ·rw [List.find?_cons_of_pos (by simp [h3])]; rfl
  ·rw [if_pos h2, List.find?_cons_of_pos (by simp [ordI_zero]; omega)]; rfl
 ·rw [if_pos h, List.find?_cons_of_pos (by simp [ordI_zero, h])]; rfl
theorem Sub.slE {t es : Nat} {xs ys : List AV} (hl : xs.length = ys.length) (hy : ∀ y ∈ ys, y.cells.length = es) (h : PW Sub (flat xs) (flat ys)) : Sub (.sl t es xs) (.sl t es ys) := fun S w v hv => by
 cases hv with
 | slNil _ _ a c h1 h2 h3 =>
  have : ys = [] := List.eq_nil_of_length_eq_zero (by simpa using hl.symm)
  subst this; exact .slNil t es a c h1 h2 h3
 | sl _ _ _ b off c vals h1 h2 h3 hc h4 h5 h0 h6 h7 =>
  rw [hl]
  refine .sl t es ys b off c vals h1 h2 (fun e => by rw [h3 e, hl]) (by omega) hy (by rw [<- h.1]; exact h5) h0 h6 fun j y u hj hu => ?_
  have hjl : j < (flat xs).length := by rw [h.1]; exact (List.getElem?_eq_some_iff.1 hj).1
  exact h.2 j _ y (List.getElem?_eq_getElem hjl) hj S w u (h7 j _ u (List.getElem?_eq_getElem hjl) hu)
theorem leV_slE {t es : Nat} {xs ys : List AV} (hl : xs.length = ys.length) (hy : ∀ y ∈ ys, y.cells.length = es) (h : PW Sub (flat xs) (flat ys)) : leV (.sl t es xs) (.sl t es ys) := leV_sem fun G w v hv => by
 cases hv with
 | froz h' => exact .froz (Sub.slE hl hy h _ _ _ h')
 | own _ _ _ _ e vals h1 h2 h3 h4 h0 h5 =>
  refine .own t es ys v e vals h1 (by rw [<- hl]; exact h2) h3 hy h0 ⟨by rw [<- h.1]; exact h5.1, fun j y u hj hu => ?_⟩
  have hjl : j < (flat xs).length := by rw [h.1]; exact (List.getElem?_eq_some_iff.1 hj).1
  exact h.2 j _ y (List.getElem?_eq_getElem hjl) hj _ _ u (h5.2 j _ u (List.getElem?_eq_getElem hjl) hu)
theorem share3 {body : (Exit -> St -> Prop) -> St -> Prop} {Q : Exit -> St -> Prop} {T : St -> Prop} {A : Prop} (h : (∀ τ, T τ -> LoopK body Q τ) -> A) (key : ∀ τ, T τ -> LoopK body Q τ) : A := h key
end Go.AM
namespace Go.AM
structure RD where
 name : ByteArray
 src : Int
 dst : Int
 need : List Int
 give : List Int
 move : List Int
 channel : Int := 0
 act : Int := 0
 letter : Int := 0
 path : List Int := []
 next : List Int := []
 takes : List (Int × Int × Int) := []
 makes : List Int := []
 second : Int := 0
 deriving Inhabited
structure AtomD where
 coefs : List Int
 mod : Int
 values : List Int
 deriving Inhabited
end Go.AM
namespace Go.AM
open Go Go.Proofs Go.RowKit
def vStr (s : ByteArray) : AV := .sc (.string s)
def vss (l : List ByteArray) : AV := .sl 0 1 (l.map vStr)
def vTake (t : Int × Int × Int) : AV := .ag [vi t.1, vi t.2.1, vi t.2.2]
def vRule (r : RD) : AV := .ag [vStr r.name, vi r.src, vi r.dst, vs 0 r.need, vs 0 r.give, vs 0 r.move, vi r.channel, vi r.act, vi r.letter, vs 0 r.path, vs 0 r.next, .sl 0 3 (r.takes.map vTake), vs 0 r.makes, vi r.second]
structure MD where
 kind : Int
 states : List ByteArray
 places : List ByteArray
 letters : List ByteArray := []
 ranks : List Int := []
 levels : Int := 0
 age : Int := 0
 rules : List RD
 start : CV
 deriving Inhabited
def cM (m : MD) : List AV := [vi m.kind, vss m.states, vss m.places, vss m.letters, vs 0 m.ranks, vi m.levels, vi m.age, .sl 0 14 (m.rules.map vRule), vi m.start.n, .sl 0 2 (m.start.kids.map vV)]
def vM (m : MD) : AV := .ag (cM m)
def letterB (c : UInt8) : Bool := decide (97 <= c) && decide (c <= 122)
def digitB (c : UInt8) : Bool := decide (48 <= c) && decide (c <= 57)
def partB (c : UInt8) : Bool := letterB c || digitB c || c == 95
def wordB (s : ByteArray) : Bool := decide (0 < s.size) && decide (s.size <= 12) && letterB (s.get! 0) && s.toList.all partB
def kwL : List ByteArray := [⟨#[109, 111, 100, 101, 108]⟩, ⟨#[115, 116, 97, 116, 101, 115]⟩, ⟨#[112, 108, 97, 99, 101, 115]⟩, ⟨#[108, 101, 116, 116, 101, 114, 115]⟩, ⟨#[108, 101, 118, 101, 108, 115]⟩, ⟨#[97, 103, 101]⟩, ⟨#[114, 117, 108, 101]⟩, ⟨#[110, 101, 101, 100]⟩, ⟨#[103, 105, 118, 101]⟩, ⟨#[109, 111, 118, 101]⟩, ⟨#[101, 109, 112, 116, 121]⟩, ⟨#[115, 101, 110, 100]⟩, ⟨#[114, 101, 99, 101, 105, 118, 101]⟩, ⟨#[112, 97, 116, 104]⟩, ⟨#[110, 101, 120, 116]⟩, ⟨#[116, 97, 107, 101]⟩, ⟨#[109, 97, 107, 101]⟩, ⟨#[115, 116, 97, 114, 116]⟩]
def keywordB (s : ByteArray) : Bool := kwL.any fun k => s.toList == k.toList
def okN (l : List ByteArray) (i : Nat) : Bool := wordB l[i]! && !keywordB l[i]! && !((l.take i).map fun s => s.data.toList).contains l[i]!.data.toList
def namesB (l : List ByteArray) : Bool := (List.range l.length).all (okN l)
def namesOf (m : MD) : List ByteArray := m.states ++ m.places ++ m.letters ++ m.rules.map RD.name
def betweenB (x low high : Int) : Bool := decide (low <= x) && decide (x <= high)
def smallB (l : List Int) : Bool := l.all fun x => betweenB x 0 16
def changesB (np : Nat) (r : RD) : Bool := decide (r.need.length = np) && decide (r.give.length = np) && smallB r.need && smallB r.give
def movesB (np : Nat) (r : RD) : Bool := (r.move.length == 0) || (decide (r.move.length = np) && r.move.all fun x => betweenB x (-1) (np - 1))
def indexB (x : Int) (n : Nat) : Bool := decide (0 <= x) && decide (x < n)
def ruleB (ns np : Nat) (r : RD) : Bool := indexB r.dst ns && indexB r.src ns && changesB np r && movesB np r
def bareB (r : RD) : Bool := r.channel == 0 && r.act == 0 && r.letter == 0 && r.path.length == 0 && r.next.length == 0 && r.takes.length == 0 && r.makes.length == 0 && r.second == 0
def confB (ns np : Nat) (c : CV) : Bool :=
 match c with
 | .mk n (x :: l) => n == 0 && decide (0 <= x.n) && decide (x.n < ns) && x.kids.length == 0 && l.length == np && l.all (fun k => decide (0 <= k.n) && decide (k.n <= 1048576) && k.kids.length == 0)
 | _ => false
structure GoodM (m : MD) : Prop where
 kind : m.kind = 1
 states : 1 <= m.states.length /\ m.states.length <= 8
 places : 1 <= m.places.length /\ m.places.length <= 6
 few : m.rules.length <= 12
 letters : m.letters = []
 ranks : m.ranks = []
 levels : m.levels = 0
 age : m.age = 0
 names : namesB (namesOf m) = true
 rules : ∀ r ∈ m.rules, ruleB m.states.length m.places.length r = true /\ bareB r = true
 start : confB m.states.length m.places.length m.start = true
theorem getRule {l : List RD} {i : Nat} (h : i < l.length) : (l.map vRule)[i]? = some (vRule l[i]!) := by
 rw [List.getElem?_map, List.getElem?_eq_getElem h, getElem!_pos l i h, Option.map_some]
theorem getStr {l : List ByteArray} {i : Nat} (h : i < l.length) : (l.map vStr)[i]? = some (.sc (.string l[i]!)) := by
 rw [List.getElem?_map, List.getElem?_eq_getElem h, getElem!_pos l i h, Option.map_some]; rfl
end Go.AM
namespace Go.Proofs.YtpmodjodfimejaaGreat
open Go.ChangeShapes Go.WideShapes Go.ChangeAt Go.RowKit Go.AM
theorem own : ownKnob Tryz.prog.godebug = none := by kernel_rfl
theorem laidOut : laidOutB Tryz.prog = true := by kernel_rfl
section
variable {H : Type} {enc : TypeId × Value -> H} {P : Program} {w : World} {base : Nat} {spare : Nat -> Bool} {held : Bool}
end
end Go.Proofs.YtpmodjodfimejaaGreat
namespace Go.AM
open Go Go.Proofs
theorem tinfo_3 : tinfo Tryz.prog 3 = some (1, 8, some (Value.int IntKind.i64 (0))) := by kernel_rfl
theorem agg_3 : aggT Tryz.prog 3 = some false := by kernel_rfl
theorem tinfo_4 : tinfo Tryz.prog 4 = some (1, 1, some (Value.bool false)) := by kernel_rfl
theorem tinfo_5 : tinfo Tryz.prog 5 = some (1, 1, some (Value.int IntKind.u8 (0))) := by kernel_rfl
theorem tinfo_9 : tinfo Tryz.prog 9 = some (1, 16, some (Value.string (ByteArray.mk (List.toArray [])))) := by kernel_rfl
theorem agg_9 : aggT Tryz.prog 9 = some false := by kernel_rfl
theorem tinfo_22 : tinfo Tryz.prog 22 = some (1, 24, some (Value.slice none 0 0)) := by kernel_rfl
theorem agg_22 : aggT Tryz.prog 22 = some false := by kernel_rfl
theorem tinfo_23 : tinfo Tryz.prog 23 = some (1, 24, some (Value.slice none 0 0)) := by kernel_rfl
theorem agg_23 : aggT Tryz.prog 23 = some false := by kernel_rfl
theorem tinfo_24 : tinfo Tryz.prog 24 = some (1, 24, some (Value.slice none 0 0)) := by kernel_rfl
theorem agg_24 : aggT Tryz.prog 24 = some false := by kernel_rfl
theorem tinfo_25 : tinfo Tryz.prog 25 = some (1, 24, some (Value.slice none 0 0)) := by kernel_rfl
theorem agg_25 : aggT Tryz.prog 25 = some false := by kernel_rfl
theorem tinfo_27 : tinfo Tryz.prog 27 = some (2, 32, some (Value.agg (List.toArray [Value.int IntKind.i64 (0), Value.slice none 0 0]))) := by kernel_rfl
theorem agg_27 : aggT Tryz.prog 27 = some true := by kernel_rfl
theorem tinfo_29 : tinfo Tryz.prog 29 = some (10, 176, some (Value.agg (List.toArray [Value.int IntKind.i64 (0), Value.slice none 0 0, Value.slice none 0 0, Value.slice none 0 0, Value.slice none 0 0, Value.int IntKind.i64 (0), Value.int IntKind.i64 (0), Value.slice none 0 0, Value.int IntKind.i64 (0), Value.slice none 0 0]))) := by kernel_rfl
theorem agg_29 : aggT Tryz.prog 29 = some true := by kernel_rfl
theorem tinfo_42 : tinfo Tryz.prog 42 = some (1, 24, some (Value.slice none 0 0)) := by kernel_rfl
theorem agg_42 : aggT Tryz.prog 42 = some false := by kernel_rfl
theorem tinfo_44 : tinfo Tryz.prog 44 = some (4, 64, some (Value.agg (List.toArray [Value.int IntKind.i64 (0), Value.int IntKind.i64 (0), Value.slice none 0 0, Value.slice none 0 0]))) := by kernel_rfl
theorem agg_44 : aggT Tryz.prog 44 = some true := by kernel_rfl
theorem agg_63 : aggT Tryz.prog 63 = some false := by kernel_rfl
theorem tinfo_64 : tinfo Tryz.prog 64 = some (1, 24, some (Value.slice none 0 0)) := by kernel_rfl
theorem agg_64 : aggT Tryz.prog 64 = some false := by kernel_rfl
theorem tinfo_66 : tinfo Tryz.prog 66 = some (14, 232, some (Value.agg (List.toArray [Value.string (ByteArray.mk (List.toArray [])), Value.int IntKind.i64 (0), Value.int IntKind.i64 (0), Value.slice none 0 0, Value.slice none 0 0, Value.slice none 0 0, Value.int IntKind.i64 (0), Value.int IntKind.i64 (0), Value.int IntKind.i64 (0), Value.slice none 0 0, Value.slice none 0 0, Value.slice none 0 0, Value.slice none 0 0, Value.int IntKind.i64 (0)]))) := by kernel_rfl
theorem agg_66 : aggT Tryz.prog 66 = some true := by kernel_rfl
theorem tinfo_81 : tinfo Tryz.prog 81 = some (1, 8, some (Value.int IntKind.u64 (0))) := by kernel_rfl
theorem agg_81 : aggT Tryz.prog 81 = some false := by kernel_rfl
theorem tinfo_83 : tinfo Tryz.prog 83 = some (3, 40, some (Value.agg (List.toArray [Value.slice none 0 0, Value.int IntKind.i64 (0), Value.int IntKind.u64 (0)]))) := by kernel_rfl
theorem tinfo_92 : tinfo Tryz.prog 92 = some (3, 24, some (Value.agg (List.toArray [Value.int IntKind.i64 (0), Value.int IntKind.i64 (0), Value.int IntKind.i64 (0)]))) := by kernel_rfl
theorem agg_92 : aggT Tryz.prog 92 = some true := by kernel_rfl
theorem tinfo_119 : tinfo Tryz.prog 119 = some (2, 16, some (Value.agg (List.toArray [Value.int IntKind.i64 (0), Value.int IntKind.i64 (0)]))) := by kernel_rfl
theorem tinfo_121 : tinfo Tryz.prog 121 = some (8, 64, some (Value.agg (List.toArray [Value.int IntKind.i64 (0), Value.int IntKind.i64 (0), Value.int IntKind.i64 (0), Value.int IntKind.i64 (0), Value.int IntKind.i64 (0), Value.int IntKind.i64 (0), Value.int IntKind.i64 (0), Value.int IntKind.i64 (0)]))) := by kernel_rfl
theorem agg_121 : aggT Tryz.prog 121 = some true := by kernel_rfl
theorem tinfo_145 : tinfo Tryz.prog 145 = some (1, 24, some (Value.slice none 0 0)) := by kernel_rfl
theorem agg_145 : aggT Tryz.prog 145 = some false := by kernel_rfl
theorem tinfo_147 : tinfo Tryz.prog 147 = some (2, 32, some (Value.agg (List.toArray [Value.int IntKind.i64 (0), Value.slice none 0 0]))) := by kernel_rfl
theorem agg_147 : aggT Tryz.prog 147 = some true := by kernel_rfl
theorem places_27 : placesOf Tryz.prog 27 = some [(0, 1), (1, 1)] := by kernel_rfl
theorem field_27_0 : fieldOf Tryz.prog 27 0 = some (0, 3) := by kernel_rfl
theorem field_27_1 : fieldOf Tryz.prog 27 1 = some (1, 25) := by kernel_rfl
theorem places_29 : placesOf Tryz.prog 29 = some [(0, 1), (1, 1), (2, 1), (3, 1), (4, 1), (5, 1), (6, 1), (7, 1), (8, 2)] := by kernel_rfl
theorem field_29_0 : fieldOf Tryz.prog 29 0 = some (0, 3) := by kernel_rfl
theorem field_29_1 : fieldOf Tryz.prog 29 1 = some (1, 23) := by kernel_rfl
theorem field_29_2 : fieldOf Tryz.prog 29 2 = some (2, 23) := by kernel_rfl
theorem field_29_3 : fieldOf Tryz.prog 29 3 = some (3, 23) := by kernel_rfl
theorem field_29_4 : fieldOf Tryz.prog 29 4 = some (4, 22) := by kernel_rfl
theorem field_29_5 : fieldOf Tryz.prog 29 5 = some (5, 3) := by kernel_rfl
theorem field_29_6 : fieldOf Tryz.prog 29 6 = some (6, 3) := by kernel_rfl
theorem field_29_7 : fieldOf Tryz.prog 29 7 = some (7, 24) := by kernel_rfl
theorem field_29_8 : fieldOf Tryz.prog 29 8 = some (8, 27) := by kernel_rfl
theorem places_44 : placesOf Tryz.prog 44 = some [(0, 1), (1, 1), (2, 1), (3, 1)] := by kernel_rfl
theorem field_44_0 : fieldOf Tryz.prog 44 0 = some (0, 3) := by kernel_rfl
theorem field_44_1 : fieldOf Tryz.prog 44 1 = some (1, 3) := by kernel_rfl
theorem field_44_2 : fieldOf Tryz.prog 44 2 = some (2, 22) := by kernel_rfl
theorem field_44_3 : fieldOf Tryz.prog 44 3 = some (3, 42) := by kernel_rfl
theorem places_66 : placesOf Tryz.prog 66 = some [(0, 1), (1, 1), (2, 1), (3, 1), (4, 1), (5, 1), (6, 1), (7, 1), (8, 1), (9, 1), (10, 1), (11, 1), (12, 1), (13, 1)] := by kernel_rfl
theorem field_66_0 : fieldOf Tryz.prog 66 0 = some (0, 9) := by kernel_rfl
theorem field_66_1 : fieldOf Tryz.prog 66 1 = some (1, 3) := by kernel_rfl
theorem field_66_2 : fieldOf Tryz.prog 66 2 = some (2, 3) := by kernel_rfl
theorem field_66_3 : fieldOf Tryz.prog 66 3 = some (3, 22) := by kernel_rfl
theorem field_66_4 : fieldOf Tryz.prog 66 4 = some (4, 22) := by kernel_rfl
theorem field_66_5 : fieldOf Tryz.prog 66 5 = some (5, 22) := by kernel_rfl
theorem field_66_6 : fieldOf Tryz.prog 66 6 = some (6, 3) := by kernel_rfl
theorem field_66_7 : fieldOf Tryz.prog 66 7 = some (7, 3) := by kernel_rfl
theorem field_66_8 : fieldOf Tryz.prog 66 8 = some (8, 3) := by kernel_rfl
theorem field_66_9 : fieldOf Tryz.prog 66 9 = some (9, 22) := by kernel_rfl
theorem field_66_10 : fieldOf Tryz.prog 66 10 = some (10, 22) := by kernel_rfl
theorem field_66_11 : fieldOf Tryz.prog 66 11 = some (11, 64) := by kernel_rfl
theorem field_66_12 : fieldOf Tryz.prog 66 12 = some (12, 22) := by kernel_rfl
theorem field_66_13 : fieldOf Tryz.prog 66 13 = some (13, 3) := by kernel_rfl
theorem places_83 : placesOf Tryz.prog 83 = some [(0, 1), (1, 1), (2, 1)] := by kernel_rfl
theorem field_83_0 : fieldOf Tryz.prog 83 0 = some (0, 22) := by kernel_rfl
theorem field_83_1 : fieldOf Tryz.prog 83 1 = some (1, 3) := by kernel_rfl
theorem field_83_2 : fieldOf Tryz.prog 83 2 = some (2, 81) := by kernel_rfl
theorem places_92 : placesOf Tryz.prog 92 = some [(0, 1), (1, 1), (2, 1)] := by kernel_rfl
theorem field_92_0 : fieldOf Tryz.prog 92 0 = some (0, 3) := by kernel_rfl
theorem field_92_1 : fieldOf Tryz.prog 92 1 = some (1, 3) := by kernel_rfl
theorem field_92_2 : fieldOf Tryz.prog 92 2 = some (2, 3) := by kernel_rfl
theorem places_119 : placesOf Tryz.prog 119 = some [(0, 1), (1, 1)] := by kernel_rfl
theorem places_121 : placesOf Tryz.prog 121 = some [(0, 2), (2, 2), (4, 2), (6, 2)] := by kernel_rfl
theorem field_121_0 : fieldOf Tryz.prog 121 0 = some (0, 119) := by kernel_rfl
theorem field_121_1 : fieldOf Tryz.prog 121 1 = some (2, 119) := by kernel_rfl
theorem field_121_2 : fieldOf Tryz.prog 121 2 = some (4, 119) := by kernel_rfl
theorem field_121_3 : fieldOf Tryz.prog 121 3 = some (6, 119) := by kernel_rfl
theorem places_147 : placesOf Tryz.prog 147 = some [(0, 1), (1, 1)] := by kernel_rfl
theorem field_147_0 : fieldOf Tryz.prog 147 0 = some (0, 3) := by kernel_rfl
theorem field_147_1 : fieldOf Tryz.prog 147 1 = some (1, 145) := by kernel_rfl
theorem mixed : Tryz.prog.follows .mixedOrders = true := by kernel_rfl
attribute [go_sem] Tryz.underlying0 Tryz.underlying1 Tryz.underlying2 tinfo_3 agg_3 Tryz.underlying3 tinfo_4 Tryz.underlying4 tinfo_5 Tryz.underlying5 Tryz.underlying6 Tryz.underlying7 Tryz.underlying8 tinfo_9 agg_9 Tryz.underlying9 Tryz.underlying10 Tryz.underlying11 Tryz.underlying12 Tryz.underlying13 Tryz.underlying14 Tryz.underlying15 Tryz.underlying16 Tryz.underlying17 Tryz.underlying18 Tryz.underlying19 Tryz.underlying20 Tryz.underlying21 tinfo_22 agg_22 Tryz.underlying22 tinfo_23 agg_23 Tryz.underlying23 tinfo_24 agg_24 Tryz.underlying24 tinfo_25 agg_25 Tryz.underlying25 Tryz.underlying26 tinfo_27 agg_27 Tryz.underlying27 Tryz.underlying28 tinfo_29 agg_29 Tryz.underlying29 Tryz.underlying30 Tryz.underlying31 Tryz.underlying32 Tryz.underlying33 Tryz.underlying34 Tryz.underlying35 Tryz.underlying36 Tryz.underlying37 Tryz.underlying38 Tryz.underlying39 Tryz.underlying40 Tryz.underlying41 tinfo_42 agg_42 Tryz.underlying42 Tryz.underlying43 tinfo_44 agg_44 Tryz.underlying44 Tryz.underlying45 Tryz.underlying46 Tryz.underlying47 Tryz.underlying48 Tryz.underlying49 Tryz.underlying50 Tryz.underlying51 Tryz.underlying52 Tryz.underlying53 Tryz.underlying54 Tryz.underlying55 Tryz.underlying56 Tryz.underlying57 Tryz.underlying58 Tryz.underlying59 Tryz.underlying60 Tryz.underlying61 Tryz.underlying62 agg_63 Tryz.underlying63 tinfo_64 agg_64 Tryz.underlying64 Tryz.underlying65 tinfo_66 agg_66 Tryz.underlying66 Tryz.underlying67 Tryz.underlying68 Tryz.underlying69 Tryz.underlying70 Tryz.underlying71 Tryz.underlying72 Tryz.underlying73 Tryz.underlying74 Tryz.underlying75 Tryz.underlying76 Tryz.underlying77 Tryz.underlying78 Tryz.underlying79 Tryz.underlying80 tinfo_81 agg_81 Tryz.underlying81 Tryz.underlying82 tinfo_83 Tryz.underlying83 Tryz.underlying84 Tryz.underlying85 Tryz.underlying86 Tryz.underlying87 Tryz.underlying88 Tryz.underlying89 Tryz.underlying90 Tryz.underlying91 tinfo_92 agg_92 Tryz.underlying92 Tryz.underlying93 Tryz.underlying94 Tryz.underlying95 Tryz.underlying96 Tryz.underlying97 Tryz.underlying98 Tryz.underlying99 Tryz.underlying100 Tryz.underlying101 Tryz.underlying102 Tryz.underlying103 Tryz.underlying104 Tryz.underlying105 Tryz.underlying106 Tryz.underlying107 Tryz.underlying108 Tryz.underlying109 Tryz.underlying110 Tryz.underlying111 Tryz.underlying112 Tryz.underlying113 Tryz.underlying114 Tryz.underlying115 Tryz.underlying116 Tryz.underlying117 Tryz.underlying118 tinfo_119 Tryz.underlying119 Tryz.underlying120 tinfo_121 agg_121 Tryz.underlying121 Tryz.underlying122 Tryz.underlying123 Tryz.underlying124 Tryz.underlying125 Tryz.underlying126 Tryz.underlying127 Tryz.underlying128 Tryz.underlying129 Tryz.underlying130 Tryz.underlying131 Tryz.underlying132 Tryz.underlying133 Tryz.underlying134 Tryz.underlying135 Tryz.underlying136 Tryz.underlying137 Tryz.underlying138 Tryz.underlying139 Tryz.underlying140 Tryz.underlying141 Tryz.underlying142 Tryz.underlying143 Tryz.underlying144 tinfo_145 agg_145 Tryz.underlying145 Tryz.underlying146 tinfo_147 agg_147 Tryz.underlying147 Tryz.underlying148 Tryz.underlying149 Tryz.underlying150 Tryz.underlying151 Tryz.underlying152 Tryz.underlying153 Tryz.underlying154 Tryz.underlying155 Tryz.underlying156 Tryz.underlying157 Tryz.underlying158 Tryz.underlying159 Tryz.underlying160 Tryz.underlying161 Tryz.underlying162 Tryz.underlying163 Tryz.underlying164 Tryz.underlying165 Tryz.underlying166 Tryz.underlying167 Tryz.underlying168 Tryz.underlying169 Tryz.underlying170 Tryz.underlying171 Tryz.underlying172 Tryz.underlying173 Tryz.underlying174 Tryz.underlying175 Tryz.underlying176 Tryz.underlying177 Tryz.underlying178 Tryz.underlying179 Tryz.underlying180 Tryz.underlying181 Tryz.underlying182 Tryz.underlying183 Tryz.underlying184 Tryz.underlying185 Tryz.underlying186 Tryz.underlying187 Tryz.underlying188 Tryz.underlying189 Tryz.underlying190 Tryz.underlying191 Tryz.underlying192 Tryz.underlying193 Tryz.underlying194 Tryz.underlying195 Tryz.underlying196 Tryz.underlying197 Tryz.underlying198 Tryz.underlying199 Tryz.underlying200 places_27 field_27_0 field_27_1 places_29 field_29_0 field_29_1 field_29_2 field_29_3 field_29_4 field_29_5 field_29_6 field_29_7 field_29_8 places_44 field_44_0 field_44_1 field_44_2 field_44_3 places_66 field_66_0 field_66_1 field_66_2 field_66_3 field_66_4 field_66_5 field_66_6 field_66_7 field_66_8 field_66_9 field_66_10 field_66_11 field_66_12 field_66_13 places_83 field_83_0 field_83_1 field_83_2 places_92 field_92_0 field_92_1 field_92_2 places_119 places_121 field_121_0 field_121_1 field_121_2 field_121_3 places_147 field_147_0 field_147_1
end Go.AM
namespace Go.AM
end Go.AM
namespace Go.AM
open Go Go.Proofs Go.RowKit
def diceA (l : List Int) (at_ : Nat) : List AV := [.sl 0 1 (l.map vu), .sc (.int .i64 at_)]
attribute [go_sem] diceA
set_option maxRecDepth 100000
theorem con_between (x low high : Int) : Con Tryz.prog 64 [vi x, vi low, vi high] [] fun r _ => r = vb (betweenB x low high) := by
 refine Con.intro Tryz.func64 rfl Tryz.ntmps64 Tryz.results64 (by kernel_rfl) (by simp) 0 (by simp) ?_
 unfold betweenB
 by_cases h1 : low <= x
 ·by_cases h2 : x <= high
  ·simp only [go_sem, h1, h2, Bool.and_true]
  ·simp only [go_sem, h1, h2, Bool.and_false]
 ·simp only [go_sem, h1, Bool.false_and]
theorem con_index (x : Int) (n : Int) (h1 : 0 <= n) (h2 : n <= 9223372036854775807) : Con Tryz.prog 118 [vi x, vi n] [] fun r _ => r = vb (decide (0 <= x) && decide (x < n)) := by
 refine Con.intro Tryz.func118 rfl Tryz.ntmps118 Tryz.results118 (by kernel_rfl) (by simp) 0 (by simp) ?_
 have hw : IntKind.i64.wrap (n - 1) = n - 1 := wrap_in (by omega) (by omega)
 have e : betweenB x 0 (n - 1) = (decide (0 <= x) && decide (x < n)) := by
  unfold betweenB
  congr 1
  exact decide_eq_decide.2 (by omega)
 simp only [go_sem, hw]
 refine CallU.free (con_between x 0 (n - 1)) (by simp only [go_sem]) (by simp only [go_sem]) ?_
 rintro r bx rfl
 simp only [go_sem, e]
def vAtom (a : AtomD) : AV := .ag [vs 0 a.coefs, vi a.mod, vs 0 a.values]
attribute [go_sem] vAtom
def u8v (c : UInt8) : AV := .sc (.int .u8 c.toNat)
attribute [go_sem] u8v vStr vss
theorem u8_low {k c : UInt8} {n : Nat} (h : k.toNat = n) : k <= c ↔ (n : Int) <= (c.toNat : Int) := UInt8.le_iff_toNat_le.trans (by rw [h]; omega)
theorem u8_high {k c : UInt8} {n : Nat} (h : k.toNat = n) : c <= k ↔ (c.toNat : Int) <= (n : Int) := UInt8.le_iff_toNat_le.trans (by rw [h]; omega)
theorem letterB_eq (c : UInt8) : letterB c = (decide ((97 : Int) <= (c.toNat : Int)) && decide ((c.toNat : Int) <= 122)) := by
 unfold letterB
 rw [decide_eq_decide.2 (u8_low (k := 97) (c := c) (n := 97) rfl), decide_eq_decide.2 (u8_high (k := 122) (c := c) (n := 122) rfl)]; rfl
theorem digitB_eq (c : UInt8) : digitB c = (decide ((48 : Int) <= (c.toNat : Int)) && decide ((c.toNat : Int) <= 57)) := by
 unfold digitB
 rw [decide_eq_decide.2 (u8_low (k := 48) (c := c) (n := 48) rfl), decide_eq_decide.2 (u8_high (k := 57) (c := c) (n := 57) rfl)]; rfl
theorem u8_eq {k c : UInt8} {n : Nat} (h : k.toNat = n) : (c == k) = (((c.toNat : Int)) == (n : Int)) := by
 rw [Bool.eq_iff_iff, beq_iff_eq, beq_iff_eq, <- UInt8.toNat_inj, h]; omega
theorem con_letter (c : UInt8) : Con Tryz.prog 162 [u8v c] [] fun r _ => r = vb (letterB c) := by
 refine Con.intro Tryz.func162 rfl Tryz.ntmps162 Tryz.results162 (by kernel_rfl) (by simp) 0 (by simp) ?_
 rw [letterB_eq]
 by_cases h1 : (97 : Int) <= (c.toNat : Int)
 ·by_cases h2 : (c.toNat : Int) <= 122
  ·simp only [go_sem, h1, h2, Bool.and_true]
  ·simp only [go_sem, h1, h2, Bool.and_false]
 ·simp only [go_sem, h1, Bool.false_and]
theorem con_digit (c : UInt8) : Con Tryz.prog 189 [u8v c] [] fun r _ => r = vb (digitB c) := by
 refine Con.intro Tryz.func189 rfl Tryz.ntmps189 Tryz.results189 (by kernel_rfl) (by simp) 0 (by simp) ?_
 rw [digitB_eq]
 by_cases h1 : (48 : Int) <= (c.toNat : Int)
 ·by_cases h2 : (c.toNat : Int) <= 57
  ·simp only [go_sem, h1, h2, Bool.and_true]
  ·simp only [go_sem, h1, h2, Bool.and_false]
 ·simp only [go_sem, h1, Bool.false_and]
theorem con_part (c : UInt8) : Con Tryz.prog 164 [u8v c] [] fun r _ => r = vb (partB c) := by
 refine Con.intro Tryz.func164 rfl Tryz.ntmps164 Tryz.results164 (by kernel_rfl) (by simp) 0 (by simp) ?_
 unfold partB
 rw [u8_eq (k := 95) (c := c) (n := 95) rfl]
 simp only [go_sem]
 refine CallU.free (con_letter c) (by simp only [go_sem]) (by simp only [go_sem]) ?_
 rintro r bx rfl
 cases h1 : letterB c
 ·simp only [go_sem]
  refine CallU.free (con_digit c) (by simp only [go_sem]) (by simp only [go_sem]) ?_
  rintro r bx rfl
  cases h2 : digitB c
  ·simp only [go_sem]
   all_goals simp
  ·simp only [go_sem]
   all_goals simp
 ·simp only [go_sem]
  all_goals simp
def runL (p : UInt8 -> Bool) (l : List UInt8) : Nat := (l.takeWhile p).length
theorem run_stop {p : UInt8 -> Bool} : ∀ {l : List UInt8} {i : Nat}, (∀ j, j < i -> p l[j]! = true) -> i <= l.length -> (i < l.length -> p l[i]! = false) -> runL p l = i
 | [], i, _, h2, _ => by simp at h2; subst h2; rfl
 | x :: l, 0, _, _, h3 => by
  have := h3 (by simp)
  simp at this
  simp [runL, this]
 | x :: l, i + 1, h1, h2, h3 => by
  have hx := h1 0 (by omega)
  simp at hx
  have := run_stop (p := p) (l := l) (i := i) (fun j hj => by simpa using h1 (j + 1) (by omega)) (by simpa using h2) (fun h => by simpa using h3 (by simpa using h))
  unfold runL at *
  rw [List.takeWhile_cons, hx, if_pos rfl, List.length_cons, this]
theorem run_all {p : UInt8 -> Bool} {l : List UInt8} : (runL p l == l.length) = l.all p := by
 unfold runL
 induction l with
 | nil => rfl
 | cons x l ih =>
  cases h : p x
  ·simp [h]
  ·simp only [List.takeWhile_cons, h, if_true, List.length_cons, List.all_cons, Bool.true_and]
   rw [<- ih]
   rw [Bool.eq_iff_iff]; simp
theorem ba_get {s : ByteArray} {i : Nat} (h : i < s.size) : s[i]? = some s.data.toList[i]! := by
 rw [getElem?_pos s i h]
 congr 1
 have h2 : i < s.data.toList.length := by simpa using h
 rw [getElem!_pos s.data.toList i h2, Array.getElem_toList]; rfl
theorem ba_len (s : ByteArray) : s.data.toList.length = s.size := Array.length_toList
theorem con_run (s : ByteArray) (f : FuncId) (p : UInt8 -> Bool) (hf : ∀ c, Con Tryz.prog f [u8v c] [] fun r _ => r = vb (p c)) (hs : s.size <= 9223372036854775806) : Con Tryz.prog 163 [vStr s, .fn f []] [] fun r _ => r = vi (runL p s.data.toList) := by
 refine Con.intro Tryz.func163 rfl Tryz.ntmps163 Tryz.results163 (by kernel_rfl) (by simp) 0 (by simp) ?_
 simp only [go_sem]
 refine LoopK.intro (fun i : Nat => ⟨20, [(0, vStr s), (1, .fn f []), (4, vi 0), (5, vi i)], []⟩)
  (fun i => s.size - i) (fun i => i <= s.size /\ ∀ j, j < i -> p s.data.toList[j]! = true) 0 ⟨by omega, fun j hj => by omega⟩ ?_ ?_
 ·simp only [go_sem]
  all_goals exact leV_refl _
 rintro i ⟨hi, hb⟩
 by_cases h : i < s.size
 ·have hg := ba_get h
  have hw : IntKind.i64.wrap (i + 1) = i + 1 := wrap_in (by omega) (by omega)
  simp only [go_sem, h, hg]
  refine CallU.free (hf s.data.toList[i]!) (by simp only [go_sem]) (by simp only [go_sem]) ?_
  rintro r bx rfl
  cases hp : p s.data.toList[i]!
  ·simp only [go_sem]
   rw [run_stop hb (by rw [ba_len]; exact hi) (fun _ => hp)]
  ·simp only [go_sem, hw]
   refine roundK.intro (i + 1) ⟨by omega, fun j hj => ?_⟩ (by omega) ?_
   ·by_cases hji : j = i
    ·subst hji; exact hp
    ·exact hb j (by omega)
   ·simp only [go_sem]
 ·simp only [go_sem, h]
  rw [run_stop hb (by rw [ba_len]; exact hi) (fun h' => absurd (by rw [ba_len] at h'; exact h') h)]
theorem size_zero {s : ByteArray} : (s.toList == ByteArray.toList { data := #[] }) = decide (s.size = 0) := by
 rw [ByteArray.toList_eq, ByteArray.toList_eq, <- ba_len]
 cases h : s.data.toList <;> simp
theorem con_word (s : ByteArray) (hs : s.size <= 9223372036854775806) : Con Tryz.prog 115 [vStr s] [] fun r _ => r = vb (wordB s) := by
 refine Con.intro Tryz.func115 rfl Tryz.ntmps115 Tryz.results115 (by kernel_rfl) (by simp) 0 (by simp) ?_
 have e : wordB s = (decide (0 < s.size) && decide (s.size <= 12) && letterB s.data.toList[0]! && (runL partB s.data.toList == s.data.toList.length)) := by
  rw [run_all]
  unfold wordB
  rw [ByteArray.toList_eq]
  by_cases h0 : 0 < s.size
  ·have h2 := ba_get h0
   congr 2
   rw [show s.get! 0 = s.data.toList[0]! from ?_]
   have h3 : 0 < s.data.toList.length := by rw [ba_len]; exact h0
   rw [getElem!_pos s.data.toList 0 h3, Array.getElem_toList]
   show s.data[0]! = _
   rw [getElem!_pos s.data 0 h0]
  ·rw [decide_eq_false h0]; simp
 rw [e]
 by_cases h0 : 0 < s.size
 ·have h0' : ¬ s.size = 0 := by omega
  have hg := ba_get h0
  by_cases h1 : (s.size : Int) <= 12
  ·have h1' : s.size <= 12 := by omega
   simp only [go_sem, size_zero, h0', h1]
   simp only [go_sem, hg]
   refine CallU.free (con_letter s.data.toList[0]!) (by simp only [go_sem]) (by simp only [go_sem]) ?_
   rintro r bx rfl
   cases h2 : letterB s.data.toList[0]!
   ·simp only [go_sem]
    all_goals simp
   ·simp only [go_sem]
    refine CallU.free (con_run s 164 partB con_part hs) (by simp only [go_sem]) (by simp only [go_sem]) ?_
    rintro r bx rfl
    simp only [go_sem, ba_len, h0, h1', decide_true, Bool.true_and]
    all_goals congr 2
  ·have h1' : ¬ s.size <= 12 := by omega
   simp only [go_sem, size_zero, h0', h1, h1']
   all_goals simp
 ·have h0' : s.size = 0 := by omega
  simp only [go_sem, size_zero, h0']
  all_goals simp
theorem mem_bangI {α : Type} [Inhabited α] {l : List α} {i : Nat} (h : i < l.length) : l[i]! ∈ l := by rw [getElem!_pos l i h]; exact List.getElem_mem h
def TellsI (f : FuncId) (caps : List AV) (l : List Int) (p : Int -> Bool) : Prop := ∀ x ∈ l, Con Tryz.prog f ([vi x] ++ caps) [] fun r _ => r = .sc (.bool (p x))
theorem con_indexInt (l : List Int) (f : FuncId) (caps : List AV) (p : Int -> Bool) (hc : mapTops (viewV []) caps = caps) (hf : TellsI f caps l p) (hl : l.length <= 9223372036854775806) : Con Tryz.prog 151 [vs 0 l, .fn f caps] [] fun r _ => r = vi (findI p l) := by
 refine Con.intro Tryz.func151 rfl Tryz.ntmps151 Tryz.results151 (by kernel_rfl) (by simp) 0 (by simp) ?_
 simp only [go_sem]
 refine LoopK.intro (fun i : Nat => ⟨19, [(0, vs 0 l), (1, .fn f caps), (7, vi l.length), (8, vi i)], []⟩)
  (fun i => l.length - i) (fun i => i <= l.length /\ ∀ j, j < i -> p l[j]! = false) 0 ⟨by omega, fun j hj => by omega⟩ ?_ ?_
 ·simp only [go_sem]
  all_goals exact leV_refl _
 ·rintro i ⟨hi, hb⟩
  by_cases h : i < l.length
  ·have hg := getv h
   have hw : IntKind.i64.wrap (i + 1) = i + 1 := wrap_in (by omega) (by omega)
   simp only [go_sem, h, hg]
   refine CallU.look (hf l[i]! (mem_bangI h)) (by simp only [go_sem]) (by simp only [go_sem, hc]) ?_
   rintro r bx rfl
   cases hp : p l[i]!
   ·simp only [go_sem, hw]
    refine roundK.intro (i + 1) ⟨by omega, fun j hj => ?_⟩ (by omega) ?_
    ·by_cases hji : j = i
     ·subst hji; exact hp
     ·exact hb j (by omega)
    ·simp only [go_sem]
   ·simp only [go_sem]
    rw [findI_stop h hb hp]
  ·simp only [go_sem, h]
   rw [findI_none (fun j hj => hb j (by omega))]
theorem con_containsInt (l : List Int) (f : FuncId) (caps : List AV) (p : Int -> Bool) (hc : mapTops (viewV []) caps = caps) (hf : TellsI f caps l p) (hl : l.length <= 9223372036854775806) : Con Tryz.prog 104 [vs 0 l, .fn f caps] [] fun r _ => r = .sc (.bool (l.any p)) := by
 refine Con.intro Tryz.func104 rfl Tryz.ntmps104 Tryz.results104 (by kernel_rfl) (by simp) 0 (by simp) ?_
 simp only [go_sem]
 refine CallU.look (con_indexInt l f caps p hc hf hl) (by simp only [go_sem]) (by simp only [go_sem]) ?_
 rintro r bx rfl
 simp only [go_sem, findI_ge]
def TellsR (f : FuncId) (caps : List AV) (l : List RD) (p : RD -> Bool) : Prop := ∀ x ∈ l, Con Tryz.prog f ([vRule x] ++ caps) [] fun r _ => r = .sc (.bool (p x))
attribute [go_sem] vRule
theorem con_indexRule (l : List RD) (f : FuncId) (caps : List AV) (p : RD -> Bool) (hc : mapTops (viewV []) caps = caps) (hf : TellsR f caps l p) (hl : l.length <= 9223372036854775806) : Con Tryz.prog 117 [.sl 0 14 (l.map vRule), .fn f caps] [] fun r _ => r = vi (findI p l) := by
 refine Con.intro Tryz.func117 rfl Tryz.ntmps117 Tryz.results117 (by kernel_rfl) (by simp) 0 (by simp) ?_
 simp only [go_sem]
 refine LoopK.intro (fun i : Nat => ⟨19, [(0, .sl 0 14 (l.map vRule)), (1, .fn f caps), (7, vi l.length), (8, vi i)], []⟩)
  (fun i => l.length - i) (fun i => i <= l.length /\ ∀ j, j < i -> p l[j]! = false) 0 ⟨by omega, fun j hj => by omega⟩ ?_ ?_
 ·simp only [go_sem]
  all_goals exact leV_refl _
 ·rintro i ⟨hi, hb⟩
  by_cases h : i < l.length
  ·have hg := getRule h
   have hw : IntKind.i64.wrap (i + 1) = i + 1 := wrap_in (by omega) (by omega)
   simp only [go_sem, h, hg]
   refine CallU.look (hf l[i]! (mem_bangI h)) (by simp only [go_sem]) (by simp only [go_sem, hc]) ?_
   rintro r bx rfl
   cases hp : p l[i]!
   ·simp only [go_sem, hw]
    refine roundK.intro (i + 1) ⟨by omega, fun j hj => ?_⟩ (by omega) ?_
    ·by_cases hji : j = i
     ·subst hji; exact hp
     ·exact hb j (by omega)
    ·simp only [go_sem]
   ·simp only [go_sem]
    rw [findI_stop h hb hp]
  ·simp only [go_sem, h]
   rw [findI_none (fun j hj => hb j (by omega))]
theorem con_containsRule (l : List RD) (f : FuncId) (caps : List AV) (p : RD -> Bool) (hc : mapTops (viewV []) caps = caps) (hf : TellsR f caps l p) (hl : l.length <= 9223372036854775806) : Con Tryz.prog 68 [.sl 0 14 (l.map vRule), .fn f caps] [] fun r _ => r = .sc (.bool (l.any p)) := by
 refine Con.intro Tryz.func68 rfl Tryz.ntmps68 Tryz.results68 (by kernel_rfl) (by simp) 0 (by simp) ?_
 simp only [go_sem]
 refine CallU.look (con_indexRule l f caps p hc hf hl) (by simp only [go_sem]) (by simp only [go_sem]) ?_
 rintro r bx rfl
 simp only [go_sem, findI_ge]
theorem con_all1 (x : Int) (g : FuncId) (caps : List AV) (p : Int -> Bool) (hc : mapTops (viewV []) caps = caps) (hf : Con Tryz.prog g ([vi x] ++ caps) [] fun r _ => r = .sc (.bool (p x))) : Con Tryz.prog 173 [vi x, .fp [.fn g caps] 0] [] fun r _ => r = .sc (.bool (!p x)) := by
 refine Con.intro Tryz.func173 rfl Tryz.ntmps173 Tryz.results173 (by kernel_rfl) (by simp) 0 (by simp) ?_
 simp only [go_sem]
 refine CallU.look hf (by simp only [go_sem]) (by simp only [go_sem, hc]) ?_
 rintro r bx rfl
 simp only [go_sem]
theorem any_not {α : Type} (p : α -> Bool) : ∀ l : List α, (!l.any fun x => !p x) = l.all p
 | [] => rfl
 | x :: l => by rw [List.any_cons, List.all_cons, <- any_not p l]; cases p x <;> simp
theorem con_all (l : List Int) (g : FuncId) (caps : List AV) (p : Int -> Bool) (hc : mapTops (viewV []) caps = caps) (hf : TellsI g caps l p) (hl : l.length <= 9223372036854775806) : Con Tryz.prog 124 [vs 0 l, .fn g caps] [] fun r _ => r = .sc (.bool (l.all p)) := by
 refine Con.intro Tryz.func124 rfl Tryz.ntmps124 Tryz.results124 (by kernel_rfl) (by simp) 1 (by simp) ?_
 simp only [go_sem]
 refine CallU.look (con_containsInt l 173 [.fp [.fn g caps] 0] (fun x => !p x) (by simp only [go_sem]) (fun x hx => con_all1 x g caps p hc (hf x hx)) hl) (by simp only [go_sem]) (by simp only [go_sem]) ?_
 rintro r bx rfl
 simp only [go_sem, any_not]
theorem beq_cut {a b : List Int} (h : a.length ≠ b.length) : (a == b) = false := by
 rw [beq_eq_false_iff_ne]; intro e; rw [e] at h; exact h rfl
theorem eqI_stop {a b : List Int} {i : Nat} (h : a[i]! ≠ b[i]!) : (a == b) = false := by
 rw [beq_eq_false_iff_ne]; intro e; rw [e] at h; exact h rfl
theorem eqI_all {a b : List Int} (hl : a.length = b.length) (h : ∀ j, j < a.length -> a[j]! = b[j]!) : (a == b) = true := by
 rw [beq_iff_eq]
 apply List.ext_getElem hl
 intro i h1 h2
 have := h i h1
 rw [getElem!_pos a i h1, getElem!_pos b i h2] at this; exact this
theorem con_equalInt (a b : List Int) (hl : a.length <= 9223372036854775806) : Con Tryz.prog 79 [vs 0 a, vs 0 b] [] fun r _ => r = .sc (.bool (a == b)) := by
 refine Con.intro Tryz.func79 rfl Tryz.ntmps79 Tryz.results79 (by kernel_rfl) (by simp) 0 (by simp) ?_
 by_cases he : a.length = b.length
 case neg =>
  have he' : ((a.length : Int) != (b.length : Int)) = true := bne_iff_ne.2 (by omega)
  simp only [go_sem, he', beq_cut he]
 simp only [go_sem, he]
 refine LoopK.intro (fun i : Nat => ⟨26, [(0, vs 0 a), (1, vs 0 b), (12, vi a.length), (13, vi i)], []⟩)
  (fun i => a.length - i) (fun i => i <= a.length /\ ∀ j, j < i -> a[j]! = b[j]!) 0 ⟨by omega, fun j hj => by omega⟩ ?_ ?_
 ·simp only [go_sem, he]
  all_goals exact leV_refl _
 rintro i ⟨hi, hb⟩
 by_cases h : i < a.length
 ·have h2 : i < b.length := by omega
  have g1 := getv h
  have g2 := getv h2
  have hw : IntKind.i64.wrap (i + 1) = i + 1 := wrap_in (by omega) (by omega)
  simp only [go_sem, h]
  refine DrawK.walk 9 mixed (by kernel_rfl) ?_
  by_cases hp : a[i]! = b[i]!
  ·simp only [go_sem, h, h2, g1, g2, hp, hw]
   refine roundK.intro (i + 1) ⟨by omega, fun j hj => ?_⟩ (by omega) ?_
   ·by_cases hji : j = i
    ·subst hji; exact hp
    ·exact hb j (by omega)
   ·simp only [go_sem]
  ·have hp' : (a[i]! != b[i]!) = true := bne_iff_ne.2 hp
   simp only [go_sem, h, h2, g1, g2, hp']
   rw [eqI_stop hp]
 ·simp only [go_sem, h]
  rw [eqI_all he (fun j hj => hb j (by omega))]
theorem con_indexStr (l : List ByteArray) (v : ByteArray) (hl : l.length <= 9223372036854775806) : Con Tryz.prog 190 [vss l, vStr v] [] fun r _ => r = vi (findI (fun x => v.toList == x.toList) l) := by
 refine Con.intro Tryz.func190 rfl Tryz.ntmps190 Tryz.results190 (by kernel_rfl) (by simp) 0 (by simp) ?_
 simp only [go_sem]
 refine LoopK.intro (fun i : Nat => ⟨19, [(0, vss l), (1, vStr v), (7, vi l.length), (8, vi i)], []⟩)
  (fun i => l.length - i) (fun i => i <= l.length /\ ∀ j, j < i -> (v.toList == l[j]!.toList) = false) 0 ⟨by omega, fun j hj => by omega⟩ ?_ ?_
 ·simp only [go_sem]
  all_goals exact leV_refl _
 ·rintro i ⟨hi, hb⟩
  by_cases h : i < l.length
  ·have hg := getStr h
   have hw : IntKind.i64.wrap (i + 1) = i + 1 := wrap_in (by omega) (by omega)
   cases hp : (v.toList == l[i]!.toList)
   ·simp only [go_sem, h, hg, hp, hw]
    refine roundK.intro (i + 1) ⟨by omega, fun j hj => ?_⟩ (by omega) ?_
    ·by_cases hji : j = i
     ·subst hji; exact hp
     ·exact hb j (by omega)
    ·simp only [go_sem]
   ·simp only [go_sem, h, hg, hp]
    rw [findI_stop (p := fun x : ByteArray => v.toList == x.toList) h hb hp]
  ·simp only [go_sem, h]
   rw [findI_none (p := fun x : ByteArray => v.toList == x.toList) (fun j hj => hb j (by omega))]
theorem con_containsStr (l : List ByteArray) (v : ByteArray) (hl : l.length <= 9223372036854775806) : Con Tryz.prog 165 [vss l, vStr v] [] fun r _ => r = .sc (.bool (l.any fun x => v.toList == x.toList)) := by
 refine Con.intro Tryz.func165 rfl Tryz.ntmps165 Tryz.results165 (by kernel_rfl) (by simp) 0 (by simp) ?_
 simp only [go_sem]
 refine CallU.free (con_indexStr l v hl) (by simp only [go_sem]) (by simp only [go_sem]) ?_
 rintro r bx rfl
 simp only [go_sem, findI_ge]
theorem con_keyword (s : ByteArray) : Con Tryz.prog 116 [vStr s] [] fun r _ => r = vb (keywordB s) := by
 refine Con.intro Tryz.func116 rfl Tryz.ntmps116 Tryz.results116 (by kernel_rfl) (by simp) 0 (by simp) ?_
 simp only [go_sem]
 refine CallU.flat (con_containsStr kwL s (by decide)) (by simp only [go_sem]) (by simp only [go_sem, kwL, List.map_cons, List.map_nil]) ?_
 rintro r bx rfl
 simp only [go_sem]
 rfl
def sumL {α : Type} (ls : List (List α)) (i : Nat) : Nat := ((ls.take i).map List.length).sum
theorem sumL_zero {α : Type} (ls : List (List α)) : sumL ls 0 = 0 := rfl
theorem sumL_succ {α : Type} {ls : List (List α)} {i : Nat} (h : i < ls.length) : sumL ls (i + 1) = sumL ls i + ls[i]!.length := by
 unfold sumL
 rw [List.take_add_one, List.getElem?_eq_getElem h, getElem!_pos ls i h, List.map_append, List.sum_append]
 simp only [Option.toList, List.map_cons, List.map_nil, List.sum_cons, List.sum_nil, Nat.add_zero]
theorem sumL_mono {α : Type} {ls : List (List α)} : ∀ {i : Nat}, sumL ls i <= ls.flatten.length := by
 intro i
 unfold sumL
 rw [<- List.length_flatten]
 have h : ls.flatten = (ls.take i).flatten ++ (ls.drop i).flatten := by rw [<- List.flatten_append, List.take_append_drop]
 rw [h, List.length_append]; omega
theorem flat_succ {α : Type} {ls : List (List α)} {i : Nat} (h : i < ls.length) : (ls.take (i + 1)).flatten = (ls.take i).flatten ++ ls[i]! := by
 rw [List.take_add_one, List.getElem?_eq_getElem h, getElem!_pos ls i h, List.flatten_append]
 simp only [Option.toList, List.flatten_cons, List.flatten_nil, List.append_nil]
theorem getRow {ls : List (List ByteArray)} {i : Nat} (h : i < ls.length) : (ls.map vss)[i]? = some (.sl 0 1 (ls[i]!.map vStr)) := by
 rw [List.getElem?_map, List.getElem?_eq_getElem h, getElem!_pos ls i h, Option.map_some]; rfl
theorem con_growStr (n : Nat) (h1 : 1 <= n) (h2 : n <= 1000000) : Con Tryz.prog 161 [.nil, vi n] [] fun r _ => r = .sl 2 1 [] := by
 refine Con.intro Tryz.func161 rfl Tryz.ntmps161 Tryz.results161 (by kernel_rfl) (by simp) 0 (by simp) ?_
 have a1 : ¬ ((n : Int) < 0) := by omega
 have a2 : (0 : Int) < (n : Int) := by omega
 have hw : IntKind.i64.wrap ((n : Int) - 0) = n := by rw [wrap_in (by omega) (by omega)]; omega
 have hz : IntKind.i64.wrap 0 = 0 := wrap_in (by omega) (by omega)
 simp only [go_sem, a1, a2, hz, hw]
 omega
theorem con_concatStr (ls : List (List ByteArray)) (h1 : 1 <= ls.flatten.length) (h2 : ls.flatten.length <= 1000000) (hl : ls.length <= 1000000) : Con Tryz.prog 114 [.sl 0 1 (ls.map vss)] [] fun r _ => r = .sl 2 1 (ls.flatten.map vStr) := by
 refine Con.intro Tryz.func114 rfl Tryz.ntmps114 Tryz.results114 (by kernel_rfl) (by simp) 0 (by simp) ?_
 simp only [go_sem]
 refine LoopK.intro (fun i : Nat => ⟨36, [(0, .sl 0 1 (ls.map vss)), (2, .nil), (3, vi (sumL ls i)), (9, .sl 0 1 (ls.map vss)), (10, vi ls.length), (11, vi i)], []⟩)
  (fun i => ls.length - i) (fun i => i <= ls.length) 0 (by omega) ?_ ?_
 ·simp only [go_sem, sumL_zero]
  all_goals exact leV_refl _
 rintro i hi
 have hm := sumL_mono (ls := ls) (i := i)
 by_cases h : i < ls.length
 ·have hg := getRow h
  have hw : IntKind.i64.wrap (i + 1) = i + 1 := wrap_in (by omega) (by omega)
  have hm2 := sumL_mono (ls := ls) (i := i + 1)
  have hs := sumL_succ h
  have hw2 : IntKind.i64.wrap ((sumL ls i : Int) + (ls[i]!.length : Int)) = (sumL ls (i + 1) : Int) := by rw [wrap_in (by omega) (by omega)]; omega
  have a1 : ¬ ((sumL ls (i + 1) : Int) < 0) := by omega
  simp only [go_sem, h, hg, hw, hw2, a1]
  refine roundK.intro (i + 1) (by omega) (by omega) ?_
  simp only [go_sem]
 ·obtain rfl : i = ls.length := by omega
  have e : sumL ls ls.length = ls.flatten.length := by unfold sumL; rw [List.take_length, <- List.length_flatten]
  simp only [go_sem, h, e]
  refine CallU.free (con_growStr ls.flatten.length h1 h2) (by simp only [go_sem]) (by simp only [go_sem]) ?_
  rintro r bx rfl
  simp only [go_sem]
  refine LoopK.intro (fun i : Nat => ⟨36, [(0, .sl 0 1 (ls.map vss)), (2, .nil), (6, .sl 1602 1 (((ls.take i).flatten).map vStr)), (25, .sl 0 1 (ls.map vss)), (26, vi ls.length), (27, vi i)], []⟩)
   (fun i => ls.length - i) (fun i => i <= ls.length) 0 (by omega) ?_ ?_
  ·simp only [go_sem, List.take_zero, List.flatten_nil, List.map_nil]
   all_goals exact leV_refl _
  rintro i hi
  by_cases h : i < ls.length
  ·have hg := getRow h
   have hw : IntKind.i64.wrap (i + 1) = i + 1 := wrap_in (by omega) (by omega)
   have hm2 := sumL_mono (ls := ls) (i := i + 1)
   have hs := sumL_succ h
   have hf := flat_succ h
   have el : (ls.take i).flatten.length = sumL ls i := by unfold sumL; rw [List.length_flatten]
   simp only [go_sem, h, hg, hw]
   refine ⟨by simp only [roomFor, el]; omega, ?_⟩
   refine roundK.intro (i + 1) (by omega) (by omega) ?_
   simp only [go_sem, hf, List.map_append]
  ·obtain rfl : i = ls.length := by omega
   simp only [go_sem, h, List.take_length]
attribute [go_sem] vM cM
theorem leC_any : ∀ (l : List AV) (n : Nat), l.length = n -> leC l (List.replicate n .any)
 | [], _, h => by subst h; exact trivial
 | x :: l, _, h => by subst h; exact ⟨leV_any x, leC_any l l.length rfl⟩
theorem take_map_succ {α β : Type} [Inhabited α] {l : List α} {i : Nat} (f : α -> β) (h : i < l.length) : (l.take (i + 1)).map f = (l.take i).map f ++ [f l[i]!] := by
 rw [List.take_add_one, List.getElem?_eq_getElem h, getElem!_pos l i h, List.map_append]; rfl
theorem metD_le : ∀ (n : Nat) (ks : List (List UInt8)), ks.length = n -> mapLen (metD ks) <= n := by
 intro n
 induction n with
 | zero => intro ks h; obtain rfl := List.eq_nil_of_length_eq_zero h; exact Nat.le_refl _
 | succ n ih =>
  intro ks h
  obtain ⟨ks', x, rfl⟩ : ∃ ks' x, ks = ks' ++ [x] := ⟨ks.dropLast, ks.getLast (by intro e; rw [e] at h; simp at h), (List.dropLast_concat_getLast _).symm⟩
  have ih' := ih ks' (by simpa using h)
  have e : ∀ D : DataW Unit, mapLen D = Go.Maps.size D := fun D => by cases D <;> rfl
  rw [<- metD_snoc, e, Go.Maps.size_put (metD_tidy _), <- e]
  split <;> omega
theorem names_bad {l : List ByteArray} {i : Nat} (h : i < l.length) (hb : okN l i = false) : namesB l = false := by
 unfold namesB
 rw [List.all_eq_false]
 exact ⟨i, List.mem_range.2 h, by rw [hb]; simp⟩
theorem names_ok {l : List ByteArray} (h : ∀ i, i < l.length -> okN l i = true) : namesB l = true := by
 unfold namesB
 rw [List.all_eq_true]
 exact fun i hi => h i (List.mem_range.1 hi)
def namesTo (m : MD) (i : Nat) : List ByteArray := m.states ++ m.places ++ m.letters ++ (m.rules.take i).map RD.name
theorem namesTo_zero (m : MD) : namesTo m 0 = m.states ++ m.places ++ m.letters := by simp [namesTo]
theorem namesTo_succ {m : MD} {i : Nat} (h : i < m.rules.length) : namesTo m (i + 1) = namesTo m i ++ [m.rules[i]!.name] := by
 unfold namesTo
 rw [List.take_add_one, List.getElem?_eq_getElem h, getElem!_pos m.rules i h, List.map_append]
 simp only [Option.toList, List.map_cons, List.map_nil, List.append_assoc]
theorem namesTo_all (m : MD) : namesTo m m.rules.length = namesOf m := by unfold namesTo namesOf; rw [List.take_length]
theorem namesTo_len {m : MD} {i : Nat} : (namesTo m i).length <= (namesOf m).length := by
 unfold namesTo namesOf
 simp only [List.length_append, List.length_map, List.length_take]; omega
theorem con_named (m : MD) (h1 : 1 <= m.states.length) (h2 : (namesOf m).length <= 1000000) (hs : ∀ s ∈ namesOf m, s.size <= 9223372036854775806) : Con Tryz.prog 67 [vM m] [] fun r _ => r = vb (namesB (namesOf m)) := by
 refine Con.intro Tryz.func67 rfl Tryz.ntmps67 Tryz.results67 (by kernel_rfl) (by simp) 1 (by simp) ?_
 have h2' := h2
 unfold namesOf at h2'
 simp only [List.length_append, List.length_map] at h2'
 simp only [go_sem]
 refine CallU.freeze (con_concatStr [m.states, m.places, m.letters] (by simp; omega) (by simp; omega) (by simp)) (by simp only [go_sem]) (by simp only [go_sem, List.map_cons, List.map_nil]) ?_
 rintro r bx rfl
 have e0 : [m.states, m.places, m.letters].flatten = namesTo m 0 := by rw [namesTo_zero]; simp
 rw [e0]
 simp only [go_sem]
 refine LoopK.intro (fun i : Nat => ⟨52, [(1, .pb 0 0), (2, vb false), (3, .mp 640 Tryz.prog 9 4 (metD [])), (4, .sl 1154 1 ((namesTo m i).map vStr)), (19, .sl 0 14 (m.rules.map vRule)), (20, vi m.rules.length), (21, vi i)], cM m :: Rk 14 i⟩)
  (fun i => m.rules.length - i) (fun i => i <= m.rules.length) 0 (by omega) ?_ ?_
 ·simp only [go_sem]
  all_goals exact ⟨leV_refl _, leB_self _⟩
 rintro i hi
 have hn := namesTo_len (m := m) (i := i)
 by_cases h : i < m.rules.length
 ·have hg := getRule h
  have hw : IntKind.i64.wrap (i + 1) = i + 1 := wrap_in (by omega) (by omega)
  have hB := Rk_len 14 i
  have n0 := fun L : List (List AV) => app_at0 (L := L) hB
  have s0 := fun (L : List (List AV)) z => app_set0 (L := L) (z := z) hB
  have e := namesTo_succ h
  simp only [go_sem, h, hg, hw, hB, n0, s0]
  refine ⟨by simp only [roomFor]; omega, ?_⟩
  refine roundK.intro (i + 1) (by omega) (by omega) ?_
  simp only [go_sem, Rk_succ, e, List.map_append, List.map_cons, List.map_nil]
  exact leB_RkA ⟨leC_any _ 14 rfl, trivial⟩
 obtain rfl : i = m.rules.length := by omega
 rw [namesTo_all]
 simp only [go_sem, h]
 generalize hL : namesOf m = l at *
 refine LoopK.intro (fun i : Nat => ⟨52, [(1, .pb 0 0), (2, vb false), (3, .mp 640 Tryz.prog 9 4 (metD ((l.take i).map fun s => s.data.toList))), (31, .sl 1154 1 (l.map vStr)), (32, vi l.length), (33, vi i)], cM m :: Rk 14 m.rules.length⟩)
  (fun i => l.length - i) (fun i => i <= l.length /\ ∀ j, j < i -> okN l j = true) 0 ⟨by omega, fun j hj => by omega⟩ ?_ ?_
 ·simp only [go_sem, List.take_zero, List.map_nil]
  all_goals exact leV_refl _
 rintro i ⟨hi, hb⟩
 by_cases h : i < l.length
 ·have hg := getStr h
  have hw : IntKind.i64.wrap (i + 1) = i + 1 := wrap_in (by omega) (by omega)
  have hz := hs l[i]! (mem_bangI h)
  simp only [go_sem, h, hg]
  refine CallU.free (con_word l[i]! hz) (by simp only [go_sem]) (by simp only [go_sem]) ?_
  rintro r bx rfl
  cases a1 : wordB l[i]!
  ·simp only [go_sem]
   rw [names_bad h (by unfold okN; rw [a1]; rfl)]
  simp only [go_sem]
  refine CallU.free (con_keyword l[i]!) (by simp only [go_sem]) (by simp only [go_sem]) ?_
  rintro r bx rfl
  cases a2 : keywordB l[i]!
  case true =>
   simp only [go_sem]
   rw [names_bad h (by unfold okN; rw [a1, a2]; rfl)]
  simp only [go_sem]
  refine evLookup_str (k := 9) (e := 4) (by kernel_rfl) Tryz.underlying9 Tryz.underlying4 tinfo_4 rfl (by omega) ?_
  rw [metD_at]
  cases a3 : ((l.take i).map fun s => s.data.toList).contains l[i]!.data.toList
  case true =>
   simp only [go_sem]
   rw [names_bad h (by unfold okN; rw [a1, a2, a3]; rfl)]
  simp only [go_sem]
  have hlen := metD_le i ((l.take i).map fun s => s.data.toList) (by rw [List.length_map, List.length_take]; omega)
  refine evMapPut_str (k := 9) (e := 4) (by kernel_rfl) Tryz.underlying9 Tryz.underlying4 (by omega) (by omega) ?_
  rw [metD_snoc]
  simp only [go_sem, hw]
  refine roundK.intro (i + 1) ⟨by omega, fun j hj => ?_⟩ (by omega) ?_
  ·by_cases hji : j = i
   ·subst hji; unfold okN; rw [a1, a2, a3]; rfl
   ·exact hb j (by omega)
  ·simp only [go_sem, take_map_succ (fun s : ByteArray => s.data.toList) h]
   all_goals exact leV_refl _
 ·simp only [go_sem, h]
  rw [names_ok (fun j hj => hb j (by omega))]
set_option maxHeartbeats 8000000
def limF (k : Int) : List Int :=
 if k = 1 \/ k = 6 then [1, 6, 0, 0, 0, 0, 0, 0] else if k = 2 \/ k = 3 then [1, 2, 1, 6, 0, 0, 0, 0] else if k = 4 then [0, 0, 1, 6, 1, 2, 0, 0] else [1, 6, 0, 0, 0, 0, 0, 3]
abbrev lim (k : Int) (j : Nat) : Int := (limF k).getD j 0
def limV (l : List Int) : AV := .ag [vi (l.getD 0 0), vi (l.getD 1 0), vi (l.getD 2 0), vi (l.getD 3 0), vi (l.getD 4 0), vi (l.getD 5 0), vi (l.getD 6 0), vi (l.getD 7 0)]
theorem con_of (k : Int) : Con Tryz.prog 112 [vi k] [] fun r _ => r = limV (limF k) := by
 refine Con.intro Tryz.func112 rfl Tryz.ntmps112 Tryz.results112 (by kernel_rfl) (by simp) 0 (by simp) ?_
 by_cases k1 : k = 1
 ·subst k1; simp only [go_sem]; rfl
 have b1 : (k == 1) = false := beq_eq_false_iff_ne.2 k1
 by_cases k6 : k = 6
 ·subst k6; simp only [go_sem]; rfl
 have b6 : (k == 6) = false := beq_eq_false_iff_ne.2 k6
 by_cases k2 : k = 2
 ·subst k2; simp only [go_sem]; rfl
 have b2 : (k == 2) = false := beq_eq_false_iff_ne.2 k2
 by_cases k3 : k = 3
 ·subst k3; simp only [go_sem]; rfl
 have b3 : (k == 3) = false := beq_eq_false_iff_ne.2 k3
 by_cases k4 : k = 4
 ·subst k4; simp only [go_sem]; rfl
 have b4 : (k == 4) = false := beq_eq_false_iff_ne.2 k4
 have e : limF k = [1, 6, 0, 0, 0, 0, 0, 3] := by unfold limF; rw [if_neg (by omega), if_neg (by omega), if_neg (by omega)]
 rw [e]
 simp only [go_sem, b1, b6, b2, b3, b4]
 rfl
def sizedB (m : MD) : Bool := betweenB m.states.length 1 8 && decide (m.rules.length <= 12) && betweenB m.places.length (lim m.kind 0) (lim m.kind 1) && betweenB m.letters.length (lim m.kind 2) (lim m.kind 3) && betweenB m.levels (lim m.kind 4) (lim m.kind 5) && betweenB m.age (lim m.kind 6) (lim m.kind 7)
theorem con_sized (m : MD) : Con Tryz.prog 65 [vM m] [] fun r _ => r = vb (sizedB m) := by
 refine Con.intro Tryz.func65 rfl Tryz.ntmps65 Tryz.results65 (by kernel_rfl) (by simp) 2 (by simp) ?_
 simp only [go_sem]
 refine CallU.free (con_of m.kind) (by simp only [go_sem]) (by simp only [go_sem]) ?_
 rintro r bx rfl
 simp only [go_sem, limV]
 refine CallU.free (con_between m.states.length 1 8) (by simp only [go_sem]) (by simp only [go_sem]) ?_
 rintro r bx rfl
 unfold sizedB
 cases h1 : betweenB m.states.length 1 8
 ·simp only [go_sem, Bool.false_and]
 by_cases h2 : (m.rules.length : Int) <= 12
 case neg =>
  have h2' : ¬ m.rules.length <= 12 := by omega
  simp only [go_sem, h2, h2', decide_false, Bool.and_false, Bool.false_and]
 have h2' : m.rules.length <= 12 := by omega
 simp only [go_sem, h2, decide_true]
 refine CallU.free (con_between m.places.length (lim m.kind 0) (lim m.kind 1)) (by simp only [go_sem]) (by simp only [go_sem]) ?_
 rintro r bx rfl
 cases h3 : betweenB m.places.length (lim m.kind 0) (lim m.kind 1)
 ·simp only [go_sem, Bool.false_and]
 simp only [go_sem]
 refine CallU.free (con_between m.letters.length (lim m.kind 2) (lim m.kind 3)) (by simp only [go_sem]) (by simp only [go_sem]) ?_
 rintro r bx rfl
 cases h4 : betweenB m.letters.length (lim m.kind 2) (lim m.kind 3)
 ·simp only [go_sem, Bool.false_and]
 simp only [go_sem]
 refine CallU.free (con_between m.levels (lim m.kind 4) (lim m.kind 5)) (by simp only [go_sem]) (by simp only [go_sem]) ?_
 rintro r bx rfl
 cases h5 : betweenB m.levels (lim m.kind 4) (lim m.kind 5)
 ·simp only [go_sem, Bool.false_and]
 simp only [go_sem]
 refine CallU.free (con_between m.age (lim m.kind 6) (lim m.kind 7)) (by simp only [go_sem]) (by simp only [go_sem]) ?_
 rintro r bx rfl
 simp only [go_sem, h2', decide_true, Bool.true_and]
def rankedB (m : MD) : Bool := if m.kind = 3 then decide (m.ranks.length = m.letters.length) && m.ranks.all fun r => betweenB r 0 5 else m.ranks.length == 0
theorem con_ranked1 (x : Int) : Con Tryz.prog 113 [vi x] [] fun r _ => r = .sc (.bool (!betweenB x 0 5)) := by
 refine Con.intro Tryz.func113 rfl Tryz.ntmps113 Tryz.results113 (by kernel_rfl) (by simp) 0 (by simp) ?_
 simp only [go_sem]
 refine CallU.free (con_between x 0 5) (by simp only [go_sem]) (by simp only [go_sem]) ?_
 rintro r bx rfl
 simp only [go_sem]
theorem con_ranked (m : MD) (h1 : m.ranks.length <= 9223372036854775806) : Con Tryz.prog 66 [vM m] [] fun r _ => r = vb (rankedB m) := by
 refine Con.intro Tryz.func66 rfl Tryz.ntmps66 Tryz.results66 (by kernel_rfl) (by simp) 1 (by simp) ?_
 unfold rankedB
 by_cases k3 : m.kind = 3
 case neg =>
  have b3 : (m.kind != 3) = true := bne_iff_ne.2 k3
  rw [if_neg k3]
  simp only [go_sem, b3]
  congr 2
  rw [Bool.eq_iff_iff]; simp
 rw [if_pos k3]
 have b3 : (m.kind != 3) = false := by rw [k3]; rfl
 by_cases hl : m.ranks.length = m.letters.length
 case neg =>
  have hl' : ((m.ranks.length : Int) == (m.letters.length : Int)) = false := beq_eq_false_iff_ne.2 (by omega)
  simp only [go_sem, b3, hl', hl, decide_false, Bool.false_and]
 have hl' : ((m.ranks.length : Int) == (m.letters.length : Int)) = true := beq_iff_eq.2 (by omega)
 simp only [go_sem, b3, hl']
 refine CallU.free (con_containsInt m.ranks 113 [] (fun r => !betweenB r 0 5) rfl (fun x _ => con_ranked1 x) h1) (by simp only [go_sem]) (by simp only [go_sem]) ?_
 rintro r bx rfl
 simp only [go_sem, any_not, hl, decide_true, Bool.true_and]
theorem con_changes1 (x : Int) : Con Tryz.prog 166 [vi x] [] fun r _ => r = .sc (.bool (betweenB x 0 16)) := by
 refine Con.intro Tryz.func166 rfl Tryz.ntmps166 Tryz.results166 (by kernel_rfl) (by simp) 0 (by simp) ?_
 simp only [go_sem]
 refine CallU.free (con_between x 0 16) (by simp only [go_sem]) (by simp only [go_sem]) ?_
 rintro r bx rfl
 simp only [go_sem]
structure RD.Len (r : RD) : Prop where
 need : r.need.length <= 9223372036854775806
 give : r.give.length <= 9223372036854775806
 move : r.move.length <= 9223372036854775806
 path : r.path.length <= 9223372036854775806
 next : r.next.length <= 9223372036854775806
 takes : r.takes.length <= 9223372036854775806
 makes : r.makes.length <= 9223372036854775806
theorem con_changes (m : MD) (r : RD) (hl : r.Len) : Con Tryz.prog 119 [vM m, vRule r] [] fun x _ => x = vb (changesB m.places.length r) := by
 refine Con.intro Tryz.func119 rfl Tryz.ntmps119 Tryz.results119 (by kernel_rfl) (by simp) 2 (by simp) ?_
 unfold changesB
 by_cases h1 : r.need.length = m.places.length
 case neg =>
  have h1' : ((r.need.length : Int) == (m.places.length : Int)) = false := beq_eq_false_iff_ne.2 (by omega)
  simp only [go_sem, h1', h1, decide_false, Bool.false_and]
 have h1' : ((r.need.length : Int) == (m.places.length : Int)) = true := beq_iff_eq.2 (by omega)
 by_cases h2 : r.give.length = m.places.length
 case neg =>
  have h2' : ((r.give.length : Int) == (m.places.length : Int)) = false := beq_eq_false_iff_ne.2 (by omega)
  simp only [go_sem, h1', h2', h2, decide_false, Bool.false_and, Bool.and_false]
 have h2' : ((r.give.length : Int) == (m.places.length : Int)) = true := beq_iff_eq.2 (by omega)
 simp only [go_sem, h1', h2']
 refine CallU.free (con_all r.need 166 [] (fun x => betweenB x 0 16) rfl (fun x _ => con_changes1 x) hl.need) (by simp only [go_sem]) (by simp only [go_sem]) ?_
 rintro x bx rfl
 change _ /\ _
 cases h3 : smallB r.need
 ·have h3' : (r.need.all fun x => betweenB x 0 16) = false := h3
  simp only [go_sem, h3', Bool.false_and, Bool.and_false]
 have h3' : (r.need.all fun x => betweenB x 0 16) = true := h3
 simp only [go_sem, h3']
 refine CallU.free (con_all r.give 166 [] (fun x => betweenB x 0 16) rfl (fun x _ => con_changes1 x) hl.give) (by simp only [go_sem]) (by simp only [go_sem]) ?_
 rintro x bx rfl
 simp only [go_sem, h1, h2, decide_true, Bool.true_and]
 rfl
theorem con_moves1 (x : Int) (n : Nat) (hn : n <= 1000000) : Con Tryz.prog 167 [vi x, .fp [vi n] 0] [] fun r _ => r = .sc (.bool (betweenB x (-1) (n - 1))) := by
 refine Con.intro Tryz.func167 rfl Tryz.ntmps167 Tryz.results167 (by kernel_rfl) (by simp) 0 (by simp) ?_
 have hw : IntKind.i64.wrap ((n : Int) - 1) = n - 1 := wrap_in (by omega) (by omega)
 simp only [go_sem, hw]
 refine CallU.free (con_between x (-1) (n - 1)) (by simp only [go_sem]) (by simp only [go_sem]) ?_
 rintro r bx rfl
 simp only [go_sem]
theorem con_moves (m : MD) (r : RD) (hl : r.Len) (hm : m.places.length <= 1000000) : Con Tryz.prog 120 [vM m, vRule r] [] fun x _ => x = vb (movesB m.places.length r) := by
 refine Con.intro Tryz.func120 rfl Tryz.ntmps120 Tryz.results120 (by kernel_rfl) (by simp) 3 (by simp) ?_
 unfold movesB
 by_cases h1 : r.move.length = 0
 ·have h1' : ((r.move.length : Int) == 0) = true := beq_iff_eq.2 (by omega)
  simp only [go_sem, h1]
  all_goals simp
 have h1' : ((r.move.length : Int) == 0) = false := beq_eq_false_iff_ne.2 (by omega)
 have h1n : (r.move.length == 0) = false := beq_eq_false_iff_ne.2 h1
 by_cases h2 : r.move.length = m.places.length
 case neg =>
  have h2' : ((r.move.length : Int) == (m.places.length : Int)) = false := beq_eq_false_iff_ne.2 (by omega)
  simp only [go_sem, h1', h2', h1n, h2, decide_false, Bool.false_and, Bool.or_false]
 have h2' : ((r.move.length : Int) == (m.places.length : Int)) = true := beq_iff_eq.2 (by omega)
 simp only [go_sem, h1', h2']
 refine CallU.look (con_all r.move 167 [.fp [vi m.places.length] 0] (fun x => betweenB x (-1) (m.places.length - 1)) (by simp only [go_sem]) (fun x _ => con_moves1 x m.places.length hm) hl.move) (by simp only [go_sem]) (by simp only [go_sem]) ?_
 rintro x bx rfl
 simp only [go_sem]
 rw [h1n, decide_eq_true h2]; simp
theorem getTake {l : List (Int × Int × Int)} {i : Nat} (h : i < l.length) : (l.map vTake)[i]? = some (.ag [.sc (.int .i64 l[i]!.1), .sc (.int .i64 l[i]!.2.1), .sc (.int .i64 l[i]!.2.2)]) := by
 rw [List.getElem?_map, List.getElem?_eq_getElem h, getElem!_pos l i h, Option.map_some]; rfl
theorem eqA_stop {α : Type} [BEq α] [LawfulBEq α] [Inhabited α] {a b : List α} {i : Nat} (h : a[i]! ≠ b[i]!) : (a == b) = false := by
 rw [beq_eq_false_iff_ne]; intro e; rw [e] at h; exact h rfl
theorem eqA_all {α : Type} [BEq α] [LawfulBEq α] [Inhabited α] {a b : List α} (hl : a.length = b.length) (h : ∀ j, j < a.length -> a[j]! = b[j]!) : (a == b) = true := by
 rw [beq_iff_eq]
 apply List.ext_getElem hl
 intro i h1 h2
 have := h i h1
 rw [getElem!_pos a i h1, getElem!_pos b i h2] at this; exact this
theorem eqA_len {α : Type} [BEq α] [LawfulBEq α] {a b : List α} (h : a.length ≠ b.length) : (a == b) = false := by
 rw [beq_eq_false_iff_ne]; intro e; rw [e] at h; exact h rfl
@[go_sem] theorem flatF_Take : flatF Tryz.prog 92 = some [(0, true), (1, true), (2, true)] := by kernel_rfl
theorem con_equalTake (a b : List (Int × Int × Int)) (hl : a.length <= 9223372036854775806) : Con Tryz.prog 133 [.sl 0 3 (a.map vTake), .sl 0 3 (b.map vTake)] [] fun r _ => r = .sc (.bool (a == b)) := by
 refine Con.intro Tryz.func133 rfl Tryz.ntmps133 Tryz.results133 (by kernel_rfl) (by simp) 0 (by simp) ?_
 by_cases he : a.length = b.length
 case neg =>
  have he' : ((a.length : Int) != (b.length : Int)) = true := bne_iff_ne.2 (by omega)
  simp only [go_sem, he', eqA_len he]
 simp only [go_sem, he]
 refine LoopK.intro (fun i : Nat => ⟨26, [(0, .sl 0 3 (a.map vTake)), (1, .sl 0 3 (b.map vTake)), (12, vi a.length), (13, vi i)], []⟩)
  (fun i => a.length - i) (fun i => i <= a.length /\ ∀ j, j < i -> a[j]! = b[j]!) 0 ⟨by omega, fun j hj => by omega⟩ ?_ ?_
 ·simp only [go_sem, he]
  all_goals exact leV_refl _
 rintro i ⟨hi, hb⟩
 by_cases h : i < a.length
 ·have h2 : i < b.length := by omega
  have g1 := getTake h
  have g2 := getTake h2
  have hw : IntKind.i64.wrap (i + 1) = i + 1 := wrap_in (by omega) (by omega)
  simp only [go_sem, h]
  refine DrawK.walk 9 mixed (by kernel_rfl) ?_
  by_cases hp : a[i]! = b[i]!
  ·simp only [go_sem, h, h2, g1, g2, hp, hw]
   refine roundK.intro (i + 1) ⟨by omega, fun j hj => ?_⟩ (by omega) ?_
   ·by_cases hji : j = i
    ·subst hji; exact hp
    ·exact hb j (by omega)
   ·simp only [go_sem]
  ·have hp' : (a[i]!.fst == b[i]!.fst && (a[i]!.snd.fst == b[i]!.snd.fst && a[i]!.snd.snd == b[i]!.snd.snd)) = false := by
    rw [Bool.eq_false_iff]
    intro hh
    simp only [Bool.and_eq_true, beq_iff_eq] at hh
    exact hp (Prod.ext hh.1 (Prod.ext hh.2.1 hh.2.2))
   simp only [go_sem, h, h2, g1, g2, hp']
   rw [eqA_stop hp]
 ·simp only [go_sem, h]
  rw [eqA_all he (fun j hj => hb j (by omega))]
theorem con_same_self (a : RD) (hl : a.Len) : Con Tryz.prog 81 [vRule a, vRule a] [] fun x _ => x = vb true := by
 refine Con.intro Tryz.func81 rfl Tryz.ntmps81 Tryz.results81 (by kernel_rfl) (by simp) 2 (by simp) ?_
 dsimp only [List.append]
 simp only [go_sem, beq_self_eq_true]
 refine CallU.free (con_equalInt a.need a.need (hl.need)) (by simp only [go_sem]) (by simp only [go_sem]) ?_
 rintro r bx rfl
 simp only [go_sem, beq_self_eq_true]
 refine CallU.free (con_equalInt a.give a.give (hl.give)) (by simp only [go_sem]) (by simp only [go_sem]) ?_
 rintro r bx rfl
 simp only [go_sem, beq_self_eq_true]
 refine CallU.free (con_equalInt a.move a.move (hl.move)) (by simp only [go_sem]) (by simp only [go_sem]) ?_
 rintro r bx rfl
 simp only [go_sem, beq_self_eq_true]
 refine CallU.free (con_equalInt a.path a.path (hl.path)) (by simp only [go_sem]) (by simp only [go_sem]) ?_
 rintro r bx rfl
 simp only [go_sem, beq_self_eq_true]
 refine CallU.free (con_equalInt a.next a.next (hl.next)) (by simp only [go_sem]) (by simp only [go_sem]) ?_
 rintro r bx rfl
 simp only [go_sem, beq_self_eq_true]
 refine CallU.free (con_equalTake a.takes a.takes (hl.takes)) (by simp only [go_sem]) (by simp only [go_sem]) ?_
 rintro r bx rfl
 simp only [go_sem, beq_self_eq_true]
 refine CallU.free (con_equalInt a.makes a.makes (hl.makes)) (by simp only [go_sem]) (by simp only [go_sem]) ?_
 rintro r bx rfl
 simp only [go_sem, beq_self_eq_true]
theorem Con.leA {P : Program} {f : FuncId} {args args' : List AV} {bx : List (List AV)} {post : AV -> List (List AV) -> Prop} (h : Con P f args bx post) (ha : leC args' args) : Con P f args' bx post :=
 h.args fun _ _ _ hv => leC_pw ha hv
theorem DrawK.meet {P : Program} {ops : Array Oper} {σ : St} {K : St -> Prop} (τ : St) (h : DrawK P ops σ fun σ' => σ'.le τ) (hk : K τ) : DrawK P ops σ K :=
 fun G0 w0 G a w id Q t hs hQ => h G0 w0 G a w id Q t hs fun _ G' a' w' hl h' => hQ τ G' a' w' hk (h'.le hl)
theorem andK_mk {p q : Prop} (h1 : p) (h2 : q) : andK p q := ⟨h1, h2⟩
def rightTree : Tr := .front 0 (.front 2 (.front 4 (.alt (.one 1 (.front 6 (.alt (.one 3 (.alt (.one 5 (.one 7 (.front 8 (.one 9 (.front 10 (.one 11 .done)))))) (.one 7 (.front 8 (.alt (.one 5 (.one 9 (.front 10 (.one 11 .done)))) (.one 9 (.one 5 (.front 10 (.one 11 .done))))))))) (.alt (.one 5 (.alt (.one 3 (.one 7 (.front 8 (.one 9 (.front 10 (.one 11 .done)))))) (.one 7 (.one 3 (.front 8 (.one 9 (.front 10 (.one 11 .done)))))))) (.one 7 (.alt (.one 3 (.front 8 (.alt (.one 5 (.one 9 (.front 10 (.one 11 .done)))) (.one 9 (.one 5 (.front 10 (.one 11 .done))))))) (.one 5 (.one 3 (.front 8 (.one 9 (.front 10 (.one 11 .done)))))))))))) (.alt (.one 3 (.alt (.one 1 (.front 6 (.alt (.one 5 (.one 7 (.front 8 (.one 9 (.front 10 (.one 11 .done)))))) (.one 7 (.front 8 (.alt (.one 5 (.one 9 (.front 10 (.one 11 .done)))) (.one 9 (.one 5 (.front 10 (.one 11 .done)))))))))) (.one 5 (.one 1 (.front 6 (.one 7 (.front 8 (.one 9 (.front 10 (.one 11 .done)))))))))) (.one 5 (.alt (.one 1 (.front 6 (.alt (.one 3 (.one 7 (.front 8 (.one 9 (.front 10 (.one 11 .done)))))) (.one 7 (.one 3 (.front 8 (.one 9 (.front 10 (.one 11 .done))))))))) (.one 3 (.one 1 (.front 6 (.one 7 (.front 8 (.one 9 (.front 10 (.one 11 .done))))))))))))))
theorem bare_of {r : RD} (h : bareB r = true) : r = ⟨r.name, r.src, r.dst, r.need, r.give, r.move, 0, 0, 0, [], [], [], [], 0⟩ := by
 unfold bareB at h
 simp only [Bool.and_eq_true, beq_iff_eq] at h
 obtain ⟨⟨⟨⟨⟨⟨⟨h1, h2⟩, h3⟩, h4⟩, h5⟩, h6⟩, h7⟩, h8⟩ := h
 obtain ⟨a, b, c, d, e, f, g, h, i, j, k, l, m, n⟩ := r
 simp only at h1 h2 h3 h4 h5 h6 h7 h8
 rw [h1, h2, h3, List.eq_nil_of_length_eq_zero h4, List.eq_nil_of_length_eq_zero h5, List.eq_nil_of_length_eq_zero h6, List.eq_nil_of_length_eq_zero h7, h8]
abbrev bareR (nm : ByteArray) (s d : Int) (nd gv mv : List Int) : RD := ⟨nm, s, d, nd, gv, mv, 0, 0, 0, [], [], [], [], 0⟩
theorem con_same_only (nm : ByteArray) (s d : Int) (nd gv mv : List Int) (hl : (bareR nm s d nd gv mv).Len) : Con Tryz.prog 81 [vRule (bareR nm s d nd gv mv), .ag [vStr nm, vi s, vi d, vs 0 nd, vs 0 gv, vs 0 mv, vi 0, vi 0, vi 0, .nil, .nil, .nil, .nil, vi 0]] [] fun x _ => x = vb true :=
 (con_same_self _ hl).leA ⟨leV_refl _, leV_ag ⟨leV_refl _, leV_refl _, leV_refl _, leV_refl _, leV_refl _, leV_refl _, leV_refl _, leV_refl _, leV_refl _, leV_nil 0 1, leV_nil 0 1, leV_nil 0 3, leV_nil 0 1, leV_refl _, trivial⟩, trivial⟩
theorem con_right (m : MD) (r : RD) (hk : m.kind = 1) (hs : m.states.length <= 1000000) (hp : m.places.length <= 1000000) (hl : r.Len) (hr : ruleB m.states.length m.places.length r = true) (hb : bareB r = true) : Con Tryz.prog 70 [vM m, vRule r] [] fun x _ => x = vb true := by
 obtain ⟨nm, s, d, nd, gv, mv, rfl⟩ : ∃ nm s d nd gv mv, r = bareR nm s d nd gv mv := ⟨_, _, _, _, _, _, bare_of hb⟩
 refine Con.intro Tryz.func70 rfl Tryz.ntmps70 Tryz.results70 (by kernel_rfl) (by simp) 3 (by simp) ?_
 unfold ruleB indexB at hr
 simp only [Bool.and_eq_true] at hr
 obtain ⟨⟨⟨h1, h2⟩, h3⟩, h4⟩ := hr
 have h1 : (decide (0 <= d) && decide (d < (m.states.length : Int))) = true := by rw [Bool.and_eq_true]; exact h1
 have h2 : (decide (0 <= s) && decide (s < (m.states.length : Int))) = true := by rw [Bool.and_eq_true]; exact h2
 simp only [go_sem, List.map_nil]
 refine CallU.free (con_index d m.states.length (by omega) (by omega)) (by simp only [go_sem]) (by simp only [go_sem]) ?_
 rintro x bx rfl
 simp only [go_sem, h1]
 refine CallU.free (con_index s m.states.length (by omega) (by omega)) (by simp only [go_sem]) (by simp only [go_sem]) ?_
 rintro x bx rfl
 simp only [go_sem, h2, hk]
 refine DrawK.meet ⟨142, [(2, .pb 0 0), (3, .pb 1 0), (4, vb false), (6, .pb 2 0)], [cM m, [vStr nm, vi s, vi d, vs 0 nd, vs 0 gv, vs 0 mv, vi 0, vi 0, vi 0, vs 0 [], vs 0 [], .sl 0 3 [], vs 0 [], vi 0], [vStr nm, vi s, vi d, vs 0 nd, vs 0 gv, vs 0 mv, vi 0, vi 0, vi 0, .nil, .nil, .nil, .nil, vi 0]]⟩ ?_ ?_
 ·refine DrawK.tree rightTree mixed (by kernel_rfl) ?_
  unfold rightTree
  repeat' (first | with_reducible apply andK_mk | simp only [go_sem, hk, List.map_nil])
 ·simp only [go_sem]
  refine CallU.free (con_changes m (bareR nm s d nd gv mv) hl) (by simp only [go_sem]) (by simp only [go_sem, hk, List.map_nil]) ?_
  rintro x bx rfl
  simp only [go_sem, h3]
  refine CallU.free (con_moves m (bareR nm s d nd gv mv) hl hp) (by simp only [go_sem]) (by simp only [go_sem, hk, List.map_nil]) ?_
  rintro x bx rfl
  simp only [go_sem, h4]
  refine CallU.free (con_same_only nm s d nd gv mv hl) (by simp only [go_sem]) (by simp only [go_sem, List.map_nil]) ?_
  rintro x bx rfl
  simp only [go_sem]
theorem con_check1 (m : MD) (r : RD) (hk : m.kind = 1) (hs : m.states.length <= 1000000) (hp : m.places.length <= 1000000) (hl : r.Len) (hr : ruleB m.states.length m.places.length r = true) (hb : bareB r = true) : Con Tryz.prog 69 [vRule r, .fp (cM m) 0] [] fun x _ => x = .sc (.bool false) := by
 refine Con.intro Tryz.func69 rfl Tryz.ntmps69 Tryz.results69 (by kernel_rfl) (by simp) 1 (by simp) ?_
 simp only [go_sem]
 refine CallU.free (con_right m r hk hs hp hl hr hb) (by simp only [go_sem]) (by simp only [go_sem]) ?_
 rintro x bx rfl
 simp only [go_sem]
def vPT (p : Int × Int) : AV := .ag [vi p.1, vi p.2, .nil, .nil]
def partsP (ns np : Nat) : List (Int × Int) := (2, (ns : Int)) :: List.replicate np (1, 0)
def flatT (t : Nat) (ps : List (Int × Int)) : AV := .ag [vi 3, vi 0, .nil, .sl t 4 (ps.map vPT)]
attribute [go_sem] vPT flatT
theorem parts_len (ns np : Nat) : (partsP ns np).length = np + 1 := by simp [partsP]
theorem parts_succ (ns i : Nat) : partsP ns (i + 1) = partsP ns i ++ [(1, 0)] := by unfold partsP; rw [List.replicate_succ']; rfl
theorem getPT {l : List (Int × Int)} {i : Nat} (h : i < l.length) : (l.map vPT)[i]? = some (.ag [.sc (.int .i64 l[i]!.1), .sc (.int .i64 l[i]!.2), .nil, .nil]) := by
 rw [List.getElem?_map, List.getElem?_eq_getElem h, getElem!_pos l i h, Option.map_some]; rfl
theorem con_label (n : Nat) : Con Tryz.prog 137 [vi n] [] fun r _ => r = vPT (2, n) := by
 refine Con.intro Tryz.func137 rfl Tryz.ntmps137 Tryz.results137 (by kernel_rfl) (by simp) 0 (by simp) ?_
 simp only [go_sem]
theorem con_typed (m : MD) (hk : m.kind = 1) (hp : m.places.length <= 1000000) : Con Tryz.prog 85 [vM m] [] fun r _ => r = flatT 2 (partsP m.states.length m.places.length) := by
 refine Con.intro Tryz.func85 rfl Tryz.ntmps85 Tryz.results85 (by kernel_rfl) (by simp) 0 (by simp) ?_
 simp only [go_sem, hk]
 refine CallU.free (con_label m.states.length) (by simp only [go_sem]) (by simp only [go_sem]) ?_
 rintro r bx rfl
 simp only [go_sem]
 refine LoopK.intro (fun i : Nat => ⟨70, [(1, .pb 0 0), (2, .pb 1 0), (3, .sl 640 4 ((partsP m.states.length i).map vPT)), (14, vi m.places.length), (15, vi i)], cM m :: [.any, .any, .any, .any] :: Rk 4 i⟩)
  (fun i => m.places.length - i) (fun i => i <= m.places.length) 0 (by omega) ?_ ?_
 ·simp only [go_sem, hk, partsP, List.replicate_zero, List.map_cons, List.map_nil]
  exact leB_self _
 rintro i hi
 by_cases h : i < m.places.length
 ·have hw : IntKind.i64.wrap (i + 1) = i + 1 := wrap_in (by omega) (by omega)
  have hB := Rk_len 4 i
  have n0 := fun L : List (List AV) => app_at0 (L := L) hB
  have s0 := fun (L : List (List AV)) z => app_set0 (L := L) (z := z) hB
  have e := parts_succ m.states.length i
  simp only [go_sem, h, hk, hw, hB, n0, s0]
  refine ⟨by simp only [roomFor, parts_len]; omega, ?_⟩
  refine roundK.intro (i + 1) (by omega) (by omega) ?_
  simp only [go_sem, Rk_succ, e, List.map_append, List.map_cons, List.map_nil]
  exact leB_RkA ⟨leC_any _ 4 rfl, trivial⟩
 ·obtain rfl : i = m.places.length := by omega
  simp only [go_sem, h]
def TellsP (f : FuncId) (caps : List AV) (l : List (Int × Int)) (p : Int × Int -> Bool) : Prop := ∀ x ∈ l, Con Tryz.prog f ([vPT x] ++ caps) [] fun r _ => r = .sc (.bool (p x))
theorem con_indexPT (l : List (Int × Int)) (f : FuncId) (caps : List AV) (p : Int × Int -> Bool) (hc : mapTops (viewV []) caps = caps) (hf : TellsP f caps l p) (hl : l.length <= 9223372036854775806) : Con Tryz.prog 205 [.sl 0 4 (l.map vPT), .fn f caps] [] fun r _ => r = vi (findI p l) := by
 refine Con.intro Tryz.func205 rfl Tryz.ntmps205 Tryz.results205 (by kernel_rfl) (by simp) 0 (by simp) ?_
 simp only [go_sem]
 refine LoopK.intro (fun i : Nat => ⟨19, [(0, .sl 0 4 (l.map vPT)), (1, .fn f caps), (7, vi l.length), (8, vi i)], []⟩)
  (fun i => l.length - i) (fun i => i <= l.length /\ ∀ j, j < i -> p l[j]! = false) 0 ⟨by omega, fun j hj => by omega⟩ ?_ ?_
 ·simp only [go_sem]
  all_goals exact leV_refl _
 ·rintro i ⟨hi, hb⟩
  by_cases h : i < l.length
  ·have hg := getPT h
   have hw : IntKind.i64.wrap (i + 1) = i + 1 := wrap_in (by omega) (by omega)
   simp only [go_sem, h, hg]
   refine CallU.look (hf l[i]! (mem_bangI h)) (by simp only [go_sem]) (by simp only [go_sem, hc]) ?_
   rintro r bx rfl
   cases hp : p l[i]!
   ·simp only [go_sem, hw]
    refine roundK.intro (i + 1) ⟨by omega, fun j hj => ?_⟩ (by omega) ?_
    ·by_cases hji : j = i
     ·subst hji; exact hp
     ·exact hb j (by omega)
    ·simp only [go_sem]
   ·simp only [go_sem]
    rw [findI_stop h hb hp]
  ·simp only [go_sem, h]
   rw [findI_none (fun j hj => hb j (by omega))]
theorem con_containsPT (l : List (Int × Int)) (f : FuncId) (caps : List AV) (p : Int × Int -> Bool) (hc : mapTops (viewV []) caps = caps) (hf : TellsP f caps l p) (hl : l.length <= 9223372036854775806) : Con Tryz.prog 194 [.sl 0 4 (l.map vPT), .fn f caps] [] fun r _ => r = .sc (.bool (l.any p)) := by
 refine Con.intro Tryz.func194 rfl Tryz.ntmps194 Tryz.results194 (by kernel_rfl) (by simp) 0 (by simp) ?_
 simp only [go_sem]
 refine CallU.look (con_indexPT l f caps p hc hf hl) (by simp only [go_sem]) (by simp only [go_sem]) ?_
 rintro r bx rfl
 simp only [go_sem, findI_ge]
def LeafP (p : Int × Int) : Prop := p = (1, 0) \/ p.1 = 2 /\ 1 <= p.2 /\ p.2 <= 16
theorem con_rightLeaf (p : Int × Int) (d : Int) (hd : d ≠ 0) (hp : LeafP p) : Con Tryz.prog 176 [vPT p, vi d] [] fun r _ => r = vb true := by
 refine Con.intro Tryz.func176 rfl Tryz.ntmps176 Tryz.results176 (by kernel_rfl) (by simp) 2 (by simp) ?_
 have hd' : (d == 0) = false := beq_eq_false_iff_ne.2 hd
 obtain ⟨k, s⟩ := p
 rcases hp with hp | ⟨rfl, h1, h2⟩
 ·cases hp
  simp only [go_sem, hd']
 ·simp only at h1 h2
  simp only [go_sem, hd', h1, h2]
theorem con_right1 (p : Int × Int) (hp : LeafP p) : Con Tryz.prog 195 [vPT p, .fp [vi 8] 0] [] fun r _ => r = .sc (.bool false) := by
 refine Con.intro Tryz.func195 rfl Tryz.ntmps195 Tryz.results195 (by kernel_rfl) (by simp) 1 (by simp) ?_
 have hw : IntKind.i64.wrap 7 = 7 := wrap_in (by omega) (by omega)
 simp only [go_sem, hw]
 refine CallU.free (con_rightLeaf p 7 (by omega) hp) (by simp only [go_sem]) (by simp only [go_sem]) ?_
 rintro r bx rfl
 simp only [go_sem]
theorem any_false {α : Type} (l : List α) : (l.any fun _ => false) = false := by simp
theorem con_rightFlat (ps : List (Int × Int)) (h1 : 1 <= ps.length) (h2 : ps.length <= 8) (hp : ∀ p ∈ ps, LeafP p) : Con Tryz.prog 176 [flatT 0 ps, vi 8] [] fun r _ => r = vb true := by
 refine Con.intro Tryz.func176 rfl Tryz.ntmps176 Tryz.results176 (by kernel_rfl) (by simp) 2 (by simp) ?_
 have a1 : ((ps.length : Int) == 0) = false := beq_eq_false_iff_ne.2 (by omega)
 have a2 : ¬ ((8 : Int) < ps.length) := by omega
 simp only [go_sem, a1, a2]
 refine CallU.look (con_containsPT ps 195 [.fp [vi 8] 0] (fun _ => false) (by simp only [go_sem]) (fun x hx => con_right1 x (hp x hx)) (by omega)) (by simp only [go_sem]) (by simp only [go_sem]) ?_
 rintro r bx rfl
 simp only [go_sem, any_false]
theorem con_ocheck (ps : List (Int × Int)) (h1 : 1 <= ps.length) (h2 : ps.length <= 8) (hp : ∀ p ∈ ps, LeafP p) : Con Tryz.prog 142 [flatT 0 ps] [] fun r _ => r = vi 0 := by
 refine Con.intro Tryz.func142 rfl Tryz.ntmps142 Tryz.results142 (by kernel_rfl) (by simp) 1 (by simp) ?_
 simp only [go_sem]
 refine CallU.free (con_rightFlat ps h1 h2 hp) (by simp only [go_sem]) (by simp only [go_sem]) ?_
 rintro r bx rfl
 simp only [go_sem]
mutual
def countV : CV -> Int -> Int
 | .mk _ kids, most => countVs kids most 1
def countVs : List CV -> Int -> Int -> Int
 | [], _, n => n
 | k :: l, most, n => if most < n then n else countVs l most (n + countV k (most - n))
end
mutual
theorem countV_bnd : ∀ (v : CV) (most : Int), 0 <= most -> 1 <= countV v most /\ countV v most <= most + 1
 | .mk _ kids, most, h => by
  have := countVs_bnd kids most 1 h (by omega) (by omega)
  rw [countV]; exact this
theorem countVs_bnd : ∀ (l : List CV) (most n : Int), 0 <= most -> 1 <= n -> n <= most + 1 -> 1 <= countVs l most n /\ countVs l most n <= most + 1
 | [], most, n, h, h1, h2 => by rw [countVs]; exact ⟨h1, h2⟩
 | k :: l, most, n, h, h1, h2 => by
  rw [countVs]
  by_cases hm : most < n
  ·rw [if_pos hm]; exact ⟨h1, h2⟩
  ·rw [if_neg hm]
   have := countV_bnd k (most - n) (by omega)
   exact countVs_bnd l most _ h (by omega) (by omega)
end
theorem drop_kid {l : List CV} {i : Nat} (h : i < l.length) : l.drop i = l[i]! :: l.drop (i + 1) := by
 rw [List.drop_eq_getElem_cons h, getElem!_pos l i h]
theorem con_count (v : CV) (most : Int) (h1 : 0 <= most) (h2 : most <= 128) (hv : v.Ok) : Con Tryz.prog 145 [vV v, vi most] [] fun r _ => r = vi (countV v most) := by
 have key : ∀ (s : Nat) (v : CV) (most : Int), SizeOf.sizeOf v <= s -> 0 <= most -> most <= 128 -> v.Ok -> Con Tryz.prog 145 [vV v, vi most] [] fun r _ => r = vi (countV v most) := by
  intro s
  induction s with
  | zero => intro v _ hs; cases v; rw [CV.mk.sizeOf_spec] at hs; omega
  | succ s ih =>
   intro v most hs h1 h2 hv
   have hlen := hv.len
   have e0 : countV v most = countVs v.kids most 1 := by cases v; rw [countV]; rfl
   rw [vV_eq, e0]
   refine Con.intro Tryz.func145 rfl Tryz.ntmps145 Tryz.results145 (by kernel_rfl) (by simp) 1 (by simp) ?_
   simp only [go_sem]
   refine LoopK.intro (fun q : Nat × Int => ⟨27, [(1, vi most), (2, .pb 0 0), (5, vi q.2), (9, .sl 0 2 (v.kids.map vV)), (10, vi v.kids.length), (11, vi q.1)], [vi v.n, .sl 0 2 (v.kids.map vV)] :: Rk 2 q.1⟩)
    (fun q => v.kids.length - q.1) (fun q => q.1 <= v.kids.length /\ 1 <= q.2 /\ q.2 <= most + 1 /\ countVs (v.kids.drop q.1) most q.2 = countVs v.kids most 1) (0, 1) ⟨by simp, by simp, by show (1 : Int) <= most + 1; omega, rfl⟩ ?_ ?_
   ·simp only [go_sem]
    exact leB_self _
   rintro ⟨i, n⟩ ⟨hi, hn1, hn2, he⟩
   simp only at hi hn1 hn2 he
   by_cases h : i < v.kids.length
   ·have hg := getvV h
    have hw : IntKind.i64.wrap (i + 1) = i + 1 := wrap_in (by omega) (by omega)
    have hB := Rk_len 2 i
    have n0 := fun L : List (List AV) => app_at0 (L := L) hB
    have s0 := fun (L : List (List AV)) z => app_set0 (L := L) (z := z) hB
    rw [drop_kid h, countVs] at he
    by_cases hm : most < n
    ·rw [if_pos hm] at he
     simp only [go_sem, h, hg, hB, n0, s0, hm]
     rw [he]
    ·rw [if_neg hm] at he
     have hmem : v.kids[i]! ∈ v.kids := mem_bangI h
     have hk := countV_bnd v.kids[i]! (most - n) (by omega)
     have hw2 : IntKind.i64.wrap (most - n) = most - n := wrap_in (by omega) (by omega)
     have hw3 : IntKind.i64.wrap (n + countV v.kids[i]! (most - n)) = n + countV v.kids[i]! (most - n) := wrap_in (by omega) (by omega)
     simp only [go_sem, h, hg, hB, n0, s0, hm, hw2]
     refine CallU.free (ih v.kids[i]! (most - n) (by have := kid_size hmem; omega) (by omega) (by omega) (hv.kid hmem)) (by simp only [go_sem]) (by simp only [go_sem, vV_eq]) ?_
     rintro r bx rfl
     simp only [go_sem, hw, hw3]
     refine roundK.intro (i + 1, n + countV v.kids[i]! (most - n)) ⟨by show i + 1 <= _; omega, by show 1 <= n + _; omega, by show n + _ <= most + 1; omega, he⟩ (by show v.kids.length - (i + 1) < v.kids.length - i; omega) ?_
     simp only [go_sem, Rk_succ]
     exact leB_RkA ⟨leC_any _ 2 rfl, trivial⟩
   ·obtain rfl : i = v.kids.length := by omega
    rw [List.drop_length, countVs] at he
    simp only [go_sem, h, he]
 exact key _ v most (Nat.le_refl _) h1 h2 hv
theorem con_size (v : CV) (hv : v.Ok) : Con Tryz.prog 91 [vV v] [] fun r _ => r = vi (countV v 128) := by
 rw [vV_eq]
 refine Con.intro Tryz.func91 rfl Tryz.ntmps91 Tryz.results91 (by kernel_rfl) (by simp) 1 (by simp) ?_
 simp only [go_sem]
 refine CallU.free (con_count v 128 (by omega) (by omega) hv) (by simp only [go_sem]) (by simp only [go_sem, vV_eq]) ?_
 rintro r bx rfl
 have hb := countV_bnd v 128 (by omega)
 have e : min (countV v 128) 129 = countV v 128 := by omega
 simp only [go_sem, e]
def leafOk (p : Int × Int) (v : CV) : Bool := if p.1 = 1 then decide (0 <= v.n) && decide (v.n <= 1048576) && v.kids.length == 0 else decide (0 <= v.n) && decide (v.n < p.2) && v.kids.length == 0
theorem zero_len {α : Type} (l : List α) : ((l.length : Int) == 0) = (l.length == 0) := by rw [Bool.eq_iff_iff]; simp
theorem con_olabel (v : CV) (s : Int) : Con Tryz.prog 177 [vV v, vi s] [] fun r _ => r = vb (decide (0 <= v.n) && decide (v.n < s) && v.kids.length == 0) := by
 rw [vV_eq]
 refine Con.intro Tryz.func177 rfl Tryz.ntmps177 Tryz.results177 (by kernel_rfl) (by simp) 1 (by simp) ?_
 by_cases h1 : 0 <= v.n
 ·by_cases h2 : v.n < s
  ·simp only [go_sem, h1, h2, zero_len, decide_true, Bool.true_and]
  ·simp only [go_sem, h1, h2, decide_false, Bool.false_and, Bool.and_false]
 ·simp only [go_sem, h1, decide_false, Bool.false_and]
theorem con_oneLeaf (p : Int × Int) (v : CV) (hp : LeafP p) : Con Tryz.prog 143 [vPT p, vV v] [] fun r _ => r = vb (leafOk p v) := by
 rw [vV_eq]
 refine Con.intro Tryz.func143 rfl Tryz.ntmps143 Tryz.results143 (by kernel_rfl) (by simp) 2 (by simp) ?_
 obtain ⟨k, s⟩ := p
 rcases hp with hp | ⟨rfl, h1, h2⟩
 ·cases hp
  have e : leafOk (1, 0) v = (decide (0 <= v.n) && decide (v.n <= 1048576) && v.kids.length == 0) := by unfold leafOk; rw [if_pos rfl]
  rw [e]
  by_cases h1 : 0 <= v.n
  ·by_cases h2 : v.n <= 1048576
   ·simp only [go_sem, h1, h2, zero_len, decide_true, Bool.true_and]
   ·simp only [go_sem, h1, h2, decide_false, Bool.false_and, Bool.and_false]
  ·simp only [go_sem, h1, decide_false, Bool.false_and]
 ·have e : leafOk (2, s) v = (decide (0 <= v.n) && decide (v.n < s) && v.kids.length == 0) := by unfold leafOk; rw [if_neg (by simp)]
  rw [e]
  simp only [go_sem]
  refine CallU.free (con_olabel v s) (by simp only [go_sem]) (by simp only [go_sem, vV_eq]) ?_
  rintro r bx rfl
  simp only [go_sem]
def flatOk (ps : List (Int × Int)) (v : CV) : Bool := v.n == 0 && decide (v.kids.length = ps.length) && (List.range ps.length).all fun i => leafOk ps[i]! v.kids[i]!
theorem flat_bad {ps : List (Int × Int)} {v : CV} {i : Nat} (h : i < ps.length) (hb : leafOk ps[i]! v.kids[i]! = false) : flatOk ps v = false := by
 unfold flatOk
 have : ((List.range ps.length).all fun i => leafOk ps[i]! v.kids[i]!) = false := by
  rw [List.all_eq_false]; exact ⟨i, List.mem_range.2 h, by rw [hb]; simp⟩
 rw [this, Bool.and_false]
theorem flat_good {ps : List (Int × Int)} {v : CV} (h0 : v.n = 0) (hl : v.kids.length = ps.length) (h : ∀ i, i < ps.length -> leafOk ps[i]! v.kids[i]! = true) : flatOk ps v = true := by
 unfold flatOk
 have : ((List.range ps.length).all fun i => leafOk ps[i]! v.kids[i]!) = true := by
  rw [List.all_eq_true]; exact fun i hi => h i (List.mem_range.1 hi)
 rw [this, h0, decide_eq_true hl]; rfl
theorem con_oneFlat (ps : List (Int × Int)) (v : CV) (hp : ∀ p ∈ ps, LeafP p) (hl : v.kids.length <= 9223372036854775806) : Con Tryz.prog 143 [flatT 0 ps, vV v] [] fun r _ => r = vb (flatOk ps v) := by
 rw [vV_eq]
 refine Con.intro Tryz.func143 rfl Tryz.ntmps143 Tryz.results143 (by kernel_rfl) (by simp) 2 (by simp) ?_
 by_cases h0 : v.n = 0
 case neg =>
  have h0' : (v.n != 0) = true := bne_iff_ne.2 h0
  have e : flatOk ps v = false := by unfold flatOk; rw [beq_eq_false_iff_ne.2 h0]; rfl
  simp only [go_sem, h0', e]
 have h0' : (v.n != 0) = false := by rw [h0]; rfl
 by_cases hn : v.kids.length = ps.length
 case neg =>
  have hn' : ((v.kids.length : Int) != (ps.length : Int)) = true := bne_iff_ne.2 (by omega)
  have e : flatOk ps v = false := by unfold flatOk; rw [decide_eq_false hn, Bool.and_false]; rfl
  simp only [go_sem, h0', hn', e]
 have hn' : ((v.kids.length : Int) != (ps.length : Int)) = false := by rw [hn]; simp
 simp only [go_sem, h0', hn']
 refine LoopK.intro (fun i : Nat => ⟨110, [(2, .pb 0 0), (3, .pb 1 0), (46, .sl 0 2 (v.kids.map vV)), (47, vi v.kids.length), (48, vi i)], [vi 3, vi 0, .nil, .sl 0 4 (ps.map vPT)] :: [vi v.n, .sl 0 2 (v.kids.map vV)] :: Rk 2 i⟩)
  (fun i => v.kids.length - i) (fun i => i <= v.kids.length /\ ∀ j, j < i -> leafOk ps[j]! v.kids[j]! = true) 0 ⟨by omega, fun j hj => by omega⟩ ?_ ?_
 ·simp only [go_sem]
  exact leB_self _
 rintro i ⟨hi, hb⟩
 by_cases h : i < v.kids.length
 ·have h2 : i < ps.length := by omega
  have hg := getvV h
  have hg2 := getPT h2
  have hw : IntKind.i64.wrap (i + 1) = i + 1 := wrap_in (by omega) (by omega)
  have hB := Rk_len 2 i
  have n0 := fun L : List (List AV) => app_at0 (L := L) hB
  have s0 := fun (L : List (List AV)) z => app_set0 (L := L) (z := z) hB
  simp only [go_sem, h, hg, hB, n0, s0]
  refine DrawK.walk 8 mixed (by kernel_rfl) ?_
  simp only [go_sem, h2, hg2, n0]
  refine CallY.mk (con_oneLeaf ps[i]! v.kids[i]! (hp _ (mem_bangI h2))) (by simp only [go_sem, vV_eq]) (by simp only [go_sem]) (.inl (by simp only [go_sem])) ?_
  cases hq : leafOk ps[i]! v.kids[i]!
  ·simp only [go_sem]
   rw [flat_bad h2 hq]
  ·simp only [go_sem, hw]
   refine roundK.intro (i + 1) ⟨by omega, fun j hj => ?_⟩ (by omega) ?_
   ·by_cases hji : j = i
    ·subst hji; exact hq
    ·exact hb j (by omega)
   ·simp only [go_sem, Rk_succ]
    exact leB_RkA ⟨leC_any _ 2 rfl, trivial⟩
 ·simp only [go_sem, h]
  rw [flat_good h0 hn (fun j hj => hb j (by omega))]
theorem conf_flat (ns np : Nat) (c : CV) : flatOk (partsP ns np) c = confB ns np c := by
 obtain ⟨n, kids⟩ := c
 rw [Bool.eq_iff_iff]
 unfold flatOk
 rw [parts_len]
 simp only [CV.n, CV.kids, Bool.and_eq_true, beq_iff_eq, List.all_eq_true, List.mem_range]
 have hz : (partsP ns np)[0]! = (2, (ns : Int)) := rfl
 have hs : ∀ i, i < np -> (partsP ns np)[i + 1]! = (1, 0) := fun i hi => by
  unfold partsP
  rw [List.getElem!_cons_succ, getElem!_pos _ i (by simpa using hi), List.getElem_replicate]
 have l0 : ∀ x : CV, leafOk (2, (ns : Int)) x = true ↔ 0 <= x.n /\ x.n < ns /\ x.kids.length = 0 := fun x => by
  unfold leafOk; rw [if_neg (by simp)]
  simp only [Bool.and_eq_true, decide_eq_true_eq, beq_iff_eq, and_assoc]
 have l1 : ∀ x : CV, leafOk (1, 0) x = true ↔ 0 <= x.n /\ x.n <= 1048576 /\ x.kids.length = 0 := fun x => by
  unfold leafOk; rw [if_pos rfl]
  simp only [Bool.and_eq_true, decide_eq_true_eq, beq_iff_eq, and_assoc]
 cases kids with
 | nil => simp [confB]
 | cons x l =>
  unfold confB
  simp only [Bool.and_eq_true, beq_iff_eq, decide_eq_true_eq, List.all_eq_true, List.length_cons]
  constructor
  ·rintro ⟨⟨h0, hl⟩, h⟩
   have hl := of_decide_eq_true hl
   have hx := (l0 x).1 (by have := h 0 (by omega); rw [hz] at this; exact this)
   refine ⟨⟨⟨⟨⟨h0, hx.1⟩, hx.2.1⟩, hx.2.2⟩, by omega⟩, fun k hk => ?_⟩
   obtain ⟨j, hj⟩ := List.getElem?_of_mem hk
   have hjl := (List.getElem?_eq_some_iff.1 hj).1
   have hj2 := h (j + 1) (by omega)
   rw [hs j (by omega), List.getElem!_cons_succ, getElem!_pos l j hjl, (List.getElem?_eq_some_iff.1 hj).2] at hj2
   have := (l1 k).1 hj2
   exact ⟨⟨this.1, this.2.1⟩, this.2.2⟩
  ·rintro ⟨⟨⟨⟨⟨h0, h1⟩, h2⟩, h3⟩, hl⟩, h⟩
   refine ⟨⟨h0, decide_eq_true (by omega)⟩, fun i hi => ?_⟩
   cases i with
   | zero => rw [hz]; exact (l0 x).2 ⟨h1, h2, h3⟩
   | succ i =>
    rw [hs i (by omega), List.getElem!_cons_succ]
    have hm : l[i]! ∈ l := mem_bangI (by omega)
    have := h _ hm
    exact (l1 _).2 ⟨this.1.1, this.1.2, this.2⟩
theorem count_leaf {k : CV} (h : k.kids.length = 0) (most : Int) : countV k most = 1 := by
 obtain ⟨n, kids⟩ := k
 have : kids = [] := List.eq_nil_of_length_eq_zero h
 subst this
 rw [countV, countVs]
theorem count_leafs : ∀ (l : List CV) (most n : Int), (∀ k ∈ l, k.kids.length = 0) -> n + l.length <= most + 1 -> countVs l most n = n + l.length
 | [], most, n, _, _ => by rw [countVs]; simp
 | k :: l, most, n, h, hb => by
  simp only [List.length_cons] at hb ⊢
  rw [countVs, if_neg (by omega), count_leaf (h k (List.mem_cons_self ..)), count_leafs l most (n + 1) (fun x hx => h x (List.mem_cons_of_mem _ hx)) (by omega)]
  omega
theorem conf_count {ns np : Nat} {c : CV} (hp : np <= 100) (h : confB ns np c = true) : countV c 128 <= 128 := by
 obtain ⟨n, kids⟩ := c
 cases kids with
 | nil => simp [confB] at h
 | cons x l =>
  unfold confB at h
  simp only [Bool.and_eq_true, beq_iff_eq, decide_eq_true_eq, List.all_eq_true] at h
  obtain ⟨⟨⟨⟨⟨h0, h1⟩, h2⟩, h3⟩, hl⟩, h⟩ := h
  rw [countV, count_leafs (x :: l) 128 1 (fun k hk => ?_) (by simp only [List.length_cons]; omega)]
  ·simp only [List.length_cons]; omega
  ·rcases List.mem_cons.1 hk with rfl | hk
   ·exact h3
   ·exact (h k hk).2
theorem parts_leaf {ns np : Nat} (h1 : 1 <= ns) (h2 : ns <= 16) : ∀ p ∈ partsP ns np, LeafP p := fun p hp => by
 unfold partsP at hp
 rcases List.mem_cons.1 hp with rfl | hp
 ·exact .inr ⟨rfl, by show (1 : Int) <= ns; omega, by show (ns : Int) <= 16; omega⟩
 ·exact .inl (List.mem_replicate.1 hp).2
theorem con_ovalid (ns np : Nat) (v : CV) (h1 : 1 <= ns) (h2 : ns <= 16) (h3 : np <= 7) (hv : v.Ok) (hl : v.kids.length <= 9223372036854775806) : Con Tryz.prog 88 [flatT 0 (partsP ns np), vV v] [] fun r _ => r = vb (confB ns np v) := by
 have e0 := vV_eq v
 rw [e0]
 refine Con.intro Tryz.func88 rfl Tryz.ntmps88 Tryz.results88 (by kernel_rfl) (by simp) 2 (by simp) ?_
 simp only [go_sem]
 refine CallU.free (con_ocheck (partsP ns np) (by rw [parts_len]; omega) (by rw [parts_len]; omega) (parts_leaf h1 h2)) (by simp only [go_sem]) (by simp only [go_sem]) ?_
 rintro r bx rfl
 simp only [go_sem]
 refine CallU.free (con_size v hv) (by simp only [go_sem]) (by simp only [go_sem, vV_eq]) ?_
 rintro r bx rfl
 by_cases hc : countV v 128 <= 128
 ·simp only [go_sem, hc]
  refine CallU.free (con_oneFlat (partsP ns np) v (parts_leaf h1 h2) hl) (by simp only [go_sem]) (by simp only [go_sem, vV_eq]) ?_
  rintro r bx rfl
  simp only [go_sem, conf_flat]
 ·have e : confB ns np v = false := by
   cases hb : confB ns np v
   ·rfl
   ·exact absurd (conf_count (by omega) hb) hc
  simp only [go_sem, hc, e]
theorem rule_len {ns np : Nat} {r : RD} (hp : np <= 1000000) (hr : ruleB ns np r = true) (hb : bareB r = true) : r.Len := by
 unfold ruleB changesB movesB at hr
 unfold bareB at hb
 simp only [Bool.and_eq_true, Bool.or_eq_true, decide_eq_true_eq, beq_iff_eq] at hr hb
 refine ⟨by omega, by omega, ?_, by omega, by omega, by omega, by omega⟩
 rcases hr.2 with h | h <;> omega
theorem conf_ok {ns np : Nat} {c : CV} (hp : np <= 1000000) (h : confB ns np c = true) : c.Ok /\ c.kids.length = np + 1 := by
 obtain ⟨n, kids⟩ := c
 cases kids with
 | nil => simp [confB] at h
 | cons x l =>
  unfold confB at h
  simp only [Bool.and_eq_true, beq_iff_eq, decide_eq_true_eq, List.all_eq_true] at h
  obtain ⟨⟨⟨⟨⟨h0, h1⟩, h2⟩, h3⟩, hl⟩, h⟩ := h
  have leaf : ∀ k : CV, k.kids.length = 0 -> k.Ok := fun k hk => by
   obtain ⟨m, ks⟩ := k
   have : ks = [] := List.eq_nil_of_length_eq_zero hk
   subst this
   exact .mk m [] (by simp) (fun _ hx => by simp at hx)
  refine ⟨.mk n _ (by simp only [List.length_cons]; omega) fun k hk => ?_, by simp only [CV.kids, List.length_cons]; omega⟩
  rcases List.mem_cons.1 hk with rfl | hk
  ·exact leaf _ h3
  ·exact leaf _ (h k hk).2
theorem names_size {l : List ByteArray} (h : namesB l = true) : ∀ s ∈ l, s.size <= 9223372036854775806 := fun s hs => by
 unfold namesB at h
 rw [List.all_eq_true] at h
 obtain ⟨i, hi⟩ := List.getElem?_of_mem hs
 have hil := (List.getElem?_eq_some_iff.1 hi).1
 have := h i (List.mem_range.2 hil)
 unfold okN wordB at this
 rw [getElem!_pos l i hil, (List.getElem?_eq_some_iff.1 hi).2] at this
 simp only [Bool.and_eq_true, decide_eq_true_eq] at this
 omega
theorem good_sized {m : MD} (h : GoodM m) : sizedB m = true := by
 have e : limF m.kind = [1, 6, 0, 0, 0, 0, 0, 0] := by rw [h.kind]; rfl
 have h1 := h.states
 have h2 := h.places
 have h3 := h.few
 unfold sizedB lim betweenB
 rw [e, h.letters, h.levels, h.age]
 simp only [List.getD_cons_zero, List.getD_cons_succ, Bool.and_eq_true, decide_eq_true_eq, List.length_nil]
 refine ⟨⟨⟨⟨⟨⟨?_, ?_⟩, ?_⟩, ?_, ?_⟩, ?_⟩, ?_⟩, ?_⟩ <;> first | omega | simp
theorem good_ranked {m : MD} (h : GoodM m) : rankedB m = true := by
 unfold rankedB
 rw [h.kind, h.ranks]; rfl
theorem good_named {m : MD} (h : GoodM m) : (namesOf m).length <= 1000000 := by
 have h1 := h.states
 have h2 := h.places
 have h3 := h.few
 unfold namesOf
 simp only [List.length_append, List.length_map, h.letters, List.length_nil]
 omega
theorem con_begins (m : MD) (h : GoodM m) : Con Tryz.prog 71 [vM m] [] fun r _ => r = vb true := by
 refine Con.intro Tryz.func71 rfl Tryz.ntmps71 Tryz.results71 (by kernel_rfl) (by simp) 1 (by simp) ?_
 have h1 := h.states
 have h2 := h.places
 have hk := h.kind
 have hc := conf_ok (by omega) h.start
 simp only [go_sem, hk]
 refine DrawK.walk 6 mixed (by kernel_rfl) ?_
 simp only [go_sem]
 refine CallY.mk (con_typed m hk (by omega)) (by simp only [go_sem, hk]) (by simp only [go_sem]) (.inl (by simp only [go_sem])) ?_
 simp only [go_sem]
 refine CallY.mk (con_ovalid m.states.length m.places.length m.start (by omega) (by omega) (by omega) hc.1 (by omega)) (by simp only [go_sem, vV_eq]) (by simp only [go_sem]) (.inr (by simp only [go_sem])) ?_
 simp only [go_sem, h.start]
theorem con_check (m : MD) (h : GoodM m) : Con Tryz.prog 21 [vM m] [] fun r _ => r = vi 0 := by
 refine Con.intro Tryz.func21 rfl Tryz.ntmps21 Tryz.results21 (by kernel_rfl) (by simp) 1 (by simp) ?_
 have h1 := h.states
 have h2 := h.places
 have h3 := h.few
 have hk := h.kind
 have hr0 : m.ranks.length <= 9223372036854775806 := by rw [h.ranks]; simp
 simp only [go_sem, hk]
 refine CallU.free (con_between 1 1 6) (by simp only [go_sem]) (by simp only [go_sem]) ?_
 rintro r bx rfl
 have e1 : betweenB 1 1 6 = true := by decide
 simp only [go_sem, e1]
 refine CallU.free (con_sized m) (by simp only [go_sem]) (by simp only [go_sem, hk]) ?_
 rintro r bx rfl
 simp only [go_sem, good_sized h]
 refine CallU.free (con_ranked m hr0) (by simp only [go_sem]) (by simp only [go_sem, hk]) ?_
 rintro r bx rfl
 simp only [go_sem, good_ranked h]
 refine CallU.free (con_named m h1.1 (good_named h) (names_size h.names)) (by simp only [go_sem]) (by simp only [go_sem, hk]) ?_
 rintro r bx rfl
 simp only [go_sem, h.names]
 refine CallU.look (con_containsRule m.rules 69 [.fp (cM m) 0] (fun _ => false) (by simp only [go_sem]) (fun r hr => con_check1 m r hk (by omega) (by omega) (rule_len (by omega) (h.rules r hr).1 (h.rules r hr).2) (h.rules r hr).1 (h.rules r hr).2) (by omega)) (by simp only [go_sem]) (by simp only [go_sem, hk]) ?_
 rintro r bx rfl
 simp only [go_sem, any_false]
 refine CallU.free (con_begins m h) (by simp only [go_sem]) (by simp only [go_sem, hk]) ?_
 rintro r bx rfl
 simp only [go_sem]
theorem con_mvalid (m : MD) (c : CV) (h : GoodM m) (hc : c.Ok) (hl : c.kids.length <= 9223372036854775806) : Con Tryz.prog 37 [vM m, vV c] [] fun r _ => r = vb (confB m.states.length m.places.length c) := by
 have e0 := vV_eq c
 rw [e0]
 refine Con.intro Tryz.func37 rfl Tryz.ntmps37 Tryz.results37 (by kernel_rfl) (by simp) 2 (by simp) ?_
 have h1 := h.states
 have h2 := h.places
 have hk := h.kind
 simp only [go_sem, hk]
 refine DrawK.walk 10 mixed (by kernel_rfl) ?_
 simp only [go_sem]
 refine CallY.mk (con_check m h) (by simp only [go_sem, hk]) (by simp only [go_sem]) (.inl (by simp only [go_sem])) ?_
 simp only [go_sem]
 refine CallY.mk (con_typed m hk (by omega)) (by simp only [go_sem, hk]) (by simp only [go_sem]) (.inl (by simp only [go_sem])) ?_
 simp only [go_sem]
 refine CallY.mk (con_ovalid m.states.length m.places.length c (by omega) (by omega) (by omega) hc hl) (by simp only [go_sem, vV_eq]) (by simp only [go_sem]) (.inr (by simp only [go_sem])) ?_
 simp only [go_sem]
def stillB (r : RD) : Bool := r.move.length == 0
def cfgC (s : Nat) (v : List Int) : CV := .mk 0 (.mk s [] :: v.map fun n => .mk n [])
theorem cfg_nums (v : List Int) : (v.map fun n => CV.mk n []).map CV.n = v := by rw [List.map_map]; exact List.map_id v
structure GoodC (m : MD) (s : Nat) (v : List Int) : Prop where
 state : s < m.states.length
 len : v.length = m.places.length
 low : ∀ x ∈ v, 0 <= x /\ x <= 1048576
theorem GoodC.conf {m : MD} {s : Nat} {v : List Int} (h : GoodC m s v) : confB m.states.length m.places.length (cfgC s v) = true := by
 have h1 := h.state
 have a1 : (v.map fun n => CV.mk n []).all (fun k => decide (0 <= k.n) && decide (k.n <= 1048576) && k.kids.length == 0) = true := by
  rw [List.all_map, List.all_eq_true]
  intro n hn
  have := h.low n hn
  show (decide (0 <= n) && decide (n <= 1048576) && true) = true
  rw [decide_eq_true this.1, decide_eq_true this.2]; rfl
 have a2 : decide ((0 : Int) <= (s : Int)) = true := decide_eq_true (by omega)
 have a3 : decide ((s : Int) < (m.states.length : Int)) = true := decide_eq_true (by omega)
 have a4 : ((v.map fun n => CV.mk n []).length == m.places.length) = true := by rw [List.length_map, h.len]; simp
 show (((((((0 : Int) == 0) && decide ((0 : Int) <= (s : Int))) && decide ((s : Int) < (m.states.length : Int))) && true) && ((v.map fun n => CV.mk n []).length == m.places.length)) && (v.map fun n => CV.mk n []).all (fun k => decide (0 <= k.n) && decide (k.n <= 1048576) && k.kids.length == 0)) = true
 rw [a1, a2, a3, a4]; rfl
def vq (x : Int) : AV := .sc (.int .u64 x)
attribute [go_sem] vq
theorem con_clone (l : List Int) (h1 : 1 <= l.length) (h2 : l.length <= 1000000) : Con Tryz.prog 102 [vs 0 l] [] fun r _ => r = vs 2 l := by
 refine Con.intro Tryz.func102 rfl Tryz.ntmps102 Tryz.results102 (by kernel_rfl) (by simp) 0 (by simp) ?_
 cases l with
 | nil => simp at h1
 | cons x l =>
  simp only [List.length_cons] at h2
  simp only [go_sem]
  simp only [roomFor]
  omega
theorem con_rbetween (x lo hi : Int) : Con Tryz.prog 72 [vi x, vi lo, vi hi] [] fun r _ => r = vb (betweenB x lo hi) := by
 refine Con.intro Tryz.func72 rfl Tryz.ntmps72 Tryz.results72 (by kernel_rfl) (by simp) 0 (by simp) ?_
 unfold betweenB
 by_cases h1 : lo <= x
 ·by_cases h2 : x <= hi
  ·simp only [go_sem, h1, h2, decide_true, Bool.and_true]
  ·simp only [go_sem, h1, h2, decide_true, decide_false, Bool.and_false]
 ·simp only [go_sem, h1, decide_false, Bool.false_and]
theorem between_true {x lo hi : Int} (h1 : lo <= x) (h2 : x <= hi) : betweenB x lo hi = true := by
 unfold betweenB; rw [decide_eq_true h1, decide_eq_true h2]; rfl
theorem con_rletter (c : UInt8) : Con Tryz.prog 174 [u8v c] [] fun r _ => r = vb (partB c) := by
 refine Con.intro Tryz.func174 rfl Tryz.ntmps174 Tryz.results174 (by kernel_rfl) (by simp) 0 (by simp) ?_
 unfold partB
 rw [u8_eq (k := 95) (c := c) (n := 95) rfl, letterB_eq, digitB_eq]
 by_cases h1 : (97 : Int) <= (c.toNat : Int) <;> by_cases h2 : (c.toNat : Int) <= 122 <;> by_cases h3 : (48 : Int) <= (c.toNat : Int) <;> by_cases h4 : (c.toNat : Int) <= 57 <;>
  (simp only [go_sem, h1, h2, h3, h4, decide_true, decide_false, Bool.and_true, Bool.and_false, Bool.true_or, Bool.or_true, Bool.false_or, Bool.or_false]; all_goals simp)
theorem ba_eq {a b : ByteArray} : (a.toList == b.toList) = (a.data.toList == b.data.toList) := by rw [ByteArray.toList_eq, ByteArray.toList_eq]
theorem keyword_no {s : ByteArray} (h : keywordB s = false) {i : Nat} (hi : i < kwL.length) : (kwL[i]!.toList == s.toList) = false := by
 unfold keywordB at h
 rw [List.any_eq_false] at h
 have := h kwL[i]! (mem_bangI hi)
 rw [Bool.not_eq_true] at this
 rw [beq_eq_false_iff_ne] at this ⊢
 exact fun e => this e.symm
theorem kwL_len : kwL.length = 18 := rfl
theorem con_rkeyword (s : ByteArray) (hk : keywordB s = false) : Con Tryz.prog 127 [vStr s] [] fun r _ => r = vb false := by
 refine Con.intro Tryz.func127 rfl Tryz.ntmps127 Tryz.results127 (by kernel_rfl) (by simp) 0 (by simp) ?_
 simp only [go_sem]
 refine LoopK.intro (fun i : Nat => ⟨18, [(0, vStr s), (3, .sl 384 1 (kwL.map vStr)), (4, vi i)], []⟩) (fun i => 18 - i) (fun i => i <= 18) 0 (by omega) ?_ ?_
 ·simp only [go_sem, kwL, List.map_cons, List.map_nil]
 rintro i hi
 by_cases h : i < 18
 ·have hl : i < kwL.length := by rw [kwL_len]; exact h
  have hg := getStr hl
  have hw : IntKind.i64.wrap (i + 1) = i + 1 := wrap_in (by omega) (by omega)
  have hn := keyword_no hk hl
  simp only [go_sem, kwL_len, h, hg, hn, hw]
  refine roundK.intro (i + 1) (by omega) (by omega) ?_
  simp only [go_sem]
 ·simp only [go_sem, kwL_len, h]
def namesTree : Tr := .front 0 (.front 3 (.front 6 (.alt (.one 1 (.alt (.one 2 (.alt (.one 4 (.alt (.one 5 (.one 7 (.one 8 (.one 9 .done)))) (.one 7 (.one 5 (.one 8 (.one 9 .done)))))) (.one 7 (.one 4 (.one 5 (.one 8 (.one 9 .done))))))) (.alt (.one 4 (.alt (.one 2 (.alt (.one 5 (.one 7 (.one 8 (.one 9 .done)))) (.one 7 (.one 5 (.one 8 (.one 9 .done)))))) (.one 7 (.one 2 (.one 5 (.one 8 (.one 9 .done))))))) (.one 7 (.alt (.one 2 (.one 4 (.one 5 (.one 8 (.one 9 .done))))) (.one 4 (.one 2 (.one 5 (.one 8 (.one 9 .done)))))))))) (.alt (.one 4 (.alt (.one 1 (.alt (.one 2 (.alt (.one 5 (.one 7 (.one 8 (.one 9 .done)))) (.one 7 (.one 5 (.one 8 (.one 9 .done)))))) (.one 7 (.one 2 (.one 5 (.one 8 (.one 9 .done))))))) (.one 7 (.one 1 (.one 2 (.one 5 (.one 8 (.one 9 .done)))))))) (.one 7 (.alt (.one 1 (.alt (.one 2 (.one 4 (.one 5 (.one 8 (.one 9 .done))))) (.one 4 (.one 2 (.one 5 (.one 8 (.one 9 .done))))))) (.one 4 (.one 1 (.one 2 (.one 5 (.one 8 (.one 9 .done))))))))))))
def enF (r : RD) (s : Nat) (v : List Int) : Bool := ((s : Int) == r.src) && (List.range r.need.length).all fun i => decide (r.need[i]! <= v[i]!)
end Go.AM
