/-
  Walks: the deck's numbers, small vectors, names.
  Walks: sorted values of flat types; values that the deck deals.
  Walks: configurations that the deck deals.
  Walks: the type of a model's configurations; Config of the deck.
  Walks: names and rules that the deck deals.
  Walks: rules of counter models that the deck deals.
-/
import Derived.Test.YtpmodjodfimejaaGreatg24
import Derived.Test.YtpmodjodfimejaaGreatg23
/-! ## HB -/
namespace Go.AM
open Go Go.Proofs Go.RowKit
set_option maxRecDepth 100000
theorem longS_dk {l : List Int} {s : DS} (h : Dk l s) : Dk l (longS l s) := by
 obtain ⟨h1, h2⟩ := h
 refine ⟨?_, h2⟩
 unfold longS
 simp only
 split <;> omega
def nextV (l : List Int) (s : DS) (n : Int) : Int := if n < 1 then 0 else (longV l s / 2) % n
def nextS (l : List Int) (s : DS) (n : Int) : DS := if n < 1 then s else longS l s
theorem nextS_dk {l : List Int} {s : DS} {n : Int} (h : Dk l s) : Dk l (nextS l s n) := by
 unfold nextS; split
 ·exact h
 ·exact longS_dk h
theorem nextV_lt {l : List Int} {s : DS} {n : Int} (hn : 1 ≤ n) : 0 ≤ nextV l s n ∧ nextV l s n < n := by
 unfold nextV
 rw [if_neg (by omega)]
 exact ⟨Int.emod_nonneg _ (by omega), Int.emod_lt_of_pos _ (by omega)⟩
theorem con_dNext (l : List Int) (s : DS) (n : Int) (h : Dk l s) : Con Tryz.prog 18 [.pb 0 0, vi n] [deckA l s]
  fun r b => r = vi (nextV l s n) ∧ b = [deckA l (nextS l s n)] := by
 refine Con.intro Tryz.func18 rfl Tryz.ntmps18 Tryz.results18 (by kernel_rfl) (by simp) 1 (by simp) ?_
 by_cases h1 : n < 1
 ·simp only [go_sem, h1, nextV, nextS]
 ·have hr := longV_range l s
  simp only [go_sem, h1, nextV, nextS]
  refine CallU.boxes (i := 0) (is := []) (bx0 := [deckA l s]) (con_dLong l s h) (by simp only [go_sem]) (by simp only [go_sem]) (by simp only [go_sem]) (by simp only [go_sem]) (by simp only [go_sem]) ?_
  rintro r b ⟨rfl, rfl⟩
  simp only [go_sem]
  have hv : IntKind.i64.wrap ((longV l s).fdiv (2 ^ min 1 64)) = longV l s / 2 := by
   have e : (2 : Int) ^ min 1 64 = 2 := rfl
   rw [e, Int.fdiv_eq_ediv_of_nonneg _ (by omega)]
   exact wrap_in (by omega) (by omega)
  rw [hv, Int.tmod_eq_emod_of_nonneg (by omega)]
  exact ⟨by omega, rfl⟩
def oneV (l : List Int) (s : DS) (n : Int) : Bool := nextV l s n == 0
theorem con_dOne (l : List Int) (s : DS) (n : Int) (h : Dk l s) : Con Tryz.prog 42 [.pb 0 0, vi n] [deckA l s]
  fun r b => r = vb (oneV l s n) ∧ b = [deckA l (nextS l s n)] := by
 refine Con.intro Tryz.func42 rfl Tryz.ntmps42 Tryz.results42 (by kernel_rfl) (by simp) 1 (by simp) ?_
 simp only [go_sem]
 refine CallU.boxes (i := 0) (is := []) (bx0 := [deckA l s]) (con_dNext l s n h) (by simp only [go_sem]) (by simp only [go_sem]) (by simp only [go_sem]) (by simp only [go_sem]) (by simp only [go_sem]) ?_
 rintro r b ⟨rfl, rfl⟩
 simp only [go_sem, oneV]
def smS (l : List Int) (s : DS) (most : Int) : Nat → DS
 | 0 => s
 | n + 1 => nextS l (smS l s most n) (most + 1)
def smV (l : List Int) (s : DS) (most : Int) : Nat → List Int
 | 0 => []
 | n + 1 => smV l s most n ++ [nextV l (smS l s most n) (most + 1)]
theorem smS_dk {l : List Int} {s : DS} {most : Int} (h : Dk l s) : ∀ n, Dk l (smS l s most n)
 | 0 => h
 | n + 1 => nextS_dk (smS_dk h n)
theorem smV_len {l : List Int} {s : DS} {most : Int} : ∀ n, (smV l s most n).length = n
 | 0 => rfl
 | n + 1 => by rw [smV, List.length_append, smV_len n]; rfl
theorem smV_low {l : List Int} {s : DS} {most : Int} (h : 0 ≤ most) : ∀ n, ∀ x ∈ smV l s most n, 0 ≤ x ∧ x ≤ most
 | 0 => fun x hx => by cases hx
 | n + 1 => fun x hx => by
  rw [smV, List.mem_append] at hx
  rcases hx with hx | hx
  ·exact smV_low h n x hx
  ·simp only [List.mem_cons, List.not_mem_nil, or_false] at hx
   have := nextV_lt (l := l) (s := smS l s most n) (n := most + 1) (by omega)
   subst hx; omega
theorem con_dSmall (l : List Int) (s : DS) (n : Nat) (most : Int) (h : Dk l s) (hn : n ≤ 1000000) (hm : -1 ≤ most ∧ most ≤ 1000000) : Con Tryz.prog 54 [.pb 0 0, vi n, vi most] [deckA l s]
  fun r b => r = vs 2 (smV l s most n) ∧ b = [deckA l (smS l s most n)] := by
 refine Con.intro Tryz.func54 rfl Tryz.ntmps54 Tryz.results54 (by kernel_rfl) (by simp) 1 (by simp) ?_
 simp only [go_sem]
 refine LoopK.intro (fun i : Nat => ⟨22, [(0, .pb 0 0), (1, vi n), (2, vi most), (7, vs 1344 (smV l s most i)), (8, vi i)], [deckA l (smS l s most i)]⟩)
  (fun i => n - i) (fun i => i ≤ n) 0 (by omega) ?_ ?_
 ·simp only [go_sem, smV, smS, List.map_nil]
 rintro i hi
 by_cases h2 : i < n
 ·have hw : IntKind.i64.wrap (i + 1) = i + 1 := wrap_in (by omega) (by omega)
  have hw2 : IntKind.i64.wrap (most + 1) = most + 1 := wrap_in (by omega) (by omega)
  simp only [go_sem, h2, hw2]
  refine CallU.boxes (i := 0) (is := []) (bx0 := [deckA l (smS l s most i)]) (con_dNext l (smS l s most i) (most + 1) (smS_dk h i)) (by simp only [go_sem]) (by simp only [go_sem]) (by simp only [go_sem]) (by simp only [go_sem]) (by simp only [go_sem]) ?_
  rintro r b ⟨rfl, rfl⟩
  have hr : roomFor ((smV l s most i).length + 1) 8 := by rw [smV_len]; simp only [roomFor]; omega
  simp only [go_sem, hr, hw]
  refine roundK.intro (i + 1) (by omega) (by omega) ?_
  simp only [go_sem, smV, smS, List.map_append, List.map_cons, List.map_nil]
 ·have e : i = n := by omega
  subst e
  simp only [go_sem, h2]
theorem con_dSmallF (l : List Int) (s : DS) (n : Nat) (most : Int) (h : Dk l s) (hn : n ≤ 1000000) (hm : -1 ≤ most ∧ most ≤ 1000000) : Con Tryz.prog 54 [.pb 0 0, vi n, vi most] [deckA l s]
  fun r b => r = vs 0 (smV l s most n) ∧ b = [deckA l (smS l s most n)] :=
 ((con_dSmall l s n most h hn hm).freezeB fun _ => true).mono fun r b ⟨r1, b1, ⟨h1, h2⟩, h3, h4⟩ => by
  subst h1; subst h2; subst h3; subst h4
  exact ⟨rfl, rfl⟩
def wdN (l : List Int) (s : DS) (most : Int) : Nat := (nextV l s (most + 1)).toNat
def wdV (l : List Int) (s : DS) (letters most : Int) : List Int := smV l (nextS l s (most + 1)) (letters - 1) (wdN l s most)
def wdS (l : List Int) (s : DS) (letters most : Int) : DS := smS l (nextS l s (most + 1)) (letters - 1) (wdN l s most)
theorem wdS_dk {l : List Int} {s : DS} {a b : Int} (h : Dk l s) : Dk l (wdS l s a b) := smS_dk (nextS_dk h) _
theorem wdN_le {l : List Int} {s : DS} {most : Int} (h : 0 ≤ most) : (wdN l s most : Int) = nextV l s (most + 1) ∧ (wdN l s most : Int) ≤ most := by
 have := nextV_lt (l := l) (s := s) (n := most + 1) (by omega)
 unfold wdN; omega
theorem con_dWord (l : List Int) (s : DS) (letters most : Int) (h : Dk l s) (h1 : 0 ≤ letters ∧ letters ≤ 1000000) (h2 : 0 ≤ most ∧ most ≤ 1000) : Con Tryz.prog 48 [.pb 0 0, vi letters, vi most] [deckA l s]
  fun r b => r = vs 2 (wdV l s letters most) ∧ b = [deckA l (wdS l s letters most)] := by
 refine Con.intro Tryz.func48 rfl Tryz.ntmps48 Tryz.results48 (by kernel_rfl) (by simp) 1 (by simp) ?_
 have hw : IntKind.i64.wrap (most + 1) = most + 1 := wrap_in (by omega) (by omega)
 have hw2 : IntKind.i64.wrap (letters - 1) = letters - 1 := wrap_in (by omega) (by omega)
 obtain ⟨e, e2⟩ := wdN_le (l := l) (s := s) h2.1
 simp only [go_sem, hw]
 refine CallU.boxes (i := 0) (is := []) (bx0 := [deckA l s]) (con_dNext l s (most + 1) h) (by simp only [go_sem]) (by simp only [go_sem]) (by simp only [go_sem]) (by simp only [go_sem]) (by simp only [go_sem]) ?_
 rintro r b ⟨rfl, rfl⟩
 simp only [go_sem, hw2, ← e]
 refine CallU.boxes (i := 0) (is := []) (bx0 := [deckA l (nextS l s (most + 1))]) (con_dSmall l (nextS l s (most + 1)) (wdN l s most) (letters - 1) (nextS_dk h) (by omega) (by omega)) (by simp only [go_sem]) (by simp only [go_sem]) (by simp only [go_sem]) (by simp only [go_sem]) (by simp only [go_sem]) ?_
 rintro r b ⟨rfl, rfl⟩
 simp only [go_sem]
 exact ⟨rfl, rfl⟩
end Go.AM

/-! ## HE -/
namespace Go.AM
open Go Go.Proofs Go.RowKit
end Go.AM

/-! ## HH -/
namespace Go.AM
open Go Go.Proofs Go.RowKit
def cfgO (t s : Nat) (v : List Int) : AV := .ag [vi 0, .sl t 2 (kidZ s :: v.map kidZ)]
attribute [go_sem] cfgO
end Go.AM

/-! ## HI -/
namespace Go.AM
open Go Go.Proofs Go.RowKit
structure Own (m : MD) : Prop where
 kind : m.kind = 1
 states : 1 ≤ m.states.length ∧ m.states.length ≤ 8
 places : 1 ≤ m.places.length ∧ m.places.length ≤ 6
 letters : m.letters = []
 ranks : m.ranks = []
 levels : m.levels = 0
 age : m.age = 0
 names : namesB (m.states ++ m.places) = true
def noR (m : MD) (st : CV) : MD := { m with rules := [], start := st }
def noRA (m : MD) (st : CV) : AV := .ag [vi m.kind, vss m.states, vss m.places, vss m.letters, vs 0 m.ranks, vi m.levels, vi m.age, .nil, vi st.n, .sl 0 2 (st.kids.map vV)]
attribute [go_sem] noRA
theorem noR_le (m : MD) (st : CV) : leV (noRA m st) (vM (noR m st)) := by
 unfold vM cM noR noRA
 exact leV_ag ⟨leV_refl _, leV_refl _, leV_refl _, leV_refl _, leV_refl _, leV_refl _, leV_refl _, leV_nil 0 14, leV_refl _, leV_refl _, trivial⟩
def hidA (m : MD) : AV := .ag [vi m.kind, vss m.states, vss m.places, vss m.letters, vs 0 m.ranks, vi m.levels, vi m.age, .any, .any, .any]
attribute [go_sem] hidA
def noSA (m : MD) : AV := .ag [vi m.kind, vss m.states, vss m.places, vss m.letters, vs 0 m.ranks, vi m.levels, vi m.age, .nil, vi 0, .nil]
attribute [go_sem] noSA
end Go.AM

/-! ## HJ -/
namespace Go.AM
open Go Go.Proofs Go.RowKit
set_option maxRecDepth 100000
def nm1 (a : ByteArray) (i : Nat) : ByteArray := a ++ strOf [48 + (i : Int)]
def nmL (a : ByteArray) (n : Nat) : List ByteArray := (List.range n).map (nm1 a)
theorem nmL_len (a : ByteArray) (n : Nat) : (nmL a n).length = n := by simp [nmL]
theorem nmL_succ (a : ByteArray) (n : Nat) : nmL a (n + 1) = nmL a n ++ [nm1 a n] := by unfold nmL; rw [List.range_succ, List.map_append]; rfl
theorem con_names (a : ByteArray) (n : Nat) (ha : a.size ≤ 10) (hn : n ≤ 9) : Con Tryz.prog 59 [vStr a, vi n] [] fun r _ => r = .sl 2 1 ((nmL a n).map vStr) := by
 refine Con.intro Tryz.func59 rfl Tryz.ntmps59 Tryz.results59 (by kernel_rfl) (by simp) 0 (by simp) ?_
 simp only [go_sem]
 refine LoopK.intro (fun i : Nat => ⟨23, [(0, vStr a), (1, vi n), (5, .sl 1408 1 ((nmL a i).map vStr)), (6, vi i)], []⟩)
  (fun i => n - i) (fun i => i ≤ n) 0 (by omega) ?_ ?_
 ·simp only [go_sem, nmL, List.range_zero, List.map_nil]
  all_goals exact leV_nil _ _
 rintro i hi
 by_cases h : i < n
 ·have hw : IntKind.i64.wrap (i + 1) = i + 1 := wrap_in (by omega) (by omega)
  have hw2 : IntKind.i64.wrap (48 + (i : Int)) = 48 + i := wrap_in (by omega) (by omega)
  have hw3 : IntKind.u8.wrap (48 + (i : Int)) = 48 + i := by rw [IntKind.wrap_u8]; omega
  have hb : bytesOf [.sc (.int .u8 (48 + (i : Int)))] = some [48 + (i : Int)] := rfl
  have hs : a.size + (strOf [48 + (i : Int)]).size ≤ 9223372036854775807 := by
   have e : (strOf [48 + (i : Int)]).size = 1 := rfl
   omega
  have hr : roomFor ((nmL a i).length + 1) 16 := by rw [nmL_len]; simp only [roomFor]; omega
  simp only [go_sem, h, hw, hw2, hw3, hb, hs, hr]
  refine roundK.intro (i + 1) (by omega) (by omega) ?_
  simp only [go_sem, nmL_succ, nm1, List.map_append, List.map_cons, List.map_nil]
 ·have e : i = n := by omega
  subst e
  simp only [go_sem, h]
end Go.AM

/-! ## HK -/
namespace Go.AM
open Go Go.Proofs Go.RowKit
set_option maxRecDepth 100000
set_option maxHeartbeats 8000000
structure DealtR (ns np : Nat) (r : RD) : Prop where
 bare : bareB r = true
 src : 0 ≤ r.src ∧ r.src < ns
 dst : 0 ≤ r.dst ∧ r.dst < ns
 need : r.need.length = np ∧ ∀ x ∈ r.need, 0 ≤ x ∧ x ≤ 2
 give : r.give.length = np ∧ ∀ x ∈ r.give, 0 ≤ x ∧ x ≤ 2
 move : r.move.length = 0 ∨ (r.move.length = np ∧ ∀ x ∈ r.move, -1 ≤ x ∧ x ≤ np - 1)
def emptyB : ByteArray := ⟨#[]⟩
def dec1 (x : Int) : Int := x - 1
theorem con_dRule1 (l : List Int) (s : DS) (m : MD) (hd : Dk l s) (hk : m.kind = 1) (h1 : 1 ≤ m.states.length ∧ m.states.length ≤ 8) (h2 : 1 ≤ m.places.length ∧ m.places.length ≤ 6) :
  Con Tryz.prog 61 [.pb 0 0, hidA m] [deckA l s] fun r b => ∃ (x : RD) (s' : DS), DealtR m.states.length m.places.length x ∧ x.name = emptyB ∧ Dk l s' ∧ r = vRule x ∧ b = [deckA l s'] := by
 have key : Con Tryz.prog 61 [.pb 0 0, hidA m] [deckA l s] fun r b => ∃ (x : RD) (s' : DS) (mv : AV), DealtR m.states.length m.places.length x ∧ x.name = emptyB ∧ Dk l s' ∧ leV (mv.freeze fun _ => true) (vs 0 x.move) ∧
   r = .ag [vStr emptyB, vi x.src, vi x.dst, vs 0 x.need, vs 0 x.give, mv, vi 0, vi 0, vi 0, .nil, .nil, .nil, .nil, vi 0] ∧ b = [deckA l s'] := by
  refine Con.intro Tryz.func61 rfl Tryz.ntmps61 Tryz.results61 (by kernel_rfl) (by simp) 1 (by simp) ?_
  have hn1 := nextV_lt (l := l) (s := s) (n := m.states.length) (by omega)
  have hd2 : Dk l (nextS l s m.states.length) := nextS_dk hd
  have hn2 := nextV_lt (l := l) (s := nextS l s m.states.length) (n := m.states.length) (by omega)
  have hd3 : Dk l (nextS l (nextS l s m.states.length) m.states.length) := nextS_dk hd2
  simp only [go_sem, hk]
  refine DrawK.news0 [(11, 3)] [14] [] 0 [4, 9] [] 12 (.one 12 .done) none (deckA l s) mixed (by kernel_rfl) (by kernel_rfl) (by kernel_rfl) (by simp only [go_sem]) (by simp only [go_sem]) ⟨by simp only [go_sem], by simp only [go_sem]⟩ ⟨by simp only [go_sem], by simp only [go_sem]⟩ ?_
  simp only [go_sem, List.length_map]
  refine EffK.mk (con_dNext l s m.states.length hd) (by simp only [go_sem]) (by simp only [go_sem]) (by simp only [go_sem]) (by simp only [go_sem]) ?_
  simp only [go_sem, List.length_map]
  refine EffK.mk (con_dNext l (nextS l s m.states.length) m.states.length hd2) (by simp only [go_sem]) (by simp only [go_sem]) (by simp only [go_sem]) (by simp only [go_sem]) ?_
  generalize nextV l s m.states.length = src at hn1
  generalize nextV l (nextS l s m.states.length) m.states.length = dst at hn2
  generalize nextS l (nextS l s m.states.length) m.states.length = s2 at hd3
  have hrep : List.replicate 14 AV.any = [.any, .any, .any, .any, .any, .any, .any, .any, .any, .any, .any, .any, .any, .any] := rfl
  simp only [go_sem, hrep]
  refine ⟨?_, trivial⟩
  have hd4 : Dk l (smS l s2 2 m.places.length) := smS_dk hd3 _
  have hd5 : Dk l (smS l (smS l s2 2 m.places.length) 2 m.places.length) := smS_dk hd4 _
  have hV1 := smV_low (l := l) (s := s2) (most := 2) (by omega) m.places.length
  have hL1 := smV_len (l := l) (s := s2) (most := 2) m.places.length
  have hV2 := smV_low (l := l) (s := smS l s2 2 m.places.length) (most := 2) (by omega) m.places.length
  have hL2 := smV_len (l := l) (s := smS l s2 2 m.places.length) (most := 2) m.places.length
  refine CallU.boxes (i := 0) (is := []) (bx0 := [deckA l s2]) (con_dSmallF l s2 m.places.length 2 hd3 (by omega) (by omega)) (by simp only [go_sem]) (by simp only [go_sem]) (by simp only [go_sem]) (by simp only [go_sem]) (by simp only [go_sem]) ?_
  rintro r b ⟨rfl, rfl⟩
  simp only [go_sem]
  refine CallU.boxes (i := 0) (is := []) (bx0 := [deckA l (smS l s2 2 m.places.length)]) (con_dSmallF l (smS l s2 2 m.places.length) m.places.length 2 hd4 (by omega) (by omega)) (by simp only [go_sem]) (by simp only [go_sem]) (by simp only [go_sem]) (by simp only [go_sem]) (by simp only [go_sem]) ?_
  rintro r b ⟨rfl, rfl⟩
  generalize smV l (smS l s2 2 m.places.length) 2 m.places.length = gv at hV2 hL2
  generalize smS l (smS l s2 2 m.places.length) 2 m.places.length = s4 at hd5
  generalize smV l s2 2 m.places.length = nd at hV1 hL1
  simp only [go_sem]
  refine CallU.boxes (i := 0) (is := []) (bx0 := [deckA l s4]) (con_dOne l s4 3 hd5) (by simp only [go_sem]) (by simp only [go_sem]) (by simp only [go_sem]) (by simp only [go_sem]) (by simp only [go_sem]) ?_
  rintro r b ⟨rfl, rfl⟩
  have hd6 : Dk l (nextS l s4 3) := nextS_dk hd5
  cases ho : oneV l s4 3
  case false =>
   simp only [go_sem]
   exact ⟨bareR emptyB src dst nd gv [], nextS l s4 3, .nil, ⟨rfl, hn1, hn2, ⟨hL1, hV1⟩, ⟨hL2, hV2⟩, .inl rfl⟩, rfl, hd6, leV_nil _ _, rfl, rfl⟩
  simp only [go_sem]
  generalize nextS l s4 3 = s5 at hd6
  refine LoopK.intro (fun i : Nat => ⟨168, [(0, .pb 0 0), (4, .pb 2 0), (5, .pb 3 0), (6, vi m.places.length), (7, vi i)], [deckA l (smS l s5 m.places.length i), [vi 1, vss m.states, vss m.places, vss m.letters, vs 0 m.ranks, vi m.levels, vi m.age, .any, .any, .any],
    [vStr emptyB, vi 0, vi 0, .nil, .nil, .nil, vi 0, vi 0, vi 0, .nil, .nil, .nil, .nil, vi 0], [vStr emptyB, vi src, vi dst, vs 0 nd, vs 0 gv, vs 3328 ((smV l s5 m.places.length i).map dec1), vi 0, vi 0, vi 0, .nil, .nil, .nil, .nil, vi 0]]⟩)
   (fun i => m.places.length - i) (fun i => i ≤ m.places.length) 0 (by omega) ?_ ?_
  ·simp only [go_sem, smV, smS, List.map_nil, vss, emptyB]
   all_goals exact leV_nil _ _
  rintro i hi
  by_cases h : i < m.places.length
  ·have hw : IntKind.i64.wrap (i + 1) = i + 1 := wrap_in (by omega) (by omega)
   have hw2 : IntKind.i64.wrap ((m.places.length : Int) + 1) = (m.places.length : Int) + 1 := wrap_in (by omega) (by omega)
   have hx := nextV_lt (l := l) (s := smS l s5 m.places.length i) (n := (m.places.length : Int) + 1) (by omega)
   have hw3 : IntKind.i64.wrap (nextV l (smS l s5 m.places.length i) ((m.places.length : Int) + 1) - 1) = dec1 (nextV l (smS l s5 m.places.length i) ((m.places.length : Int) + 1)) := wrap_in (by omega) (by omega)
   have hr : roomFor ((smV l s5 m.places.length i).length + 1) 8 := by rw [smV_len]; simp only [roomFor]; omega
   simp only [go_sem, h]
   refine DrawK.effs0 0 [5] [] 8 (.one 8 (.front 9 (.one 10 .done))) none (deckA l (smS l s5 m.places.length i)) mixed (by kernel_rfl) (by kernel_rfl) (by simp only [go_sem]) (by simp only [go_sem]) ?_
   simp only [go_sem, hw2]
   refine EffK.mk (con_dNext l (smS l s5 m.places.length i) ((m.places.length : Int) + 1) (smS_dk hd6 i)) (by simp only [go_sem]) (by simp only [go_sem]) (by simp only [go_sem]) (by simp only [go_sem]) ?_
   simp only [go_sem, hw, hw3]
   refine ⟨⟨hr, roundK.intro (i + 1) (by omega) (by omega) ?_⟩, trivial⟩
   simp only [go_sem, smV, smS, List.map_append, List.map_cons, List.map_nil]
   exact leV_refl _
  ·have e : i = m.places.length := by omega
   subst e
   have hmv : ∀ x ∈ (smV l s5 m.places.length m.places.length).map dec1, -1 ≤ x ∧ x ≤ (m.places.length : Int) - 1 := fun x hx => by
    obtain ⟨y, hy, rfl⟩ := List.mem_map.1 hx
    have := smV_low (l := l) (s := s5) (most := m.places.length) (by omega) m.places.length y hy
    unfold dec1; omega
   simp only [go_sem, h]
   refine ⟨bareR emptyB src dst nd gv ((smV l s5 m.places.length m.places.length).map dec1), smS l s5 m.places.length m.places.length, vs 2 ((smV l s5 m.places.length m.places.length).map dec1), ⟨rfl, hn1, hn2, ⟨hL1, hV1⟩, ⟨hL2, hV2⟩, .inr ⟨by show ((smV l s5 m.places.length m.places.length).map dec1).length = _; rw [List.length_map, smV_len], hmv⟩⟩, rfl, smS_dk hd6 _, leV_refl _, ?_, rfl⟩
   simp only [go_sem]
 refine (key.freezeB fun _ => true).weak fun r b ⟨r1, b1, ⟨x, s', mv, h1, h2, h3, h4, h5, h6⟩, h7, h8⟩ => ?_
 subst h5; subst h6; subst h7; subst h8
 refine ⟨vRule x, ⟨x, s', h1, h2, h3, rfl, rfl⟩, ?_⟩
 have hb := bare_of h1.bare
 have e1 : Sub .nil (vs 0 []) := Sub.nil 1
 have e3 : Sub .nil (.sl 0 3 (([] : List (Int × Int × Int)).map vTake)) := Sub.nil 3
 have hv : vRule x = .ag [vStr emptyB, vi x.src, vi x.dst, vs 0 x.need, vs 0 x.give, vs 0 x.move, vi 0, vi 0, vi 0, vs 0 [], vs 0 [], .sl 0 3 [], vs 0 [], vi 0] := by
  rw [← h2]; rw [hb]; rfl
 rw [hv]
 exact leV_ag ⟨leV_refl _, leV_refl _, leV_refl _, leV_refl _, leV_refl _, h4, leV_refl _, leV_refl _, leV_refl _, leV_nil _ _, leV_nil _ _, leV_nil _ _, leV_nil _ _, leV_refl _, trivial⟩
end Go.AM
