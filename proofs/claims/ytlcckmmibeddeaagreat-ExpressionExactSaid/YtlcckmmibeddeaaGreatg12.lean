/- HA HB ExL ExM EyF EyR Closed09 Closed09z -/
import Derived.Test.YtlcckmmibeddeaaGreatg8
import Derived.Test.YtlcckmmibeddeaaGreatg11
import Derived.Test.YtlcckmmibeddeaaGreatg10
import Derived.Test.YtlcckmmibeddeaaGreatg7
namespace Go.AM
open Go Go.Proofs Go.RowKit
set_option maxRecDepth 100000
abbrev DS := Nat × Int
def deckA (l : List Int) (s : DS) : List AV := [.sl 0 1 (l.map vi), .sc (.int .i64 s.1), .sc (.int .u64 s.2)]
attribute [go_sem] deckA
def Dk (l : List Int) (s : DS) : Prop := s.1 <= l.length /\ l.length <= 1000
theorem con_dNew (l : List Int) : Con Tryz.prog 8 [vs 0 l] [] fun r b => r = .pb 0 0 /\ b = [deckA l (0, 11400714819323198485)] := by
 refine Con.intro Tryz.func8 rfl Tryz.ntmps8 Tryz.results8 (by kernel_rfl) (by simp) 1 (by simp) ?_
 simp only [go_sem]
theorem u64_range (x : Int) : 0 <= IntKind.u64.wrap x /\ IntKind.u64.wrap x < 18446744073709551616 := by
 rw [IntKind.wrap_u64]; omega
def longX (l : List Int) (s : DS) : Int := if s.1 < l.length then IntKind.u64.wrap l[s.1]! else 0
def longT (l : List Int) (s : DS) : Int := IntKind.u64.wrap (IntKind.u64.wrap (IntKind.u64.wrap (s.2 + longX l s) * 6364136223846793005) + 1442695040888963407)
def longS (l : List Int) (s : DS) : DS := (if s.1 < l.length then s.1 + 1 else s.1, longT l s)
def mixX (x : Int) (k : Nat) : Int := IntKind.u64.wrap (BitVec.ofInt 64 x ^^^ BitVec.ofInt 64 (x.fdiv (2 ^ min k 64))).toNat
def longV (l : List Int) (s : DS) : Int := mixX (IntKind.u64.wrap (mixX (longT l s) 33 * 18397679294719823053)) 29
theorem longV_range (l : List Int) (s : DS) : 0 <= longV l s /\ longV l s < 18446744073709551616 := u64_range _
theorem con_dLong (l : List Int) (s : DS) (h : Dk l s) : Con Tryz.prog 34 [.pb 0 0] [deckA l s]
  fun r b => r = .sc (.int .u64 (longV l s)) /\ b = [deckA l (longS l s)] := by
 refine Con.intro Tryz.func34 rfl Tryz.ntmps34 Tryz.results34 (by kernel_rfl) (by simp) 1 (by simp) ?_
 obtain ⟨at_, st⟩ := s
 obtain ⟨ha, hl⟩ := h
 simp only at ha
 by_cases h : at_ < l.length
 ·simp only [go_sem]
  refine DrawK.walk 10 mixed (by kernel_rfl) ?_
  have hg := getv h
  have hw : IntKind.i64.wrap (at_ + 1) = at_ + 1 := wrap_in (by omega) (by omega)
  simp only [go_sem, h]
  refine DrawK.walk 12 mixed (by kernel_rfl) ?_
  simp only [go_sem, h, hg, hw]
  refine DrawK.walk 11 mixed (by kernel_rfl) ?_
  simp only [go_sem, longV, mixX, longS, longT, longX, h]
  rfl
 ·simp only [go_sem]
  refine DrawK.walk 10 mixed (by kernel_rfl) ?_
  simp only [go_sem, h]
  refine DrawK.walk 11 mixed (by kernel_rfl) ?_
  simp only [go_sem, longV, mixX, longS, longT, longX, h]
  rfl
theorem longS_dk {l : List Int} {s : DS} (h : Dk l s) : Dk l (longS l s) := by
 obtain ⟨h1, h2⟩ := h
 refine ⟨?_, h2⟩
 unfold longS
 simp only
 split <;> omega
def nextV (l : List Int) (s : DS) (n : Int) : Int := if n < 1 then 0 else (longV l s / 2) % n
def nextS (l : List Int) (s : DS) (n : Int) : DS := if n < 1 then s else longS l s
theorem nextS_dk {l : List Int} {s : DS} {n : Int} (h : Dk l s) : Dk l (nextS l s n) := by
 unfold nextS; split
 ·exact h
 ·exact longS_dk h
theorem nextV_lt {l : List Int} {s : DS} {n : Int} (hn : 1 <= n) : 0 <= nextV l s n /\ nextV l s n < n := by
 unfold nextV
 rw [if_neg (by omega)]
 exact ⟨Int.emod_nonneg _ (by omega), Int.emod_lt_of_pos _ (by omega)⟩
theorem con_dNext (l : List Int) (s : DS) (n : Int) (h : Dk l s) : Con Tryz.prog 9 [.pb 0 0, vi n] [deckA l s]
  fun r b => r = vi (nextV l s n) /\ b = [deckA l (nextS l s n)] := by
 refine Con.intro Tryz.func9 rfl Tryz.ntmps9 Tryz.results9 (by kernel_rfl) (by simp) 1 (by simp) ?_
 by_cases h1 : n < 1
 ·simp only [go_sem, h1, nextV, nextS]
 ·have hr := longV_range l s
  simp only [go_sem, h1, nextV, nextS]
  refine CallU.boxes (i := 0) (is := []) (bx0 := [deckA l s]) (con_dLong l s h) (by simp only [go_sem]) (by simp only [go_sem]) (by simp only [go_sem]) (by simp only [go_sem]) (by simp only [go_sem]) ?_
  rintro r b ⟨rfl, rfl⟩
  simp only [go_sem]
  have hv : IntKind.i64.wrap ((longV l s).fdiv (2 ^ min 1 64)) = longV l s / 2 := by
   have e : (2 : Int) ^ min 1 64 = 2 := rfl
   rw [e, Int.fdiv_eq_ediv_of_nonneg _ (by omega)]
   exact wrap_in (by omega) (by omega)
  rw [hv, Int.tmod_eq_emod_of_nonneg (by omega)]
  exact ⟨by omega, rfl⟩
def oneV (l : List Int) (s : DS) (n : Int) : Bool := nextV l s n == 0
theorem con_dOne (l : List Int) (s : DS) (n : Int) (h : Dk l s) : Con Tryz.prog 35 [.pb 0 0, vi n] [deckA l s]
  fun r b => r = vb (oneV l s n) /\ b = [deckA l (nextS l s n)] := by
 refine Con.intro Tryz.func35 rfl Tryz.ntmps35 Tryz.results35 (by kernel_rfl) (by simp) 1 (by simp) ?_
 simp only [go_sem]
 refine CallU.boxes (i := 0) (is := []) (bx0 := [deckA l s]) (con_dNext l s n h) (by simp only [go_sem]) (by simp only [go_sem]) (by simp only [go_sem]) (by simp only [go_sem]) (by simp only [go_sem]) ?_
 rintro r b ⟨rfl, rfl⟩
 simp only [go_sem, oneV]
def smS (l : List Int) (s : DS) (most : Int) : Nat -> DS
 | 0 => s
 | n + 1 => nextS l (smS l s most n) (most + 1)
def smV (l : List Int) (s : DS) (most : Int) : Nat -> List Int
 | 0 => []
 | n + 1 => smV l s most n ++ [nextV l (smS l s most n) (most + 1)]
theorem smS_dk {l : List Int} {s : DS} {most : Int} (h : Dk l s) : ∀ n, Dk l (smS l s most n)
 | 0 => h
 | n + 1 => nextS_dk (smS_dk h n)
theorem smV_len {l : List Int} {s : DS} {most : Int} : ∀ n, (smV l s most n).length = n
 | 0 => rfl
 | n + 1 => by rw [smV, List.length_append, smV_len n]; rfl
theorem con_dSmall (l : List Int) (s : DS) (n : Nat) (most : Int) (h : Dk l s) (hn : n <= 1000000) (hm : -1 <= most /\ most <= 1000000) : Con Tryz.prog 48 [.pb 0 0, vi n, vi most] [deckA l s]
  fun r b => r = vs 2 (smV l s most n) /\ b = [deckA l (smS l s most n)] := by
 refine Con.intro Tryz.func48 rfl Tryz.ntmps48 Tryz.results48 (by kernel_rfl) (by simp) 1 (by simp) ?_
 simp only [go_sem]
 refine LoopK.intro (fun i : Nat => ⟨22, [(0, .pb 0 0), (1, vi n), (2, vi most), (7, vs 1344 (smV l s most i)), (8, vi i)], [deckA l (smS l s most i)]⟩)
  (fun i => n - i) (fun i => i <= n) 0 (by omega) ?_ ?_
 ·simp only [go_sem, smV, smS, List.map_nil]
 rintro i hi
 by_cases h2 : i < n
 ·have hw : IntKind.i64.wrap (i + 1) = i + 1 := wrap_in (by omega) (by omega)
  have hw2 : IntKind.i64.wrap (most + 1) = most + 1 := wrap_in (by omega) (by omega)
  simp only [go_sem, h2, hw2]
  refine CallU.boxes (i := 0) (is := []) (bx0 := [deckA l (smS l s most i)]) (con_dNext l (smS l s most i) (most + 1) (smS_dk h i)) (by simp only [go_sem]) (by simp only [go_sem]) (by simp only [go_sem]) (by simp only [go_sem]) (by simp only [go_sem]) ?_
  rintro r b ⟨rfl, rfl⟩
  have hr : roomFor ((smV l s most i).length + 1) 8 := by rw [smV_len]; simp only [roomFor]; omega
  simp only [go_sem, hr, hw]
  refine roundK.intro (i + 1) (by omega) (by omega) ?_
  simp only [go_sem, smV, smS, List.map_append, List.map_cons, List.map_nil]
 ·have e : i = n := by omega
  subst e
  simp only [go_sem, h2]
def wdN (l : List Int) (s : DS) (most : Int) : Nat := (nextV l s (most + 1)).toNat
def wdV (l : List Int) (s : DS) (letters most : Int) : List Int := smV l (nextS l s (most + 1)) (letters - 1) (wdN l s most)
def wdS (l : List Int) (s : DS) (letters most : Int) : DS := smS l (nextS l s (most + 1)) (letters - 1) (wdN l s most)
theorem wdS_dk {l : List Int} {s : DS} {a b : Int} (h : Dk l s) : Dk l (wdS l s a b) := smS_dk (nextS_dk h) _
theorem wdN_le {l : List Int} {s : DS} {most : Int} (h : 0 <= most) : (wdN l s most : Int) = nextV l s (most + 1) /\ (wdN l s most : Int) <= most := by
 have := nextV_lt (l := l) (s := s) (n := most + 1) (by omega)
 unfold wdN; omega
theorem con_dWord (l : List Int) (s : DS) (letters most : Int) (h : Dk l s) (h1 : 0 <= letters /\ letters <= 1000000) (h2 : 0 <= most /\ most <= 1000) : Con Tryz.prog 17 [.pb 0 0, vi letters, vi most] [deckA l s]
  fun r b => r = vs 2 (wdV l s letters most) /\ b = [deckA l (wdS l s letters most)] := by
 refine Con.intro Tryz.func17 rfl Tryz.ntmps17 Tryz.results17 (by kernel_rfl) (by simp) 1 (by simp) ?_
 have hw : IntKind.i64.wrap (most + 1) = most + 1 := wrap_in (by omega) (by omega)
 have hw2 : IntKind.i64.wrap (letters - 1) = letters - 1 := wrap_in (by omega) (by omega)
 obtain ⟨e, e2⟩ := wdN_le (l := l) (s := s) h2.1
 simp only [go_sem, hw]
 refine CallU.boxes (i := 0) (is := []) (bx0 := [deckA l s]) (con_dNext l s (most + 1) h) (by simp only [go_sem]) (by simp only [go_sem]) (by simp only [go_sem]) (by simp only [go_sem]) (by simp only [go_sem]) ?_
 rintro r b ⟨rfl, rfl⟩
 simp only [go_sem, hw2, <- e]
 refine CallU.boxes (i := 0) (is := []) (bx0 := [deckA l (nextS l s (most + 1))]) (con_dSmall l (nextS l s (most + 1)) (wdN l s most) (letters - 1) (nextS_dk h) (by omega) (by omega)) (by simp only [go_sem]) (by simp only [go_sem]) (by simp only [go_sem]) (by simp only [go_sem]) (by simp only [go_sem]) ?_
 rintro r b ⟨rfl, rfl⟩
 simp only [go_sem]
 exact ⟨rfl, rfl⟩
set_option maxHeartbeats 8000000
theorem ascI_snoc : ∀ {l : List Int} {x : Int}, ascI l = true -> (∀ y ∈ l, y < x) -> ascI (l ++ [x]) = true
 | [], _, _, _ => rfl
 | [a], x, _, h => by
  show (decide (a < x) && true) = true
  rw [decide_eq_true (h a (by simp))]; rfl
 | a :: b :: l, x, h, hx => by
  obtain ⟨h1, h2⟩ := asc_lt h
  have ih := ascI_snoc h2 fun y hy => hx y (by simp [List.mem_cons.1 hy])
  show (decide (a < b) && ascI (b :: (l ++ [x]))) = true
  rw [decide_eq_true (h1 b (by simp)), Bool.true_and]; exact ih
structure DealtP (n most : Nat) (p : List TmD) : Prop where
 ok : OkP p
 few : p.length <= most
 ls : ∀ t ∈ p, t.ls.length <= n /\ ∀ y ∈ t.ls, 0 <= y /\ y < n
structure StarL (x : Nat) (ls : List Int) : Prop where
 asc : ascI ls = true
 few : ls.length <= x
 lt : ∀ y ∈ ls, 0 <= y /\ y < x
theorem StarL.next {x : Nat} {ls : List Int} (h : StarL x ls) : StarL (x + 1) ls := ⟨h.asc, by have := h.few; omega, fun y hy => by have := h.lt y hy; omega⟩
theorem StarL.snoc {x : Nat} {ls : List Int} (h : StarL x ls) : StarL (x + 1) (ls ++ [(x : Int)]) :=
 ⟨ascI_snoc h.asc fun y hy => (h.lt y hy).2, by have := h.few; rw [List.length_append]; simp; omega, fun y hy => by
  rcases List.mem_append.1 hy with hy | hy
  ·have := h.lt y hy; omega
  ·rw [List.mem_singleton.1 hy]; omega⟩
theorem DealtP.snoc {n k : Nat} {p : List TmD} {t : TmD} (h : DealtP n k p) (ht : t.Ok) (hl : t.ls.length <= n) (hy : ∀ y ∈ t.ls, 0 <= y /\ y < n) : DealtP n (k + 1) (p ++ [t]) :=
  ⟨fun u hu => by
    rcases List.mem_append.1 hu with hu | hu
    · exact h.ok u hu
    · rw [List.mem_singleton.1 hu]; exact ht,
   by have := h.few; rw [List.length_append]; simp; omega,
   fun u hu => by
    rcases List.mem_append.1 hu with hu | hu
    · exact h.ls u hu
    · rw [List.mem_singleton.1 hu]; exact ⟨hl, hy⟩⟩
theorem con_dProduct (l : List Int) (s : DS) (n most : Nat) (h : Dk l s) (hn : 1 <= n /\ n <= 1000) (hm : most <= 1000) : Con Tryz.prog 10 [.pb 0 0, vi n, vi most] [deckA l s]
  fun r b => ∃ p s', DealtP n most p /\ Dk l s' /\ r = vPr p /\ b = [deckA l s'] := by
 have key : Con Tryz.prog 10 [.pb 0 0, vi n, vi most] [deckA l s]
  fun r b => ∃ p s', DealtP n most p /\ Dk l s' /\ r = .sl 2 2 (p.map vTm) /\ b = [deckA l s'] := by
  refine Con.intro Tryz.func10 rfl Tryz.ntmps10 Tryz.results10 (by kernel_rfl) (by simp) 1 (by simp) ?_
  have hw0 : IntKind.i64.wrap ((most : Int) + 1) = ((most + 1 : Nat) : Int) := by rw [wrap_in (by omega) (by omega)]; omega
  simp only [go_sem, hw0]
  refine CallU.boxes (i := 0) (is := []) (bx0 := [deckA l s]) (con_dNext l s ((most + 1 : Nat) : Int) h) (by simp only [go_sem]) (by simp only [go_sem]) (by simp only [go_sem]) (by simp only [go_sem]) (by simp only [go_sem]) ?_
  rintro r b ⟨rfl, rfl⟩
  have hn1 := nextV_lt (l := l) (s := s) (n := ((most + 1 : Nat) : Int)) (by omega)
  have hd1 : Dk l (nextS l s ((most + 1 : Nat) : Int)) := nextS_dk h
  obtain ⟨c, ec⟩ : ∃ c : Nat, nextV l s ((most + 1 : Nat) : Int) = c := ⟨_, (Int.toNat_of_nonneg hn1.1).symm⟩
  rw [ec] at hn1 ⊢
  generalize nextS l s ((most + 1 : Nat) : Int) = s1 at hd1
  simp only [go_sem]
  refine LoopK.intro (fun x : List TmD × DS × Nat × Nat => ⟨48, [(0, .pb 0 0), (1, vi n), (7, .sl 1856 2 (x.1.map vTm)), (8, vi x.2.2.1)], deckA l x.2.1 :: Rk 2 x.2.2.2⟩)
   (fun x => x.2.2.1) (fun x => x.2.2.1 <= c /\ DealtP n (c - x.2.2.1) x.1 /\ Dk l x.2.1) ([], s1, c, 0) ⟨Nat.le_refl _, ⟨fun t ht => absurd ht (by simp), Nat.zero_le _, fun t ht => absurd ht (by simp)⟩, hd1⟩ ?_ ?_
  ·simp only [go_sem, Rk, List.replicate, List.map_nil]
   all_goals exact leB_self _
  rintro ⟨p, s2, k, j⟩ ⟨hk, hp, hd2⟩
  simp only at hk hp hd2
  have hB := Rk_len 2 j
  have n0 := fun L : List (List AV) => app_at0 (L := L) hB
  have t0 := fun (L : List (List AV)) z => app_set0 (L := L) (z := z) hB
  have hpl := hp.few
  by_cases h0 : 0 < k
  case neg =>
   obtain rfl : k = 0 := by omega
   simp only [go_sem]
   refine ⟨p, s2, ⟨hp.ok, by omega, hp.ls⟩, hd2, rfl, rfl⟩
  have hwk : IntKind.i64.wrap ((k : Int) - 1) = ((k - 1 : Nat) : Int) := by rw [wrap_in (by omega) (by omega)]; omega
  simp only [go_sem, h0]
  refine CallU.boxes (i := 0) (is := []) (bx0 := [deckA l s2]) (con_dOne l s2 2 hd2) (by simp only [go_sem]) (by simp only [go_sem]) (by simp only [go_sem]) (by simp only [go_sem]) (by simp only [go_sem]) ?_
  rintro r b ⟨rfl, rfl⟩
  have hd3 : Dk l (nextS l s2 2) := nextS_dk hd2
  generalize nextS l s2 2 = s3 at hd3
  cases h1 : oneV l s2 2 with
  | true =>
   simp only [go_sem]
   refine CallU.boxes (i := 0) (is := []) (bx0 := [deckA l s3]) (con_dNext l s3 n hd3) (by simp only [go_sem]) (by simp only [go_sem]) (by simp only [go_sem]) (by simp only [go_sem]) (by simp only [go_sem]) ?_
   rintro r b ⟨rfl, rfl⟩
   have hn2 := nextV_lt (l := l) (s := s3) (n := n) (by omega)
   have hd4 : Dk l (nextS l s3 n) := nextS_dk hd3
   generalize nextV l s3 n = y at hn2
   generalize nextS l s3 n = s4 at hd4
   simp only [go_sem, hwk]
   refine ⟨by simp only [roomFor]; omega, ?_⟩
   refine roundK.intro (p ++ [⟨false, [y]⟩], s4, k - 1, j) ⟨by show k - 1 <= c; omega, by
    have := hp.snoc (t := ⟨false, [y]⟩) ⟨fun _ => ⟨y, rfl⟩, rfl⟩ (by simp; omega) (fun z hz => by rw [List.mem_singleton.1 hz]; exact hn2)
    rwa [show c - k + 1 = c - (k - 1) by omega] at this, hd4⟩ (by show k - 1 < k; omega) ?_
   simp only [go_sem, List.map_append, List.map_cons, List.map_nil]
  | false =>
   simp only [go_sem, hB, n0, t0]
   refine LoopK.intro (fun x : List Int × DS × Nat => ⟨48, [(0, .pb 0 0), (1, vi n), (7, .sl 1856 2 (p.map vTm)), (8, vi k), (9, .pb (j + 1) 0), (10, vi x.2.2)], deckA l x.2.1 :: (Rk 2 j ++ [[vb true, .sl 2688 1 (x.1.map vi)]])⟩)
    (fun x => n - x.2.2) (fun x => x.2.2 <= n /\ StarL x.2.2 x.1 /\ Dk l x.2.1) ([], s3, 0) ⟨Nat.zero_le _, ⟨rfl, Nat.le_refl _, fun y hy => absurd hy (by simp)⟩, hd3⟩ ?_ ?_
   ·simp only [go_sem, List.map_nil]
    all_goals exact leB_RkA (x := [[_, _]]) (y := [[_, _]]) ⟨⟨leV_refl _, leV_nil _ _, trivial⟩, trivial⟩
   rintro ⟨ls, s5, x⟩ ⟨hx, hL, hd5⟩
   simp only at hx hL hd5
   have hLf := hL.few
   by_cases h2 : x < n
   case neg =>
    have e : x = n := by omega
    subst e
    simp only [go_sem, h2, n0, hwk]
    refine ⟨by simp only [roomFor]; omega, ?_⟩
    refine roundK.intro (p ++ [⟨true, ls⟩], s5, k - 1, j + 1) ⟨by show k - 1 <= c; omega, by
     have := hp.snoc (t := ⟨true, ls⟩) ⟨fun h => Bool.noConfusion h, hL.asc⟩ hL.few hL.lt
     rwa [show c - k + 1 = c - (k - 1) by omega] at this, hd5⟩ (by show k - 1 < k; omega) ?_
    simp only [go_sem, List.map_append, List.map_cons, List.map_nil, Rk_succ]
    all_goals exact leB_RkA (x := [[_, _]]) (y := [List.replicate 2 .any]) ⟨⟨leV_any _, leV_any _, trivial⟩, trivial⟩
   have hwx : IntKind.i64.wrap (x + 1) = x + 1 := wrap_in (by omega) (by omega)
   simp only [go_sem, h2]
   refine CallU.boxes (i := 0) (is := []) (bx0 := [deckA l s5]) (con_dOne l s5 2 hd5) (by simp only [go_sem]) (by simp only [go_sem]) (by simp only [go_sem]) (by simp only [go_sem]) (by simp only [go_sem]) ?_
   rintro r b ⟨rfl, rfl⟩
   have hd6 : Dk l (nextS l s5 2) := nextS_dk hd5
   generalize nextS l s5 2 = s6 at hd6
   cases h3 : oneV l s5 2 with
   | false =>
    simp only [go_sem, hwx]
    refine roundK.intro (ls, s6, x + 1) ⟨by show x + 1 <= n; omega, hL.next, hd6⟩ (by show n - (x + 1) < n - x; omega) ?_
    simp only [go_sem]
   | true =>
    simp only [go_sem, n0, t0, hwx]
    refine ⟨by simp only [roomFor]; omega, ?_⟩
    refine roundK.intro (ls ++ [(x : Int)], s6, x + 1) ⟨by show x + 1 <= n; omega, hL.snoc, hd6⟩ (by show n - (x + 1) < n - x; omega) ?_
    simp only [go_sem, List.map_append, List.map_cons, List.map_nil]
 exact (key.freezeB fun _ => true).mono fun r b ⟨r1, b1, ⟨p, s', hp, hd, h1, h2⟩, h3, h4⟩ => by
  subst h1; subst h2; subst h3; subst h4
  exact ⟨p, s', hp, hd, rfl, rfl⟩
theorem con_xNewS (l : List Int) : Con Tryz.prog 8 [vs 0 l] [] fun r b => r = .pb 0 0 /\ b = [deckA l (0, 11400714819323198485)] := con_dNew l
theorem con_r09SameT (p : List TmD) (hp : LenP p) : Con Tryz.prog 22 [vPr p, vPr p] [] fun r _ => r = vb true := by
 have h := con_r09Same p p hp hp
 rw [decide_eq_true rfl] at h
 exact h
theorem DealtP.lenP {p : List TmD} {n k : Nat} (h : DealtP n k p) (hn : n <= 1000) (hk : k <= 1000) : LenP p := ⟨by have := h.few; omega, fun t ht => by have := (h.ls t ht).1; omega⟩
theorem con_dWordG (l : List Int) (s : DS) (letters most : Int) (h : Dk l s) (h1 : 0 <= letters /\ letters <= 1000000) (h2 : 0 <= most /\ most <= 1000) : Con Tryz.prog 17 [.pb 0 0, vi letters, vi most] [deckA l s]
  fun r b => r = vs 0 (wdV l s letters most) /\ b = [deckA l (wdS l s letters most)] :=
 ((con_dWord l s letters most h h1 h2).freezeB fun _ => true).mono fun r b ⟨r1, b1, ⟨h1, h2⟩, h3, h4⟩ => by
  subst h1; subst h2; subst h3; subst h4
  exact ⟨rfl, rfl⟩
def vPair (x : List TmD × List TmD) : AV := .ag [vPr x.1, vPr x.2]
theorem getPair {X : List (List TmD × List TmD)} {i : Nat} (h : i < X.length) : (X.map vPair)[i]? = some (.ag [vPr X[i]!.1, vPr X[i]!.2]) := by
 rw [List.getElem?_map, List.getElem?_eq_getElem h, getElem!_pos X i h]; rfl
def exaTree : Tr := .alt (.one 0 (.alt (.one 1 (.alt (.one 2 (.alt (.one 3 (.one 4 (.one 5 .done))) (.one 4 (.one 3 (.one 5 .done))))) (.one 4 (.one 2 (.one 3 (.one 5 .done)))))) (.one 2 (.alt (.one 1 (.alt (.one 3 (.one 4 (.one 5 .done))) (.one 4 (.one 3 (.one 5 .done))))) (.one 3 (.one 1 (.one 4 (.one 5 .done)))))))) (.one 2 (.alt (.one 0 (.alt (.one 1 (.alt (.one 3 (.one 4 (.one 5 .done))) (.one 4 (.one 3 (.one 5 .done))))) (.one 3 (.one 1 (.one 4 (.one 5 .done)))))) (.one 3 (.one 0 (.one 1 (.one 4 (.one 5 .done)))))))
theorem con_xExactLaw (l : List Int) (letters : Int) (p q : List TmD) (w : List Int) (letter : Int) (hp : p.length <= 9223372036854775807) (hq : q.length <= 9223372036854775807) :
  Con Tryz.prog 3 [vs 0 l, vi letters, vPr p, vPr q, vs 0 w, vi letter] [] fun r _ => r = vb true := by
 refine Con.intro Tryz.func3 rfl Tryz.ntmps3 Tryz.results3 (by kernel_rfl) (by simp) 0 (by simp) ?_
 have hsp := con_x9short p hp
 have hsq := con_x9short q hq
 simp only [vPr] at hsp hsq
 simp only [go_sem, vPr]
 refine CallU.free con_xawake (by simp only [go_sem]) (by simp only [go_sem]) ?_
 rintro r bx rfl
 simp only [go_sem]
 refine CallU.free (con_few l 0 (by omega)) (by simp only [go_sem]) (by simp only [go_sem]) ?_
 rintro r bx rfl
 by_cases hf : (l.length : Int) <= 400
 case neg =>
  have hf' : ¬ l.length <= 400 := by omega
  simp only [go_sem, hf']
  refine CallU.free con_xawake (by simp only [go_sem]) (by simp only [go_sem]) ?_
  rintro r bx rfl
  simp only [go_sem]
 have hf' : l.length <= 400 := by omega
 simp only [go_sem, hf']
 refine CallU.free hsp (by simp only [go_sem]) (by simp only [go_sem]) ?_
 rintro r bx rfl
 cases hbp : shortB p with
 | false =>
  simp only [go_sem]
  refine CallU.free con_xawake (by simp only [go_sem]) (by simp only [go_sem]) ?_
  rintro r bx rfl
  simp only [go_sem]
 | true =>
 simp only [go_sem]
 refine CallU.free hsq (by simp only [go_sem]) (by simp only [go_sem]) ?_
 rintro r bx rfl
 cases hbq : shortB q with
 | false =>
  simp only [go_sem]
  refine CallU.free con_xawake (by simp only [go_sem]) (by simp only [go_sem]) ?_
  rintro r bx rfl
  simp only [go_sem]
 | true =>
 have kp := short_len hbp
 have kq := short_len hbq
 clear hsp hsq hbp hbq
 by_cases hwl : 30 < w.length
 ·simp only [go_sem, hwl, List.length_map]
  refine CallU.free con_xawake (by simp only [go_sem]) (by simp only [go_sem]) ?_
  rintro r bx rfl
  simp only [go_sem]
 simp only [go_sem, hwl, List.length_map]
 refine CallU.news (bx0 := []) (con_xNewS l) (by simp only [go_sem]) (by simp only [go_sem]) (by simp only [go_sem]) (by simp only [go_sem]) (by simp only [go_sem]) ?_
 rintro r b ⟨rfl, rfl⟩
 have hd : Dk l (0, 11400714819323198485) := ⟨Nat.zero_le _, by omega⟩
 generalize ((0, 11400714819323198485) : DS) = s0 at hd
 simp only [go_sem]
 refine CallU.boxes (i := 0) (is := []) (bx0 := [deckA l s0]) (con_dNext l s0 3 hd) (by simp only [go_sem]) (by simp only [go_sem]) (by simp only [go_sem]) (by simp only [go_sem]) (by simp only [go_sem]) ?_
 rintro r b ⟨rfl, rfl⟩
 have hn1 := nextV_lt (l := l) (s := s0) (n := 3) (by omega)
 have hd1 : Dk l (nextS l s0 3) := nextS_dk hd
 obtain ⟨c, ec⟩ : ∃ c : Nat, nextV l s0 3 = c := ⟨_, (Int.toNat_of_nonneg hn1.1).symm⟩
 rw [ec] at hn1 ⊢
 generalize nextS l s0 3 = s1 at hd1
 have hwn : IntKind.i64.wrap (1 + (c : Int)) = ((c + 1 : Nat) : Int) := by rw [wrap_in (by omega) (by omega)]; omega
 obtain ⟨n, hn⟩ : ∃ n : Nat, n = c + 1 := ⟨_, rfl⟩
 rw [<- hn] at hwn
 simp only [go_sem, hwn]
 clear hwn ec
 obtain ⟨Ks, hKs⟩ : ∃ Ks : List Int, Ks = [letters, (n : Int)] := ⟨_, rfl⟩
 have hKl : Ks.length = 2 := by rw [hKs]; rfl
 refine LoopK.freeze (fun _ => true) (fun x : Nat × Nat × DS => ⟨242, [(2, vPr p), (3, vPr q), (4, vs 0 w), (5, vi letter), (13, .pb 0 0), (14, vi n), (65, vs 0 Ks), (66, vi 2), (67, vi x.1)], deckA l x.2.2 :: Rk 2 x.2.1⟩)
  (fun x => 2 - x.1) (fun x => x.1 <= 2 /\ Dk l x.2.2) (0, 0, s1) ⟨by simp, hd1⟩ ?_ ?_
 ·rw [hKs]
  simp only [go_sem, Rk, List.replicate_zero, List.map_cons, List.map_nil]
 clear hKs hd1 hd
 rintro ⟨i, nb, s2⟩ ⟨hi, hd2⟩
 simp only at hi hd2
 by_cases h : i < 2
 case neg =>
  obtain rfl : i = 2 := by omega
  simp only [go_sem]
 have hiI : (i : Int) < 2 := by omega
 have hg := getv (l := Ks) (i := i) (by omega)
 have hwi : IntKind.i64.wrap (i + 1) = i + 1 := wrap_in (by omega) (by omega)
 generalize Ks[i]! = k at hg
 have hB := Rk_len 2 nb
 simp only [go_sem, hiI, hg, hKl, vPr, List.length_map]
 refine CallU.boxes (i := 0) (is := []) (bx0 := [deckA l s2]) (con_dProduct l s2 n 5 hd2 (by omega) (by omega)) (by simp only [go_sem]) (by simp only [go_sem]) (by simp only [go_sem]) (by simp only [go_sem]) (by simp only [go_sem]) ?_
 rintro r b ⟨a1, s3, ha1, hd3, rfl, rfl⟩
 simp only [go_sem, hB, vPr]
 refine CallU.boxes (i := 0) (is := []) (bx0 := [deckA l s3]) (con_dProduct l s3 n 5 hd3 (by omega) (by omega)) (by simp only [go_sem]) (by simp only [go_sem]) (by simp only [go_sem]) (by simp only [go_sem]) (by simp only [go_sem]) ?_
 rintro r b ⟨a2, s4, ha2, hd4, rfl, rfl⟩
 simp only [go_sem, hB, vPr]
 refine CallU.boxes (i := 0) (is := []) (bx0 := [deckA l s4]) (con_dProduct l s4 n 3 hd4 (by omega) (by omega)) (by simp only [go_sem]) (by simp only [go_sem]) (by simp only [go_sem]) (by simp only [go_sem]) (by simp only [go_sem]) ?_
 rintro r b ⟨a3, s5, ha3, hd5, rfl, rfl⟩
 simp only [go_sem, hB, vPr]
 refine CallU.boxes (i := 0) (is := []) (bx0 := [deckA l s5]) (con_dProduct l s5 n 8 hd5 (by omega) (by omega)) (by simp only [go_sem]) (by simp only [go_sem]) (by simp only [go_sem]) (by simp only [go_sem]) (by simp only [go_sem]) ?_
 rintro r b ⟨a4, s6, ha4, hd6, rfl, rfl⟩
 simp only [go_sem, hB, vPr]
 refine CallU.boxes (i := 0) (is := []) (bx0 := [deckA l s6]) (con_dProduct l s6 n 24 hd6 (by omega) (by omega)) (by simp only [go_sem]) (by simp only [go_sem]) (by simp only [go_sem]) (by simp only [go_sem]) (by simp only [go_sem]) ?_
 rintro r b ⟨a5, s7, ha5, hd7, rfl, rfl⟩
 simp only [go_sem, hB, vPr]
 obtain ⟨X, hX⟩ : ∃ X : List (List TmD × List TmD), X = [(p, q), (a1, a2), (a3, a4), (q, q), (a5, p)] := ⟨_, rfl⟩
 have hXl : X.length = 5 := by rw [hX]; rfl
 have hXk : ∀ x ∈ X, LenP x.1 /\ LenP x.2 := by
  rw [hX]
  intro x hx
  simp only [List.mem_cons, List.not_mem_nil, or_false] at hx
  rcases hx with rfl | rfl | rfl | rfl | rfl
  ·exact ⟨kp, kq⟩
  ·exact ⟨ha1.lenP (by omega) (by omega), ha2.lenP (by omega) (by omega)⟩
  ·exact ⟨ha3.lenP (by omega) (by omega), ha4.lenP (by omega) (by omega)⟩
  ·exact ⟨kq, kq⟩
  ·exact ⟨ha5.lenP (by omega) (by omega), kp⟩
 refine LoopK.freeze (fun _ => true) (fun x : Nat × Nat × DS => ⟨242, [(2, vPr p), (3, vPr q), (4, vs 0 w), (5, vi letter), (13, .pb 0 0), (14, vi n), (65, vs 0 Ks), (66, vi 2), (67, vi i), (16, vi k), (96, .sl 0 2 (X.map vPair)), (97, vi 5), (98, vi x.1)], deckA l x.2.2 :: Rk 2 x.2.1⟩)
  (fun x => 5 - x.1) (fun x => x.1 <= 5 /\ Dk l x.2.2) (0, nb, s7) ⟨by simp, hd7⟩ ?_ ?_
 ·rw [hX]
  simp only [go_sem, List.map_cons, List.map_nil, vPair, vPr]
 clear hX ha1 ha2 ha3 ha4 ha5 hd7 hd6 hd5 hd4 hd3 hd2 hB
 rintro ⟨j, nc, s8⟩ ⟨hj, hd8⟩
 simp only at hj hd8
 by_cases h2 : j < 5
 case neg =>
  obtain rfl : j = 5 := by omega
  simp only [go_sem, hwi]
  refine roundK.intro (i + 1, nc, s8) ⟨by show i + 1 <= 2; omega, hd8⟩ (by show 2 - (i + 1) < 2 - i; omega) ?_
  simp only [go_sem]
 have hjI : (j : Int) < 5 := by omega
 have hgp := getPair (X := X) (i := j) (by omega)
 have hwj : IntKind.i64.wrap (j + 1) = j + 1 := wrap_in (by omega) (by omega)
 obtain ⟨kx, ky⟩ := hXk _ (mem_bangI (show j < X.length by omega))
 generalize X[j]! = x at hgp kx ky
 obtain ⟨a, b⟩ := x
 simp only [vPr] at hgp
 have hB := Rk_len 2 nc
 have n0 := fun L : List (List AV) => app_at0 (L := L) hB
 have s0' := fun (L : List (List AV)) z => app_set0 (L := L) (z := z) hB
 simp only [go_sem, hjI, hgp, hXl, hB, n0, s0', List.length_map, List.cons_append, List.length_cons, List.length_nil]
 refine DrawK.meet ⟨242, [(2, vPr p), (3, vPr q), (4, vs 0 w), (5, vi letter), (13, .pb 0 0), (14, vi n), (65, vs 0 Ks), (66, vi 2), (67, vi i), (16, vi k), (96, .sl 0 2 (X.map vPair)), (97, vi 5), (98, vi j), (19, vPr a), (20, vPr b)], deckA l s8 :: (Rk 2 nc ++ [[vPr a, vPr b]])⟩ ?_ ?_
 ·refine DrawK.tree exaTree mixed (by kernel_rfl) ?_
  unfold exaTree
  simp only [go_sem, n0]
  repeat' (first | exact trivial | with_reducible apply andK_mk | simp only [go_sem, hB, n0, s0', vPair, vPr, List.cons_append, List.length_cons, List.length_nil])
 have c1 := con_xCheckL k a kx
 have c2 := con_r09Check k a kx
 have c3 := con_xLeq k a b kx ky
 have c4 := con_r09Leq k a b kx ky
 have c5 := con_xCompare a b kx ky
 have c6 := con_r09Compare a b kx ky
 obtain ⟨na, nk, hna, c7, c8⟩ := two_Normal k a kx
 have c9 := con_r09SameT na hna
 simp only [vPr] at c1 c2 c3 c4 c5 c6 c7 c8 c9
 simp only [go_sem, vPr]
 refine CallU.free c1 (by simp only [go_sem]) (by simp only [go_sem]) ?_
 rintro r bx rfl
 simp only [go_sem]
 refine CallU.free c2 (by simp only [go_sem]) (by simp only [go_sem]) ?_
 rintro r bx rfl
 simp only [go_sem, bne_self_eq_false]
 refine CallU.free c3 (by simp only [go_sem]) (by simp only [go_sem]) ?_
 rintro r bx rfl
 simp only [go_sem]
 refine CallU.free c4 (by simp only [go_sem]) (by simp only [go_sem]) ?_
 rintro r bx rfl
 simp only [go_sem]
 refine CallU.free c5 (by simp only [go_sem]) (by simp only [go_sem]) ?_
 rintro r bx rfl
 simp only [go_sem]
 refine CallU.free c6 (by simp only [go_sem]) (by simp only [go_sem]) ?_
 rintro r bx rfl
 simp only [go_sem, bne_self_eq_false]
 refine CallU.boxes (i := 0) (is := []) (bx0 := [deckA l s8]) (con_dWordG l s8 n 8 hd8 (by omega) (by omega)) (by simp only [go_sem]) (by simp only [go_sem]) (by simp only [go_sem]) (by simp only [go_sem]) (by simp only [go_sem]) ?_
 rintro r b' ⟨rfl, rfl⟩
 have hd9 : Dk l (wdS l s8 n 8) := wdS_dk hd8
 have hwd : (wdV l s8 n 8).length <= 8 := by
  obtain ⟨e, e2⟩ := wdN_le (l := l) (s := s8) (most := 8) (by omega)
  unfold wdV; rw [smV_len]; omega
 generalize wdV l s8 n 8 = wd at hwd
 generalize wdS l s8 n 8 = s9 at hd9
 obtain ⟨V, hV⟩ : ∃ V : List (List Int), V = [w, wd] := ⟨_, rfl⟩
 have hVl : V.length = 2 := by rw [hV]; rfl
 have hVk : ∀ v ∈ V, v.length <= 1000000 := by
  rw [hV]
  intro v hv
  simp only [List.mem_cons, List.not_mem_nil, or_false] at hv
  rcases hv with rfl | rfl <;> omega
 simp only [go_sem]
 refine LoopK.freeze (fun _ => true) (fun x : Nat => ⟨242, [(2, vPr p), (3, vPr q), (4, vs 0 w), (5, vi letter), (13, .pb 0 0), (14, vi n), (65, vs 0 Ks), (66, vi 2), (67, vi i), (16, vi k), (96, .sl 0 2 (X.map vPair)), (97, vi 5), (98, vi j), (19, vPr a), (20, vPr b), (137, vm 0 V), (138, vi 2), (139, vi x)], deckA l s9 :: (Rk 2 nc ++ [[vPr a, vPr b]])⟩)
  (fun x => 2 - x) (fun x => x <= 2) 0 (by omega) ?_ ?_
 ·rw [hV]
  simp only [go_sem, List.map_cons, List.map_nil, vPr]
 clear hV
 rintro e he
 by_cases h3 : e < 2
 case pos =>
  have heI : (e : Int) < 2 := by omega
  have hgv := getm (l := V) (i := e) (by omega)
  have hwe : IntKind.i64.wrap (e + 1) = e + 1 := wrap_in (by omega) (by omega)
  have kv := hVk _ (mem_bang (show e < V.length by omega))
  have d1 := con_xHas k a V[e]! kx kv
  have d2 := con_r09Has k a V[e]! kx kv
  simp only [vPr] at d1 d2
  simp only [go_sem, heI, hgv, hVl, vPr, List.length_map]
  refine CallU.free d1 (by simp only [go_sem]) (by simp only [go_sem]) ?_
  rintro r bx rfl
  simp only [go_sem]
  refine CallU.free d2 (by simp only [go_sem]) (by simp only [go_sem]) ?_
  rintro r bx rfl
  simp only [go_sem, hwe]
  refine roundK.intro (e + 1) (by omega) (by omega) ?_
  simp only [go_sem]
 obtain rfl : e = 2 := by omega
 simp only [go_sem, vPr]
 refine CallU.free c7 (by simp only [go_sem]) (by simp only [go_sem]) ?_
 rintro r bx rfl
 simp only [go_sem]
 refine CallU.free c8 (by simp only [go_sem]) (by simp only [go_sem]) ?_
 rintro r bx rfl
 simp only [go_sem, bne_self_eq_false]
 refine CallU.free c9 (by simp only [go_sem]) (by simp only [go_sem]) ?_
 rintro r bx rfl
 simp only [go_sem]
 refine CallU.boxes (i := 0) (is := []) (bx0 := [deckA l s9]) (con_dNext l s9 n hd9) (by simp only [go_sem]) (by simp only [go_sem]) (by simp only [go_sem]) (by simp only [go_sem]) (by simp only [go_sem]) ?_
 rintro r b' ⟨rfl, rfl⟩
 have hd10 : Dk l (nextS l s9 n) := nextS_dk hd9
 generalize nextV l s9 n = dn
 generalize nextS l s9 n = s10 at hd10
 obtain ⟨C, hC⟩ : ∃ C : List Int, C = [letter, dn] := ⟨_, rfl⟩
 have hCl : C.length = 2 := by rw [hC]; rfl
 simp only [go_sem]
 refine LoopK.freeze (fun _ => true) (fun x : Nat => ⟨242, [(2, vPr p), (3, vPr q), (4, vs 0 w), (5, vi letter), (13, .pb 0 0), (14, vi n), (65, vs 0 Ks), (66, vi 2), (67, vi i), (16, vi k), (96, .sl 0 2 (X.map vPair)), (97, vi 5), (98, vi j), (19, vPr a), (20, vPr b), (178, vs 0 C), (179, vi 2), (180, vi x)], deckA l s10 :: (Rk 2 nc ++ [[vPr a, vPr b]])⟩)
  (fun x => 2 - x) (fun x => x <= 2) 0 (by omega) ?_ ?_
 ·rw [hC]
  simp only [go_sem, List.map_cons, List.map_nil, vPr]
 clear hC
 rintro e he
 by_cases h3 : e < 2
 case pos =>
  have heI : (e : Int) < 2 := by omega
  have hgv := getv (l := C) (i := e) (by omega)
  have hwe : IntKind.i64.wrap (e + 1) = e + 1 := wrap_in (by omega) (by omega)
  obtain ⟨pa, pk, hpa, d1, d2⟩ := two_Append k a C[e]! kx
  obtain ⟨qa, qb, qk, hqa, d3, d4⟩ := two_Behind k a C[e]! kx
  have d5 := con_r09SameT pa hpa
  have d6 := con_r09SameT qa hqa
  simp only [vPr] at d1 d2 d3 d4 d5 d6
  simp only [go_sem, heI, hgv, hCl, vPr, List.length_map]
  refine CallU.free d1 (by simp only [go_sem]) (by simp only [go_sem]) ?_
  rintro r bx rfl
  simp only [go_sem]
  refine CallU.free d2 (by simp only [go_sem]) (by simp only [go_sem]) ?_
  rintro r bx rfl
  simp only [go_sem]
  refine CallU.free d3 (by simp only [go_sem]) (by simp only [go_sem]) ?_
  rintro r bx rfl
  simp only [go_sem]
  refine CallU.free d4 (by simp only [go_sem]) (by simp only [go_sem]) ?_
  rintro r bx rfl
  simp only [go_sem, bne_self_eq_false]
  refine CallU.free d5 (by simp only [go_sem]) (by simp only [go_sem]) ?_
  rintro r bx rfl
  simp only [go_sem]
  refine CallU.free d6 (by simp only [go_sem]) (by simp only [go_sem]) ?_
  rintro r bx rfl
  simp only [go_sem, hwe]
  refine roundK.intro (e + 1) (by omega) (by omega) ?_
  simp only [go_sem]
 obtain rfl : e = 2 := by omega
 simp only [go_sem, hwj]
 refine roundK.intro (j + 1, nc + 1, s10) ⟨by show j + 1 <= 5; omega, hd10⟩ (by show 5 - (j + 1) < 5 - j; omega) ?_
 simp only [go_sem, Rk_succ]
 all_goals exact leB_RkA (x := [[_, _]]) ⟨⟨leV_any _, leV_any _, trivial⟩, trivial⟩
end Go.AM
namespace Go.AM
open Go.Proofs Go.ChangeShapes Go.WideShapes Go.ChangeAt Go.RowKit
section
variable {H : Type} {enc : TypeId × Value -> H} {w : World} {base : Nat} {spare : Nat -> Bool} {held : Bool}
def litB : DataW H -> Bool
 | .lit (.bool b) => b
 | _ => false
def numsOf (d : DataW H) : List Int := (elemsOf d).map numI
def tmOf (d : DataW H) : TmD := match partsOf d with
 | [d0, d1] => ⟨litB d0, numsOf d1⟩
 | _ => ⟨false, []⟩
def prOf (d : DataW H) : List TmD := (elemsOf d).map tmOf
theorem cellsTm : Tryz.prog.cellsOf 57 = 2 := by kernel_rfl
theorem cellsInt : Tryz.prog.cellsOf 3 = 1 := by kernel_rfl
theorem cellsBool : Tryz.prog.cellsOf 4 = 1 := by kernel_rfl
theorem cellsInts : Tryz.prog.cellsOf 22 = 1 := by kernel_rfl
theorem nums_reads {n : Nat} {cs : List Value} {d : DataW H} {ps : List MemPlace} (h : DataW.trod enc Tryz.prog w base spare held n 22 cs = some (d, ps)) : ∃ v, cs = [v] /\ Reads w [vs 0 (numsOf d)] [v] /\ (numsOf d).length <= 9223372036854775807 := by
 obtain ⟨v, e, r, hl, _⟩ := slice_reads (g := fun x => vi (numI x)) Tryz.underlying22 cellsInt (by omega) h fun y hy k cs'' ps'' h'' => by
  obtain ⟨u, rfl, r⟩ := int_reads Tryz.underlying3 h''
  exact r
 have e2 : (elemsOf d).map (fun x => vi (numI x)) = (numsOf d).map vi := by simp [numsOf]
 rw [e2] at r
 exact ⟨v, e, r, by simpa [numsOf] using hl⟩
theorem tm_reads {n : Nat} {cs : List Value} {d : DataW H} {ps : List MemPlace} (h : DataW.trod enc Tryz.prog w base spare held n 57 cs = some (d, ps)) : Reads w (vTm (tmOf d)).cells cs := by
 obtain ⟨v0, v1, d0, d1, m, p0, p1, rfl, rfl, h0, h1⟩ := struct2_reads Tryz.underlying57 cellsTm rfl rfl cellsBool cellsInts h
 obtain ⟨u0, b, e0, rfl, r0⟩ := bool_reads Tryz.underlying4 h0
 obtain ⟨u1, e1, r1, _⟩ := nums_reads h1
 cases e0; cases e1
 exact r0.cons r1
theorem pr_reads {n : Nat} {cs : List Value} {d : DataW H} {ps : List MemPlace} (h : DataW.trod enc Tryz.prog w base spare held n 23 cs = some (d, ps)) : ∃ v, cs = [v] /\ Reads w [vPr (prOf d)] [v] /\ (prOf d).length <= 9223372036854775807 := by
 obtain ⟨v, e, r, hl, _⟩ := slice_reads (g := fun x => vTm (tmOf x)) Tryz.underlying23 cellsTm (by omega) h fun y hy k cs'' ps'' h'' => tm_reads h''
 have e2 : (elemsOf d).map (fun x => vTm (tmOf x)) = (prOf d).map vTm := by simp [prOf]
 rw [e2] at r
 exact ⟨v, e, r, by simpa [prOf] using hl⟩
end
end Go.AM
namespace Go.Proofs.YtlcckmmibeddeaaGreat
open Go.ChangeShapes Go.WideShapes Go.ChangeAt Go.RowKit Go.AM
theorem and_mk {a b : Bool} (h1 : a = true) (h2 : b = true) : (a && b) = true := by rw [h1, h2]; rfl
theorem cLaid : laidOutB Tryz.prog = true := by kernel_rfl
theorem cRowed : mapsRowed Tryz.prog = true := by kernel_rfl
theorem cHeard : Tryz.prog.stopsHeard = true := by kernel_rfl
theorem cEnter : Tryz.prog.mayEnter = true := by kernel_rfl
theorem cLifts : (Rows.expressionExactRow.lifted == Tryz.prog.liftsFinal) = true := by kernel_rfl
theorem expressionExactC0 : (Rows.expressionExactRow.wf (OpenSpec.ofChange Rows.expressionExactSpec)) = true := by kernel_rfl
theorem expressionExactC3 : (Tryz.f3.params.all (Tryz.prog.readableRec ·)) = true := by kernel_rfl
theorem expressionExactC4 : (namedTie Tryz.prog Rows.expressionExactRow.named Rows.expressionExactSpec.vars) = true := by kernel_rfl
theorem expressionExactC5 : ((Rows.expressionExactRow.stops == [])) = true := by kernel_rfl
theorem expressionExactC6 : ((Tryz.prog.stops == [])) = true := by kernel_rfl
theorem expressionExactC7 : ((Rows.expressionExactRow.knobs == [])) = true := by kernel_rfl
theorem expressionExactC8 : ((Tryz.prog.stopKnobs == [])) = true := by kernel_rfl
theorem expressionExactC9 : ((Rows.expressionExactRow.inPlace == Tryz.prog.inPlace 3)) = true := by kernel_rfl
theorem expressionExactC10 : ((Rows.expressionExactRow.unfollowed == Tryz.prog.unfollowed 3)) = true := by kernel_rfl
theorem expressionExactC11 : ((Rows.expressionExactRow.recurses == Tryz.prog.recurses 3)) = true := by kernel_rfl
theorem expressionExactC12 : ((Rows.expressionExactRow.named == Tryz.prog.varsNamed 3)) = true := by kernel_rfl
theorem expressionExactC13 : ((Rows.expressionExactRow.maps == (Tryz.f3.params.toList ++ Rows.expressionExactSpec.plain.varTypes Tryz.prog).any (Tryz.prog.mapsRec ·))) = true := by kernel_rfl
theorem expressionExactC14 : ((Rows.expressionExactRow.ifaces == (Tryz.f3.params.toList ++ Rows.expressionExactSpec.plain.varTypes Tryz.prog).any (Tryz.prog.ifacesRec ·))) = true := by kernel_rfl
theorem expressionExactC15 : ((Rows.expressionExactRow.mapsOut == Tryz.prog.mapsAmong Tryz.f3.resultTypes.toList)) = true := by kernel_rfl
theorem expressionExactC16 : ((Rows.expressionExactRow.loops == (Tryz.f3.params.toList ++ Rows.expressionExactSpec.plain.varTypes Tryz.prog).any (Tryz.prog.loopsFrom ·))) = true := by kernel_rfl
theorem expressionExactC17 : ((Rows.expressionExactRow.wideKeys == (Tryz.f3.params.toList ++ Rows.expressionExactSpec.plain.varTypes Tryz.prog ++ Tryz.f3.resultTypes.toList).any (Tryz.prog.wideKeysFrom ·))) = true := by kernel_rfl
theorem expressionExactC18 : (Rows.expressionExactSpec.vars.all (Tryz.prog.varReadable ·)) = true := by kernel_rfl
theorem expressionExactC19 : (Tryz.f3.resultTypes.all (fun t => Tryz.prog.readableRec t && decide (t < Tryz.prog.types.size))) = true := by kernel_rfl
theorem expressionExactC20 : ((Rows.expressionExactRow.ifacesOut == Tryz.f3.resultTypes.toList.any (Tryz.prog.ifacesRec ·))) = true := by kernel_rfl
theorem expressionExactC21 : ((Rows.expressionExactRow.loopsOut == Tryz.f3.resultTypes.toList.any (Tryz.prog.loopsFrom ·))) = true := by kernel_rfl
theorem expressionExactC22 : ((Rows.expressionExactRow.plainKeys == Tryz.prog.plainKeys)) = true := by kernel_rfl
theorem expressionExactC23 : (Rows.expressionExactRow.shortTexts.isNone) = true := by kernel_rfl
theorem expressionExactC27 : ((Tryz.prog.make == some Rows.expressionExactRow.make)) = true := by kernel_rfl
theorem expressionExactC28 : ((Rows.expressionExactRow.kinds == (if Rows.expressionExactRow.domain.isEmpty then [] else Tryz.f3.params.toList.map fun t => match Tryz.prog.underlying t with | some (.int k) => some k | _ => none))) = true := by kernel_rfl
theorem expressionExactC29 : ((Rows.expressionExactRow.pinned == Rows.expressionExactRow.pinnedBy)) = true := by kernel_rfl
theorem expressionExactC30 : ((Rows.expressionExactRow.veiled == (Tryz.f3.params.toList ++ Rows.expressionExactSpec.plain.varTypes Tryz.prog ++ Tryz.f3.resultTypes.toList).any (Tryz.prog.veiledRec ·))) = true := by kernel_rfl
theorem expressionExactC31 : (Rows.expressionExactRow.veiledFits Tryz.prog Tryz.f3.params.toList (Tryz.f3.params.toList ++ Rows.expressionExactSpec.plain.varTypes Tryz.prog ++ Tryz.f3.resultTypes.toList)) = true := by kernel_rfl
set_option maxRecDepth 100000
theorem expressionExactClosed : joinedFacts Tryz.prog 3 Tryz.f3 Rows.expressionExactSpec Rows.expressionExactRow = true := by
 unfold joinedFacts
 exact and_mk (and_mk (and_mk (and_mk (and_mk (and_mk (and_mk (and_mk (and_mk (and_mk (and_mk (and_mk (and_mk (and_mk (and_mk (and_mk (and_mk (and_mk (and_mk (and_mk (and_mk (and_mk (and_mk (and_mk (and_mk (and_mk (and_mk (and_mk (and_mk (and_mk (and_mk expressionExactC0 cLaid) cRowed) expressionExactC3) expressionExactC4) expressionExactC5) expressionExactC6) expressionExactC7) expressionExactC8) expressionExactC9) expressionExactC10) expressionExactC11) expressionExactC12) expressionExactC13) expressionExactC14) expressionExactC15) expressionExactC16) expressionExactC17) expressionExactC18) expressionExactC19) expressionExactC20) expressionExactC21) expressionExactC22) expressionExactC23) cHeard) cEnter) cLifts) expressionExactC27) expressionExactC28) expressionExactC29) expressionExactC30) expressionExactC31
theorem expressionExactNamed : Tryz.prog.funcNamed Rows.expressionExactRow.func = some 3 := by kernel_rfl
end Go.Proofs.YtlcckmmibeddeaaGreat
