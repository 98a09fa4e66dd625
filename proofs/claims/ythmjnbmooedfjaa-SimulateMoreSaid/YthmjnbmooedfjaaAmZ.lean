/-
  The abstract machine: the library's Sort and Compact at lists of integers that the call owns: contracts off the shelf, over any program.
-/
import Derived.Test.YthmjnbmooedfjaaAmV
import Derived.Shelf.Sort.Plain
import Derived.Shelf.Slices.CompactI
namespace Go.AM
open Go.RowKit Go.Proofs Go.Shelf

/-- integers as elements -/
def ai (l : List Int) : List AV := l.map fun n => .sc (.int .i64 n)
theorem ai_exact (l : List Int) : ai l = exact (l.map (Value.int .i64)) := by simp [ai, exact]
theorem ai_len (l : List Int) : (ai l).length = l.length := by simp [ai]
theorem ai_one (l : List Int) : One (l.map (Value.int .i64)) := fun u hu => by
  obtain ⟨n, _, rfl⟩ := List.mem_map.1 hu; rfl

theorem VRel.ints {G : Nat → Status} {w : World} {t : Nat} {l : List Int} {v : Value} (h : VRel G w (.sl t 1 (ai l)) v) (ht : 2 ≤ t) (hl : 0 < l.length) :
    ∃ g cap cur e, v = .slice (some ⟨g, 0, none⟩) l.length cap ∧ G g = .tag t ∧ w.heap[g]? = some (.cells cur e (0, 0)) ∧ l.length ≤ cap ∧ cap ≤ maxLen ∧ cur.size = cap ∧ cur.toList.take l.length = l.map (Value.int .i64) := by
  rw [ai_exact] at h
  generalize hL : exact (l.map (Value.int .i64)) = L at h
  cases h with
  | froz h => exfalso; cases h <;> omega
  | own _ _ _ _ e vals _ h2 h3 h4 h0 h5 =>
    rw [← hL] at h2 h5
    have hv := exact_inv h5
    subst hv
    simp only [exact_len, List.length_map] at h2
    rcases h2.2 with ⟨_, hz⟩ | ⟨g, cap, cur, hv, _, hh, hn, hc, hs, ht⟩
    · omega
    · exact ⟨g, cap, cur, e, hv, h3 g (by rw [hv]; rfl), hh, hn, hc, by simpa using hs, by simpa using ht⟩

theorem ints_holds {w : World} {g cap : Nat} {cur : Array Value} {e : TypeId} {l : List Int} (hh : w.heap[g]? = some (.cells cur e (0, 0))) (ht : cur.toList.take l.length = l.map (Value.int .i64)) :
    Go.Sort.Holds (Value.int .i64) w g 0 l.toArray := fun j hj => by
  have hj' : j < l.length := by simpa using hj
  have h1 : cur.toList[j]? = some (.int .i64 l[j]!) := by
    have := congrArg (fun m : List Value => m[j]?) ht
    simp only [List.getElem?_take, if_pos hj', List.getElem?_map, List.getElem?_eq_getElem hj', Option.map_some] at this
    rw [this, getElem!_pos l j hj']
  refine ⟨?_, by simp [World.frozen?, hh]⟩
  simp only [World.cell?, hh, Nat.zero_add]
  simpa [hj'] using h1

theorem take_putCells {cur : Array Value} {l : List Int} (h : l.length ≤ cur.size) : (Go.Sort.putCells (Value.int .i64) 0 l.toArray cur).toList.take l.length = l.map (Value.int .i64) := by
  apply List.ext_getElem?
  intro k
  simp only [List.getElem?_take, Go.Sort.putCells, Array.getElem?_toList, Array.getElem?_mapIdx, List.getElem?_map]
  by_cases hk : k < l.length
  · have hc : k < cur.size := by omega
    simp [hk, hc]
  · simp [hk]

/-- the world behind a library function that wrote into the row alone -/
theorem ints_put {G : Nat → Status} {w : World} {t g cap n : Nat} {cur : Array Value} {e : TypeId} {l l' : List Int} {os : Array Obj} (ht : 2 ≤ t) (hg : Good G w) (hG : G g = .tag t) (hh : w.heap[g]? = some (.cells cur e (0, 0)))
    (hlen : l'.length = l.length) (hc : l.length ≤ cap) (hm : cap ≤ maxLen) (hs : cur.size = cap) {w' : World} (hw : w' = Go.Sort.grow (Go.Sort.putRow (Value.int .i64) (Go.Sort.ahead w n) g 0 l'.toArray) os) :
    (∀ k, k ≤ l'.length → VRel G w' (.sl t 1 (ai (l'.take k))) (.slice (some ⟨g, 0, none⟩) k cap)) ∧ Good G w' ∧ w'.os = w.os ∧ w'.tape = w.tape ∧ w'.output = w.output ∧ w.heap.size ≤ w'.heap.size ∧
      (∀ b, b < w.heap.size → (∀ t, G b ≠ .tag t) → w'.heap[b]? = w.heap[b]?) := by
  have hgl : g < w.heap.size := by
    rcases Nat.lt_or_ge g w.heap.size with h | h
    · exact h
    · simp [Array.getElem?_eq_none h] at hh
  have hsz : w'.heap.size = w.heap.size + os.size := by rw [hw]; simp
  have hb : ∀ b, b < w.heap.size → b ≠ g → w'.heap[b]? = w.heap[b]? := fun b hb hne => by
    rw [hw]
    simp only [Go.Sort.grow, Go.Sort.putRow, Go.Sort.mapBlock, Go.Sort.ahead]
    rw [Array.getElem?_append_left (by simpa using hb), Array.getElem?_modify, if_neg (Ne.symm hne)]
  have hbg : w'.heap[g]? = some (.cells (Go.Sort.putCells (Value.int .i64) 0 l'.toArray cur) e (0, 0)) := by
    rw [hw]
    simp only [Go.Sort.grow, Go.Sort.putRow, Go.Sort.mapBlock, Go.Sort.ahead]
    rw [Array.getElem?_append_left (by simpa using hgl), Array.getElem?_modify, if_pos rfl, hh]
    rfl
  refine ⟨fun k hk => ?_, ⟨fun b hb => Nat.lt_of_lt_of_le (hg.lt b hb) (by omega), hg.tags, hg.boxes⟩, by rw [hw]; rfl, by rw [hw]; rfl, by rw [hw]; rfl, by omega, fun b hb' hn => hb b hb' fun h => by subst h; exact hn t hG⟩
  have hkl : (l'.take k).length = k := by rw [List.length_take]; omega
  rw [ai_exact]
  refine .own t 1 _ _ e ((l'.take k).map (Value.int .i64)) ht ?_ (fun b hb => by simp only [Value.ownBlock, Option.some.injEq] at hb; rw [← hb]; exact hG) (exact_wide _) (ai_one _) exact_rel
  rw [exact_len, List.length_map, hkl]
  refine ⟨by rw [List.length_map, hkl]; omega, .inr ⟨g, cap, _, rfl, Nat.zero_le _, hbg, by omega, hm, by simp [Go.Sort.putCells, hs], ?_⟩⟩
  rw [Nat.mul_one]
  have := take_putCells (cur := cur) (l := l') (by omega)
  have h2 := congrArg (List.take k) this
  rw [List.take_take, Nat.min_eq_left hk] at h2
  rw [h2, List.map_take]

/-- the list in ascending order -/
def sortI (l : List Int) : List Int := l.mergeSort fun x y => decide (x ≤ y)

theorem conw_sort {P : Program} {ρ : Go.Shelf.Ren} (Ly : Lays.n189 P ρ) (hcall : Callable P (ρ.f 189)) (l : List Int) (h0 : 0 < l.length) (hl : l.length < 4611686018427387904) :
    ConW P (ρ.f 189) [.sl 2 1 (ai l)] fun r ys => r = .tup [] ∧ ys = [.sl 2 1 (ai (sortI l))] := by
  refine ⟨hcall, fun G w vs hg hnb hv => ?_⟩
  obtain ⟨v, vr, he, h1, h2⟩ := hv.cons_inv
  have := h2.nil_inv
  subst this
  obtain ⟨g, cap, cur, e, rfl, hG, hh, hc, hm, hs, ht⟩ := h1.ints (by omega) h0
  have hvs : vs = #[.slice (some ⟨g, 0, none⟩) l.length cap] := by cases vs; simp_all
  subst hvs
  have hlt : g < w.heap.size := by
    rcases Nat.lt_or_ge g w.heap.size with h | h
    · exact h
    · simp [Array.getElem?_eq_none h] at hh
  refine (Go.Proofs.Any.slices_Sort_int Ly g 0 cap l w (ints_holds (cap := cap) hh ht) hlt hl).mono fun e' w' ⟨he', n, os, hw⟩ => ?_
  have hlen : (sortI l).length = l.length := by simp [sortI]
  obtain ⟨k1, k2, k3, k4, k5, k6, k7⟩ := ints_put (l := l) (l' := sortI l) (t := 2) (by omega) hg hG hh hlen hc hm hs hw
  have k0 := k1 _ (Nat.le_refl _)
  rw [List.take_length, hlen] at k0
  refine ⟨_, .tup [], _, G, he', ⟨rfl, rfl⟩, .tup [] _ rfl (fun j x u h => by simp at h), .cons k0 (.nil _), k2, hnb, k3, k4, k5, k6, fun _ _ _ => rfl, k7⟩

/-- math/bits.Len -/
theorem con_bitsLen {P : Program} {ρ : Ren} (Ly : Lays.n189 P ρ) (hcall : Callable P (ρ.f 125)) (n : Nat) (hn : n < 4611686018427387904) :
    Con P (ρ.f 125) [.sc (.int .u64 n)] [] fun r _ => r = .sc (.int .i64 (Go.Sort.bitsLen n : Nat)) := by
  refine ⟨hcall, fun G w vs hg h2 h3 h4 hv => ?_⟩
  obtain ⟨v, vr, he, h1, h2'⟩ := hv.cons_inv
  have := h2'.nil_inv
  subst this
  have := h1.sc_inv
  subst this
  have hvs : vs = #[.int .u64 n] := by cases vs; simp_all
  subst hvs
  refine (calls_of_every_depth fun D => Any.lenWalkInAll { Ly with } D n w hn).mono fun e' w' ⟨he', hw⟩ => ?_
  subst hw
  exact ⟨_, _, [], G, he', rfl, .froz (.sc _), hg, ⟨fun i vs hv => by simp [noGh] at hv, fun i cs hi => by simp at hi⟩, h3, rfl, rfl, rfl, Nat.le_refl _, fun _ _ => rfl, fun _ _ _ => rfl⟩

/-- the library's pdqsort, as Sort calls it -/
theorem conw_pdq {P : Program} {ρ : Ren} (Ly : Lays.n189 P ρ) (hcall : Callable P (ρ.f 257)) (l : List Int) (h0 : 0 < l.length) (hl : l.length < 4611686018427387904) :
    ConW P (ρ.f 257) [.sl 2 1 (ai l), .sc (.int .i64 0), .sc (.int .i64 l.length), .sc (.int .i64 (Go.Sort.bitsLen l.length : Nat))] fun r ys =>
      r = .tup [] ∧ ys = [.sl 2 1 (ai (sortI l)), .sc (.int .i64 0), .sc (.int .i64 l.length), .sc (.int .i64 (Go.Sort.bitsLen l.length : Nat))] := by
  refine ⟨hcall, fun G w vs hg hnb hv => ?_⟩
  obtain ⟨v, vr, he, h1, h2⟩ := hv.cons_inv
  obtain ⟨v2, vr2, rfl, h3, h4⟩ := h2.cons_inv
  obtain ⟨v3, vr3, rfl, h5, h6⟩ := h4.cons_inv
  obtain ⟨v4, vr4, rfl, h7, h8⟩ := h6.cons_inv
  have := h8.nil_inv
  subst this
  have e2 := h3.sc_inv; subst e2
  have e3 := h5.sc_inv; subst e3
  have e4 := h7.sc_inv; subst e4
  obtain ⟨g, cap, cur, e, rfl, hG, hh, hc, hm, hs, ht⟩ := h1.ints (by omega) h0
  have hvs : vs = #[.slice (some ⟨g, 0, none⟩) l.length cap, .int .i64 0, .int .i64 l.length, .int .i64 (Go.Sort.bitsLen l.length : Nat)] := by cases vs; simp_all
  subst hvs
  have hlt : g < w.heap.size := by
    rcases Nat.lt_or_ge g w.heap.size with h | h
    · exact h
    · simp [Array.getElem?_eq_none h] at hh
  have hk : Go.Sort.bitsLen l.length ≤ 62 := (Go.Sort.bitsLen_le_iff l.length 62).2 (by omega)
  have hdp := Go.Sort.pdqDepth_le_59 Go.Sort.ltInt l.toArray 0 l.length (Go.Sort.bitsLen l.length) true true (by omega)
  have hcalls : Calls P (ρ.f 257) #[.slice (some ⟨g, 0, none⟩) l.length cap, .int .i64 0, .int .i64 l.length, .int .i64 (Go.Sort.bitsLen l.length : Nat)] w fun e w' =>
      e = .returned (.tuple #[]) ∧ ∃ n os, w' = Go.Sort.grow (Go.Sort.putRow (Value.int .i64) (Go.Sort.ahead w n) g 0 (sortI l).toArray) os := by
    refine (calls_of_every_depth (n := 65) fun D => Any.pdqWalkInInt { Ly with } D 65 g 0 cap 0 l.length (Go.Sort.bitsLen l.length) l.toArray w (by omega) (ints_holds (cap := cap) hh ht) hlt (Nat.zero_le _) (by simp) (by simpa using hl) (by omega) (.inl rfl)).mono ?_
    rintro e' w' ⟨he', n, os, hw⟩
    refine ⟨he', n, os, ?_⟩
    have := Any.sort_int_eqD l
    unfold Go.Sort.sort at this
    rw [hw]
    unfold sortI
    rw [← this]; simp
  refine hcalls.mono fun e' w' ⟨he', n, os, hw⟩ => ?_
  have hlen : (sortI l).length = l.length := by simp [sortI]
  obtain ⟨k1, k2, k3, k4, k5, k6, k7⟩ := ints_put (l := l) (l' := sortI l) (t := 2) (by omega) hg hG hh hlen hc hm hs hw
  have k0 := k1 _ (Nat.le_refl _)
  rw [List.take_length, hlen] at k0
  exact ⟨_, .tup [], _, G, he', ⟨rfl, rfl⟩, .tup [] _ rfl (fun j x u h => by simp at h), .cons k0 (.cons (.froz (.sc _)) (.cons (.froz (.sc _)) (.cons (.froz (.sc _)) (.nil _)))), k2, hnb, k3, k4, k5, k6, fun _ _ _ => rfl, k7⟩

theorem conw_compact {P : Program} {ρ : Go.Shelf.Ren} (Ly : Lays2.n20 P ρ) (hcall : Callable P (ρ.f 20)) (l : List Int) (h0 : 0 < l.length) (hl : l.length < 4611686018427387904) :
    ConW P (ρ.f 20) [.sl 2 1 (ai l)] fun r ys => r = .sl 2 1 (ai (Go.Lib.compact l)) ∧ ∃ zs, ys = [.sl 2 1 zs] ∧ zs.length = l.length := by
  refine ⟨hcall, fun G w vs hg hnb hv => ?_⟩
  obtain ⟨v, vr, he, h1, h2⟩ := hv.cons_inv
  have := h2.nil_inv
  subst this
  obtain ⟨g, cap, cur, e, rfl, hG, hh, hc, hm, hs, ht⟩ := h1.ints (by omega) h0
  have hvs : vs = #[.slice (some ⟨g, 0, none⟩) l.length cap] := by cases vs; simp_all
  subst hvs
  refine (Go.Proofs.Any.slices_Compact_int Ly g 0 cap l w (ints_holds (cap := cap) hh ht) (by omega) hc).mono fun e' w' ⟨he', n, hw⟩ => ?_
  have hle : (Go.Lib.compact l).length ≤ l.length := by unfold Go.Lib.compact Go.Lib.compactUpTo; rw [List.length_map]; exact Nat.le_trans (List.length_filter_le _ _) (by simp)
  have hlen : (Go.Lib.compact l ++ List.replicate (l.length - (Go.Lib.compact l).length) 0).length = l.length := by simp; omega
  obtain ⟨k1, k2, k3, k4, k5, k6, k7⟩ := ints_put (l := l) (l' := Go.Lib.compact l ++ List.replicate (l.length - (Go.Lib.compact l).length) 0) (os := #[]) (t := 2) (by omega) hg hG hh hlen hc hm hs (w' := w') (n := n) (by rw [hw, Go.Sort.grow_empty])
  have k0 := k1 _ (Nat.le_refl _)
  have k9 := k1 (Go.Lib.compact l).length (by omega)
  rw [List.take_length, hlen] at k0
  rw [List.take_left] at k9
  refine ⟨_, _, _, G, he', ⟨rfl, _, rfl, ?_⟩, k9, .cons k0 (.nil _), k2, hnb, k3, k4, k5, k6, fun _ _ _ => rfl, k7⟩
  rw [ai_len, hlen]
end Go.AM
