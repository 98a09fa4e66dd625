/-
  The abstract machine: copy, into what the call owns.
-/
import Derived.Test.YthmjnbmooedfjaaAmV
import Derived.Lib.SliceRun
import Derived.Laws.CopyRow
namespace Go.AM
open Go.RowKit

theorem flat_set {y : AV} (hy : y.cells = [y]) : ∀ (xs : List AV) (i : Nat), (∀ x ∈ xs, x.cells.length = 1) → flat (xs.set i y) = (flat xs).set i y
  | [], i, _ => by simp [flat]
  | x :: xs, 0, h => by
    obtain ⟨c, hc⟩ : ∃ c, x.cells = [c] := by
      have := h x (by simp)
      cases hx : x.cells with
      | nil => simp [hx] at this
      | cons c r => cases r with
        | nil => exact ⟨c, rfl⟩
        | cons _ _ => simp [hx] at this
    simp [flat, hy, hc]
  | x :: xs, i + 1, h => by
    obtain ⟨c, hc⟩ : ∃ c, x.cells = [c] := by
      have := h x (by simp)
      cases hx : x.cells with
      | nil => simp [hx] at this
      | cons c r => cases r with
        | nil => exact ⟨c, rfl⟩
        | cons _ _ => simp [hx] at this
    have ih := flat_set hy xs i fun z hz => h z (by simp [hz])
    simp only [flat] at ih
    simp [flat, hc, ih]

theorem leafy_cells {y : AV} (h : y.leafy = true) : y.cells = [y] := by cases y <;> first | rfl | (simp [AV.leafy] at h)

theorem flat_leaf : ∀ {ys : List AV}, leafAll ys = true → flat ys = ys
  | [], _ => rfl
  | y :: ys, h => by
    simp only [leafAll, List.all_cons, Bool.and_eq_true] at h
    have := flat_leaf (ys := ys) h.2
    simp only [flat] at this
    simp [flat, leafy_cells h.1, this]

theorem flat_setSeg : ∀ (ys xs : List AV) (i : Nat), (∀ x ∈ xs, x.cells.length = 1) → leafAll ys = true → flat (setSeg xs i ys) = setSeg (flat xs) i ys ∧ ∀ x ∈ setSeg xs i ys, x.cells.length = 1
  | [], xs, i, h, _ => ⟨rfl, h⟩
  | y :: ys, xs, i, h, hl => by
    simp only [leafAll, List.all_cons, Bool.and_eq_true] at hl
    have hy := leafy_cells hl.1
    have h' : ∀ x ∈ xs.set i y, x.cells.length = 1 := fun x hx => by
      rcases List.mem_or_eq_of_mem_set hx with hx | rfl
      · exact h x hx
      · rw [hy]; rfl
    have ih := flat_setSeg ys (xs.set i y) (i + 1) h' hl.2
    simp only [setSeg]
    rw [← flat_set hy xs i h]
    exact ih

def copyLeaf (t i : Nat) (ys : List AV) : AV → AV
  | .so _ _ => .any
  | .po _ _ _ => .any
  | .sl t' es' xs => if t' = t then (if es' = 1 then .sl t 1 (setSeg xs i ys) else .any) else .sl t' es' xs
  | .pe t' es' xs i' o' => if t' = t then .any else .pe t' es' xs i' o'
  | .tl _ _ _ _ => .any
  | x => x

section
variable {G : Nat → Status} {w : World} {t i b : Nat} {ys : List AV} {vs : List Value} {cur : Array Value} {e : TypeId}

/-- a copy into a row that is owned: all that bears the tag is turned -/
theorem VRel.copied (hg : Good G w) (ht : 2 ≤ t) (hb : G b = .tag t) (hh : w.heap[b]? = some (.cells cur e (0, 0))) (hl : leafAll ys = true)
    (hy : PW (FRel (Stable G) w) ys vs) (h1 : One vs) {x : AV} {v : Value} (h : VRel G w x v) :
    VRel G (w.setRow b (setSeg cur.toList i vs).toArray) (x.mapTop (copyLeaf t i ys)) v := by
  have hset := setRow_heap w b cur (setSeg cur.toList i vs).toArray e (0, 0) hh
  have hF : ∀ {x v}, FRel (Stable G) w x v → FRel (Stable G) (w.setRow b (setSeg cur.toList i vs).toArray) x v := fun hr =>
    hr.mono (fun _ h => h) (fun b' hb' => heap_setRow_ne (fun h => by subst h; unfold Stable at hb'; rw [hb] at hb'; cases hb'))
  have hsl : ∀ {t' es' xs v}, VRel G w (.sl t' es' xs) v → VRel G (w.setRow b (setSeg cur.toList i vs).toArray) (copyLeaf t i ys (.sl t' es' xs)) v := by
    intro t' es' xs v h
    simp only [copyLeaf]
    cases h with
    | froz h =>
      have : t' < 2 := by cases h <;> assumption
      rw [if_neg (by omega)]
      exact .froz (hF h)
    | own _ _ _ _ e' vals h2 h3 h4 h5 h0 h6 =>
      by_cases htt : t' = t
      · subst htt
        rw [if_pos rfl]
        by_cases hes : es' = 1
        · subst hes
          rw [if_pos rfl]
          obtain ⟨hflat, hwid⟩ := flat_setSeg ys xs i h5 hl
          have hlen : (setSeg xs i ys).length = xs.length := setSeg_length _ _ _
          rcases h3.2 with ⟨hv, hn⟩ | ⟨g, cap, cur', hv, hgb, hh', hnc, hcm, hcs, hct⟩
          · subst hv
            obtain rfl := List.eq_nil_of_length_eq_zero hn
            have : setSeg ([] : List AV) i ys = [] := setSeg_out _ _ _ (by simp)
            rw [this]
            refine .own t' 1 [] _ e' vals h2 ⟨h3.1, .inl ⟨rfl, rfl⟩⟩ (fun b hb => by simp [Value.ownBlock] at hb) (by simp) h0 ⟨h6.1, fun j x u hx hu => hF (h6.2 j x u hx hu)⟩
          · subst hv
            obtain rfl := hg.tags _ _ _ (h4 g rfl) hb
            rw [hh] at hh'
            simp only [Option.some.injEq, Obj.cells.injEq, and_true] at hh'
            obtain ⟨rfl, rfl⟩ := hh'
            refine .own t' 1 _ _ e (AM.setSeg vals i vs) h2 ⟨?_, .inr ⟨g, cap, _, by rw [hlen], Nat.zero_le _, hset, by rw [hlen]; exact hnc, hcm, ?_, ?_⟩⟩ (fun b' hb' => ?_) hwid (One.setSeg _ h1 h0) ?_
            · rw [setSeg_length, hlen]; exact h3.1
            · simp only [List.size_toArray, setSeg_length, Array.length_toList]; exact hcs
            · rw [hlen]; simp only [setSeg_take]; rw [hct]
            · simp only [Value.ownBlock, Option.some.injEq] at hb'; rw [← hb']; exact hb
            · rw [hflat]
              exact (PW.setSeg _ hy h6).mono fun x y _ hr => hF hr
        · rw [if_neg hes]; exact .froz (.any _)
      · rw [if_neg htt]
        refine .own t' es' xs v e' vals h2 (ownsRow_congr h3 fun b' hb' => heap_setRow_ne (fun h => ?_)) h4 h5 h0 (h6.mono fun x y _ hr => hF hr)
        subst h
        have := h4 _ hb'
        rw [hb] at this; cases this; exact htt rfl
  refine h.mapTop fun x v hx h => ?_
  cases x with
  | so t' xs => exact .froz (.any _)
  | po t' xs i' => exact .froz (.any _)
  | tl t' es' xs i' => exact .froz (.any _)
  | sl t' es' xs => exact hsl h
  | pe t' es' xs i' o' =>
    obtain ⟨b', off, c, h2, h3, rfl⟩ := h.pe_inv
    have := hsl h2
    simp only [copyLeaf] at this ⊢
    by_cases htt : t' = t
    · rw [if_pos htt]; exact .froz (.any _)
    · rw [if_neg htt] at this ⊢
      exact .pe _ _ _ _ _ _ _ _ this h3
  | pb i o => obtain ⟨b, hb, rfl⟩ := h.pb_inv; exact .pb _ _ _ hb
  | ag cs => simp [AV.leafy] at hx
  | tup cs => simp [AV.leafy] at hx
  | any => exact .froz (.any _)
  | nil => rw [h.nil_inv]; exact .froz .nil
  | ub => obtain ⟨b, rfl⟩ := h.ub_inv; exact .froz (.ub b)
  | sc u => rw [h.sc_inv]; exact .froz (.sc _)
  | fn g caps => cases h with | froz h => exact .froz (hF h)
  | mp t' P k e' D => exact h.mpMono (fun _ hb => hb) (fun b' es cl _ hm => heap_setRow_ne (fun h => by subst h; rw [hh] at hm; cases hm))
  | cl g caps => exact h.clMono (fun _ h => h) (fun b' hb' => heap_setRow_ne (fun h => by subst h; unfold Stable at hb'; rw [hb] at hb'; cases hb')) (fun _ _ h => h)
  | fp cs o => cases h with | froz h => exact .froz (hF h)

/-- where a copy goes -/
def copyDst : AV → Option (Nat × List AV × Nat)
  | .sl t 1 xs => some (t, xs, 0)
  | .tl t 1 xs i => some (t, xs, i)
  | _ => none

theorem VRel.ownRow {xs : List AV} {v : Value} (h : VRel G w (.sl t 1 xs) v) (ht : 2 ≤ t) (hn : 0 < xs.length) :
    ∃ g c cur e, v = .slice (some ⟨g, 0, none⟩) xs.length c ∧ G g = .tag t ∧ w.heap[g]? = some (.cells cur e (0, 0)) ∧ xs.length ≤ cur.size := by
  cases h with
  | froz h => exfalso; cases h <;> omega
  | own _ _ _ _ e vals _ g2 g3 g4 g0 g5 =>
    rcases g2.2 with ⟨_, hz⟩ | ⟨g, cap, cur, hv, _, hh, hnc, hcm, hcs, hct⟩
    · omega
    · exact ⟨g, cap, cur, e, hv, g3 g (by rw [hv]; rfl), hh, by rw [hcs]; omega⟩

theorem copyDst_inv {x : AV} {xs : List AV} {v : Value} (hd : copyDst x = some (t, xs, i)) (h : VRel G w x v) (ht : 2 ≤ t) (hi : i < xs.length) :
    ∃ g c cur e, v = .slice (some ⟨g, i, none⟩) (xs.length - i) c ∧ G g = .tag t ∧ w.heap[g]? = some (.cells cur e (0, 0)) ∧ xs.length ≤ cur.size := by
  unfold copyDst at hd
  split at hd
  · cases hd
    obtain ⟨g, c, cur, e, rfl, h1, h2, h3⟩ := h.ownRow ht (by omega)
    exact ⟨g, c, cur, e, rfl, h1, h2, h3⟩
  · cases hd
    obtain ⟨b, off, off', c, h1, h2, h3, hc, rfl⟩ := h.tl_inv
    obtain ⟨g, c', cur, e, hv, k1, k2, k3⟩ := h1.ownRow ht (by omega)
    cases hv
    obtain rfl : off' = 0 + i * 1 := by rcases h3 with h3 | h3 <;> omega
    exact ⟨b, c - i, cur, e, by simp, k1, k2, k3⟩
  · cases hd
end

section
variable {P : Program}
def evCopy (P : Program) (T : TypeId) (d : Nat) (σ : St) (x y : AV) (K : St → Prop) : Prop :=
  match copyDst x, y with
  | some (t, xs, i), .sl _ 1 ys => 2 ≤ t ∧ (∃ E q, P.underlying T = some (.slice E) ∧ tinfo P E = some q ∧ q.1 = 1) ∧ i < xs.length ∧ 0 < ys.length ∧ leafAll ys = true ∧
      K ((σ.map (copyLeaf t i (ys.take (xs.length - i)))).put (some d) (.sc (.int .i64 (min ys.length (xs.length - i) : Nat))))
  | _, _ => False

theorem evCopy_sound {T T' : TypeId} {σ : St} {K : St → Prop} {G0 w0 G a w} {d : Nat} {o : Oper} {x y : Operand} (ho : o.op = .call ⟨.builtin .copy, #[x, y], #[T, T']⟩) (hd : o.dst = some d) (hdn : d < σ.n) (h : SRel G0 w0 σ G a w)
    (hw : evCopy P T d σ (σ.ev x) (σ.ev y) K) : ∃ v w', (execOp a.eval o).run P w = .ok (.value v) w' ∧ ∃ σ' G', K σ' ∧ SRel G0 w0 σ' G' (a.put o.dst v) w' := by
  unfold evCopy at hw
  split at hw
  · rename_i t xs i t' ys hcd hy
    obtain ⟨ht, ⟨E, ⟨sz, by_, z⟩, hT, hq, hs1⟩, hi, hyl, hla, hk⟩ := hw
    simp only at hs1; subst hs1
    obtain ⟨ti, hti, hsz, _, _⟩ := tinfo_some hq
    obtain ⟨g, c, cur, e, hxv, hgt, hh, hcs⟩ := copyDst_inv hcd (h.ev x) ht hi
    have hyv := h.ev y
    rw [hy] at hyv
    rcases hyv.news with ⟨rfl, _⟩ | ⟨ya, yc, news, hyv', h1, h2, h3, h4, h5⟩
    · simp at hyl
    · rw [flat_leaf hla] at h5
      have hnl : news.length = ys.length := by rw [h1]; omega
      have hkl : (news.take (xs.length - i)).length = min ys.length (xs.length - i) := by rw [List.length_take, hnl]; omega
      have hrun := run_copy_row P w T T' o.type E g i (xs.length - i) c ya ys.length yc cur e (news.take (xs.length - i)) hT (by rw [hti]; simp [hsz]) hh hkl
        (fun j v hj => by
          rw [List.getElem?_take] at hj
          split at hj
          · exact h2 j v hj
          · cases hj) (by rw [hkl]; have := hi; omega) (fun v hv => h3 v (List.mem_of_mem_take hv))
      have hseg : cur.toList.take i ++ news.take (xs.length - i) ++ cur.toList.drop (i + (news.take (xs.length - i)).length) = setSeg cur.toList i (news.take (xs.length - i)) := by
        rw [setSeg_eq _ _ _ (by rw [hkl]; simp; omega)]
      rw [hseg, hkl] at hrun
      have hla' : leafAll (ys.take (xs.length - i)) = true := by
        simp only [leafAll, List.all_eq_true] at hla ⊢
        exact fun z hz => hla z (List.mem_of_mem_take hz)
      have hst : ∀ {x v}, VRel G w x v → VRel G (w.setRow g (setSeg cur.toList i (news.take (xs.length - i))).toArray) (x.mapTop (copyLeaf t i (ys.take (xs.length - i)))) v := fun hr =>
        hr.copied h.good ht hgt hh hla' (h5.take _) (fun v hv => h3 v (List.mem_of_mem_take hv))
      refine ⟨goInt (min ys.length (xs.length - i) : Nat), w.setRow g (setSeg cur.toList i (news.take (xs.length - i))).toArray, ?_, (σ.map (copyLeaf t i (ys.take (xs.length - i)))).put (some d) (.sc (.int .i64 (min ys.length (xs.length - i) : Nat))), G, hk, ?_⟩
      · simp [execOp, ho, resolve, invoke, builtin, hxv, hyv', hrun]
      · have hmap : SRel G0 w0 (σ.map (copyLeaf t i (ys.take (xs.length - i)))) G a (w.setRow g (setSeg cur.toList i (news.take (xs.length - i))).toArray) := by
          refine { h with good := ⟨fun b hb => by simpa [World.setRow] using h.good.lt b hb, h.good.tags, h.good.boxes⟩, slots := fun s => ?_, boxes := ⟨fun i vs hv => by have := h.boxes.low i vs hv; simpa [St.map, mapB_eq] using this, fun j cs' hj => ?_⟩, blt := fun b i hb => by have := h.blt b i hb; simpa [St.map, mapB_eq] using this, hsize := by simpa [World.setRow] using h.hsize, keep := fun b' hb' hn hnt => ?_, stat := h.stat }
          · have : (σ.map (copyLeaf t i (ys.take (xs.length - i)))).get s = (σ.get s).mapTop (copyLeaf t i (ys.take (xs.length - i))) := lookT_map rfl σ.tmps s
            rw [this]; exact hst (h.slots s)
          · simp only [St.map, mapB_eq, List.getElem?_map] at hj
            cases hc' : σ.boxes[j]? with
            | none => simp [hc'] at hj
            | some cs'' =>
              simp [hc'] at hj; subst hj
              rw [mapTops_eq]
              exact (h.boxes.cell j cs'' hc').map (fun x v hr => hst hr) (fun b'' k1 => ⟨k1, heap_setRow_ne fun h => by subst h; rw [hgt] at k1; cases k1⟩) fun h0 => h0
          · have hne : b' ≠ g := fun h' => by
              subst h'
              have := h.stat b' hb' hnt
              rw [hgt] at this
              exact hnt t this.symm
            rw [heap_setRow_ne hne]; exact h.keep b' hb' hn hnt
        rw [hd]
        exact hmap.add (.refl G _) hmap.good (fun _ _ h => h) (d := some d) (x := .sc (goInt (min ys.length (xs.length - i) : Nat))) (v := goInt (min ys.length (xs.length - i) : Nat)) (by simp [dstOk, St.map, hdn]) (.froz (.sc _))
  · exact hw.elim

/-! ### clear -/
theorem run_clear_row {w : World} {t e ty : TypeId} {by_ : Nat} {z : Value} (ht : P.underlying t = some (.slice e)) (hq : tinfo P e = some (1, by_, some z)) (hz : z.cells = #[z]) (h1 : z.oneCell' = true) {b o n c : Nat} {cur : Array Value} {e' : TypeId} (hn : 0 < n)
    (hh : w.heap[b]? = some (.cells cur e' (0, 0))) (hfit : o + n ≤ cur.size) :
    (Builtin.clear_ #[t] ty #[.slice (some ⟨b, o, none⟩) n c]).run P w = .ok (.tuple #[]) (w.setRow b (setSeg cur.toList o (List.replicate n z)).toArray) := by
  obtain ⟨ti, hi, hsz, hby, hzz⟩ := tinfo_some hq
  have hv : ∀ w, (zeroValue e).run P w = .ok z w := fun w => by simp [zeroValue, typeInfo, hi, hzz]
  have hcl : ∀ j, j < n → (w.cell? ⟨b, o + j, none⟩).isSome = true := fun j hj => by
    simp only [World.cell?, hh]
    simp; omega
  have hfz : ∀ j, j < n → w.frozen? ⟨b, o + j, none⟩ = false := fun j _ => by simp [World.frozen?, hh]
  have hr := Go.Lib.run_clear_slice (P := P) w t e ty z ht hv hz h1 b o n c hn hcl hfz
  have s1 := run_storeCells_cells (P := P) b o (List.replicate n z) 0 w (by simpa using hcl) (by simpa using hfz) (by intro v hv'; rw [List.eq_of_mem_replicate hv']; exact h1)
  have s2 := run_storeCells_at P b o e' (List.replicate n z) 0 cur w hh (by simpa using hfit) (by intro v hv'; rw [List.eq_of_mem_replicate hv']; exact h1)
  simp only [Nat.add_zero] at s1 s2
  rw [s2] at s1
  have hseg : cur.toList.take o ++ List.replicate n z ++ cur.toList.drop (o + (List.replicate n z).length) = setSeg cur.toList o (List.replicate n z) := by
    rw [setSeg_eq _ _ _ (by simp; omega)]
  rw [hseg] at s1
  injection s1 with _ hw
  rw [hr, hw]

/-- the elements of what is owned, from a place on, are zero -/
def evClear (P : Program) (T : TypeId) (σ : St) (x : AV) (K : St → Prop) : Prop :=
  match copyDst x with
  | some (t, xs, i) => 2 ≤ t ∧ i < xs.length ∧ ∃ E q z, P.underlying T = some (.slice E) ∧ tinfo P E = some q ∧ q.1 = 1 ∧ q.2.2 = some z ∧ z.cells = #[z] ∧ z.oneCell' = true ∧ leafAll [ofConst z] = true ∧
      K (σ.map (copyLeaf t i (List.replicate (xs.length - i) (ofConst z))))
  | none => False

theorem evClear_sound {T : TypeId} {σ : St} {K : St → Prop} {G0 w0 G a w} {o : Oper} {x : Operand} (ho : o.op = .call ⟨.builtin .clear, #[x], #[T]⟩) (hd : o.dst = none) (h : SRel G0 w0 σ G a w)
    (hw : evClear P T σ (σ.ev x) K) : ∃ v w', (execOp a.eval o).run P w = .ok (.value v) w' ∧ ∃ σ' G', K σ' ∧ SRel G0 w0 σ' G' (a.put o.dst v) w' := by
  unfold evClear at hw
  split at hw
  · rename_i t xs i hcd
    obtain ⟨ht, hi, E, ⟨sz, by_, z0⟩, z, hT, hq, hs1, hz0, hz, h1, hla, hk⟩ := hw
    simp only at hs1 hz0; subst hs1; subst hz0
    obtain ⟨g, c, cur, e, hxv, hgt, hh, hcs⟩ := copyDst_inv hcd (h.ev x) ht hi
    have hrun := run_clear_row (P := P) (ty := o.type) (c := c) hT hq hz h1 (o := i) (n := xs.length - i) (by omega) hh (by omega)
    have hla' : leafAll (List.replicate (xs.length - i) (ofConst z)) = true := by
      simp only [leafAll, List.all_eq_true] at hla ⊢
      intro y hy
      rw [List.eq_of_mem_replicate hy]
      exact hla _ (by simp)
    have hone : One (List.replicate (xs.length - i) z) := fun u hu => by rw [List.eq_of_mem_replicate hu]; exact h1
    have hpz : PW (FRel (Stable G) w) (List.replicate (xs.length - i) (ofConst z)) (List.replicate (xs.length - i) z) := by
      refine ⟨by simp, fun j y u hy hu => ?_⟩
      have ey : y = ofConst z := List.eq_of_mem_replicate (List.mem_of_getElem? hy)
      have eu : u = z := List.eq_of_mem_replicate (List.mem_of_getElem? hu)
      subst ey; subst eu
      obtain ⟨hp, _⟩ := ofConst_cells (S := Stable G) (w := w) u (by rw [hz]; simpa using h1)
      have hc1 : (ofConst u).cells = [ofConst u] := leafy_cells (by simpa [leafAll] using hla)
      rw [hc1, hz] at hp
      exact hp.2 0 _ _ rfl rfl
    have hst : ∀ {x v}, VRel G w x v → VRel G (w.setRow g (setSeg cur.toList i (List.replicate (xs.length - i) z)).toArray) (x.mapTop (copyLeaf t i (List.replicate (xs.length - i) (ofConst z)))) v := fun hr =>
      hr.copied h.good ht hgt hh hla' hpz hone
    refine ⟨.tuple #[], w.setRow g (setSeg cur.toList i (List.replicate (xs.length - i) z)).toArray, ?_, σ.map (copyLeaf t i (List.replicate (xs.length - i) (ofConst z))), G, hk, ?_⟩
    · simp [execOp, ho, resolve, invoke, builtin, hxv, hrun]
    · rw [hd]
      refine { h with good := ⟨fun b hb => by simpa [World.setRow] using h.good.lt b hb, h.good.tags, h.good.boxes⟩, slots := fun s => ?_, boxes := ⟨fun i vs hv => by have := h.boxes.low i vs hv; simpa [St.map, mapB_eq] using this, fun j cs' hj => ?_⟩, blt := fun b i hb => by have := h.blt b i hb; simpa [St.map, mapB_eq] using this, hsize := by simpa [World.setRow] using h.hsize, keep := fun b' hb' hn hnt => ?_, stat := h.stat }
      · have : (σ.map (copyLeaf t i (List.replicate (xs.length - i) (ofConst z)))).get s = (σ.get s).mapTop (copyLeaf t i (List.replicate (xs.length - i) (ofConst z))) := lookT_map rfl σ.tmps s
        rw [this]; exact hst (h.slots s)
      · simp only [St.map, mapB_eq, List.getElem?_map] at hj
        cases hc' : σ.boxes[j]? with
        | none => simp [hc'] at hj
        | some cs'' =>
          simp [hc'] at hj; subst hj
          rw [mapTops_eq]
          exact (h.boxes.cell j cs'' hc').map (fun x v hr => hst hr) (fun b'' k1 => ⟨k1, heap_setRow_ne fun h => by subst h; rw [hgt] at k1; cases k1⟩) fun h0 => h0
      · have hne : b' ≠ g := fun h' => by
          subst h'
          have := h.stat b' hb' hnt
          rw [hgt] at this
          exact hnt t this.symm
        rw [heap_setRow_ne hne]; exact h.keep b' hb' hn hnt
  · exact hw.elim
end
end Go.AM
