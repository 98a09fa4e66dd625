/- AmY AmM AmN -/
import Derived.Test.YtapjfgddbfneaaaGreatg3
import Derived.Lib.SliceRun
import Derived.Laws.CopyRow
import Derived.RangeFuncRecord
import Derived.Deep.LoopGhost
import Derived.ScopeJumps
namespace Go.AM
open Go.RowKit
theorem flat_set {y : AV} (hy : y.cells = [y]) : ∀ (xs : List AV) (i : Nat), (∀ x ∈ xs, x.cells.length = 1) -> flat (xs.set i y) = (flat xs).set i y
 | [], i, _ => by simp [flat]
 | x :: xs, 0, h => by
  obtain ⟨c, hc⟩ : ∃ c, x.cells = [c] := by
   have := h x (by simp)
   cases hx : x.cells with
   | nil => simp [hx] at this
   | cons c r => cases r with
    | nil => exact ⟨c, rfl⟩
    | cons _ _ => simp [hx] at this
  simp [flat, hy, hc]
 | x :: xs, i + 1, h => by
  obtain ⟨c, hc⟩ : ∃ c, x.cells = [c] := by
   have := h x (by simp)
   cases hx : x.cells with
   | nil => simp [hx] at this
   | cons c r => cases r with
    | nil => exact ⟨c, rfl⟩
    | cons _ _ => simp [hx] at this
  have ih := flat_set hy xs i fun z hz => h z (by simp [hz])
  simp only [flat] at ih
  simp [flat, hc, ih]
theorem leafy_cells {y : AV} (h : y.leafy = true) : y.cells = [y] := by cases y <;> first | rfl | (simp [AV.leafy] at h)
theorem flat_leaf : ∀ {ys : List AV}, leafAll ys = true -> flat ys = ys
 | [], _ => rfl
 | y :: ys, h => by
  simp only [leafAll, List.all_cons, Bool.and_eq_true] at h
  have := flat_leaf (ys := ys) h.2
  simp only [flat] at this
  simp [flat, leafy_cells h.1, this]
theorem flat_setSeg : ∀ (ys xs : List AV) (i : Nat), (∀ x ∈ xs, x.cells.length = 1) -> leafAll ys = true -> flat (setSeg xs i ys) = setSeg (flat xs) i ys /\ ∀ x ∈ setSeg xs i ys, x.cells.length = 1
 | [], xs, i, h, _ => ⟨rfl, h⟩
 | y :: ys, xs, i, h, hl => by
  simp only [leafAll, List.all_cons, Bool.and_eq_true] at hl
  have hy := leafy_cells hl.1
  have h' : ∀ x ∈ xs.set i y, x.cells.length = 1 := fun x hx => by
   rcases List.mem_or_eq_of_mem_set hx with hx | rfl
   ·exact h x hx
   ·rw [hy]; rfl
  have ih := flat_setSeg ys (xs.set i y) (i + 1) h' hl.2
  simp only [setSeg]
  rw [<- flat_set hy xs i h]
  exact ih
def copyLeaf (t i : Nat) (ys : List AV) : AV -> AV
 | .so _ _ => .any
 | .po _ _ _ => .any
 | .sl t' es' xs => if t' = t then (if es' = 1 then .sl t 1 (setSeg xs i ys) else .any) else .sl t' es' xs
 | .pe t' es' xs i' o' => if t' = t then .any else .pe t' es' xs i' o'
 | .tl _ _ _ _ => .any
 | x => x
section
variable {G : Nat -> Status} {w : World} {t i b : Nat} {ys : List AV} {vs : List Value} {cur : Array Value} {e : TypeId}
theorem VRel.copied (hg : Good G w) (ht : 2 <= t) (hb : G b = .tag t) (hh : w.heap[b]? = some (.cells cur e (0, 0))) (hl : leafAll ys = true)
  (hy : PW (FRel (Stable G) w) ys vs) (h1 : One vs) {x : AV} {v : Value} (h : VRel G w x v) :
  VRel G (w.setRow b (setSeg cur.toList i vs).toArray) (x.mapTop (copyLeaf t i ys)) v := by
 have hset := setRow_heap w b cur (setSeg cur.toList i vs).toArray e (0, 0) hh
 have hF : ∀ {x v}, FRel (Stable G) w x v -> FRel (Stable G) (w.setRow b (setSeg cur.toList i vs).toArray) x v := fun hr =>
  hr.mono (fun _ h => h) (fun b' hb' => heap_setRow_ne (fun h => by subst h; unfold Stable at hb'; rw [hb] at hb'; cases hb'))
 have hsl : ∀ {t' es' xs v}, VRel G w (.sl t' es' xs) v -> VRel G (w.setRow b (setSeg cur.toList i vs).toArray) (copyLeaf t i ys (.sl t' es' xs)) v := by
  intro t' es' xs v h
  simp only [copyLeaf]
  cases h with
  | froz h =>
   have : t' < 2 := by cases h <;> assumption
   rw [if_neg (by omega)]
   exact .froz (hF h)
  | own _ _ _ _ e' vals h2 h3 h4 h5 h0 h6 =>
   by_cases htt : t' = t
   ·subst htt
    rw [if_pos rfl]
    by_cases hes : es' = 1
    ·subst hes
     rw [if_pos rfl]
     obtain ⟨hflat, hwid⟩ := flat_setSeg ys xs i h5 hl
     have hlen : (setSeg xs i ys).length = xs.length := setSeg_length _ _ _
     rcases h3.2 with ⟨hv, hn⟩ | ⟨g, cap, cur', hv, hgb, hh', hnc, hcm, hcs, hct⟩
     ·subst hv
      obtain rfl := List.eq_nil_of_length_eq_zero hn
      have : setSeg ([] : List AV) i ys = [] := setSeg_out _ _ _ (by simp)
      rw [this]
      refine .own t' 1 [] _ e' vals h2 ⟨h3.1, .inl ⟨rfl, rfl⟩⟩ (fun b hb => by simp [Value.ownBlock] at hb) (by simp) h0 ⟨h6.1, fun j x u hx hu => hF (h6.2 j x u hx hu)⟩
     ·subst hv
      obtain rfl := hg.tags _ _ _ (h4 g rfl) hb
      rw [hh] at hh'
      simp only [Option.some.injEq, Obj.cells.injEq, and_true] at hh'
      obtain ⟨rfl, rfl⟩ := hh'
      refine .own t' 1 _ _ e (AM.setSeg vals i vs) h2 ⟨?_, .inr ⟨g, cap, _, by rw [hlen], Nat.zero_le _, hset, by rw [hlen]; exact hnc, hcm, ?_, ?_⟩⟩ (fun b' hb' => ?_) hwid (One.setSeg _ h1 h0) ?_
      ·rw [setSeg_length, hlen]; exact h3.1
      ·simp only [List.size_toArray, setSeg_length, Array.length_toList]; exact hcs
      ·rw [hlen]; simp only [setSeg_take]; rw [hct]
      ·simp only [Value.ownBlock, Option.some.injEq] at hb'; rw [<- hb']; exact hb
      ·rw [hflat]
       exact (PW.setSeg _ hy h6).mono fun x y _ hr => hF hr
    ·rw [if_neg hes]; exact .froz (.any _)
   ·rw [if_neg htt]
    refine .own t' es' xs v e' vals h2 (ownsRow_congr h3 fun b' hb' => heap_setRow_ne (fun h => ?_)) h4 h5 h0 (h6.mono fun x y _ hr => hF hr)
    subst h
    have := h4 _ hb'
    rw [hb] at this; cases this; exact htt rfl
 refine h.mapTop fun x v hx h => ?_
 cases x with
 | so t' xs => exact .froz (.any _)
 | po t' xs i' => exact .froz (.any _)
 | tl t' es' xs i' => exact .froz (.any _)
 | sl t' es' xs => exact hsl h
 | pe t' es' xs i' o' =>
  obtain ⟨b', off, c, h2, h3, rfl⟩ := h.pe_inv
  have := hsl h2
  simp only [copyLeaf] at this ⊢
  by_cases htt : t' = t
  ·rw [if_pos htt]; exact .froz (.any _)
  ·rw [if_neg htt] at this ⊢
   exact .pe _ _ _ _ _ _ _ _ this h3
 | pb i o => obtain ⟨b, hb, rfl⟩ := h.pb_inv; exact .pb _ _ _ hb
 | ag cs => simp [AV.leafy] at hx
 | tup cs => simp [AV.leafy] at hx
 | any => exact .froz (.any _)
 | nil => rw [h.nil_inv]; exact .froz .nil
 | ub => obtain ⟨b, rfl⟩ := h.ub_inv; exact .froz (.ub b)
 | sc u => rw [h.sc_inv]; exact .froz (.sc _)
 | fn g caps => cases h with | froz h => exact .froz (hF h)
 | mp t' P k e' D => exact h.mpMono (fun _ hb => hb) (fun b' es cl _ hm => heap_setRow_ne (fun h => by subst h; rw [hh] at hm; cases hm))
 | cl g caps => exact h.clMono (fun _ h => h) (fun b' hb' => heap_setRow_ne (fun h => by subst h; unfold Stable at hb'; rw [hb] at hb'; cases hb')) (fun _ _ h => h)
 | fp cs o => cases h with | froz h => exact .froz (hF h)
def copyDst : AV -> Option (Nat × List AV × Nat)
 | .sl t 1 xs => some (t, xs, 0)
 | .tl t 1 xs i => some (t, xs, i)
 | _ => none
theorem VRel.ownRow {xs : List AV} {v : Value} (h : VRel G w (.sl t 1 xs) v) (ht : 2 <= t) (hn : 0 < xs.length) :
  ∃ g c cur e, v = .slice (some ⟨g, 0, none⟩) xs.length c /\ G g = .tag t /\ w.heap[g]? = some (.cells cur e (0, 0)) /\ xs.length <= cur.size := by
 cases h with
 | froz h => exfalso; cases h <;> omega
 | own _ _ _ _ e vals _ g2 g3 g4 g0 g5 =>
  rcases g2.2 with ⟨_, hz⟩ | ⟨g, cap, cur, hv, _, hh, hnc, hcm, hcs, hct⟩
  ·omega
  ·exact ⟨g, cap, cur, e, hv, g3 g (by rw [hv]; rfl), hh, by rw [hcs]; omega⟩
theorem copyDst_inv {x : AV} {xs : List AV} {v : Value} (hd : copyDst x = some (t, xs, i)) (h : VRel G w x v) (ht : 2 <= t) (hi : i < xs.length) :
  ∃ g c cur e, v = .slice (some ⟨g, i, none⟩) (xs.length - i) c /\ G g = .tag t /\ w.heap[g]? = some (.cells cur e (0, 0)) /\ xs.length <= cur.size := by
 unfold copyDst at hd
 split at hd
 ·cases hd
  obtain ⟨g, c, cur, e, rfl, h1, h2, h3⟩ := h.ownRow ht (by omega)
  exact ⟨g, c, cur, e, rfl, h1, h2, h3⟩
 ·cases hd
  obtain ⟨b, off, off', c, h1, h2, h3, hc, rfl⟩ := h.tl_inv
  obtain ⟨g, c', cur, e, hv, k1, k2, k3⟩ := h1.ownRow ht (by omega)
  cases hv
  obtain rfl : off' = 0 + i * 1 := by rcases h3 with h3 | h3 <;> omega
  exact ⟨b, c - i, cur, e, by simp, k1, k2, k3⟩
 ·cases hd
end
section
variable {P : Program}
def evCopy (P : Program) (T : TypeId) (d : Nat) (σ : St) (x y : AV) (K : St -> Prop) : Prop :=
 match copyDst x, y with
 | some (t, xs, i), .sl _ 1 ys => 2 <= t /\ (∃ E q, P.underlying T = some (.slice E) /\ tinfo P E = some q /\ q.1 = 1) /\ i < xs.length /\ 0 < ys.length /\ leafAll ys = true /\
   K ((σ.map (copyLeaf t i (ys.take (xs.length - i)))).put (some d) (.sc (.int .i64 (min ys.length (xs.length - i) : Nat))))
 | _, _ => False
theorem evCopy_sound {T T' : TypeId} {σ : St} {K : St -> Prop} {G0 w0 G a w} {d : Nat} {o : Oper} {x y : Operand} (ho : o.op = .call ⟨.builtin .copy, #[x, y], #[T, T']⟩) (hd : o.dst = some d) (hdn : d < σ.n) (h : SRel G0 w0 σ G a w)
  (hw : evCopy P T d σ (σ.ev x) (σ.ev y) K) : ∃ v w', (execOp a.eval o).run P w = .ok (.value v) w' /\ ∃ σ' G', K σ' /\ SRel G0 w0 σ' G' (a.put o.dst v) w' := by
 unfold evCopy at hw
 split at hw
 ·rename_i t xs i t' ys hcd hy
  obtain ⟨ht, ⟨E, ⟨sz, by_, z⟩, hT, hq, hs1⟩, hi, hyl, hla, hk⟩ := hw
  simp only at hs1; subst hs1
  obtain ⟨ti, hti, hsz, _, _⟩ := tinfo_some hq
  obtain ⟨g, c, cur, e, hxv, hgt, hh, hcs⟩ := copyDst_inv hcd (h.ev x) ht hi
  have hyv := h.ev y
  rw [hy] at hyv
  rcases hyv.news with ⟨rfl, _⟩ | ⟨ya, yc, news, hyv', h1, h2, h3, h4, h5⟩
  ·simp at hyl
  ·rw [flat_leaf hla] at h5
   have hnl : news.length = ys.length := by rw [h1]; omega
   have hkl : (news.take (xs.length - i)).length = min ys.length (xs.length - i) := by rw [List.length_take, hnl]; omega
   have hrun := run_copy_row P w T T' o.type E g i (xs.length - i) c ya ys.length yc cur e (news.take (xs.length - i)) hT (by rw [hti]; simp [hsz]) hh hkl
    (fun j v hj => by
     rw [List.getElem?_take] at hj
     split at hj
     ·exact h2 j v hj
     ·cases hj) (by rw [hkl]; have := hi; omega) (fun v hv => h3 v (List.mem_of_mem_take hv))
   have hseg : cur.toList.take i ++ news.take (xs.length - i) ++ cur.toList.drop (i + (news.take (xs.length - i)).length) = setSeg cur.toList i (news.take (xs.length - i)) := by
    rw [setSeg_eq _ _ _ (by rw [hkl]; simp; omega)]
   rw [hseg, hkl] at hrun
   have hla' : leafAll (ys.take (xs.length - i)) = true := by
    simp only [leafAll, List.all_eq_true] at hla ⊢
    exact fun z hz => hla z (List.mem_of_mem_take hz)
   have hst : ∀ {x v}, VRel G w x v -> VRel G (w.setRow g (setSeg cur.toList i (news.take (xs.length - i))).toArray) (x.mapTop (copyLeaf t i (ys.take (xs.length - i)))) v := fun hr =>
    hr.copied h.good ht hgt hh hla' (h5.take _) (fun v hv => h3 v (List.mem_of_mem_take hv))
   refine ⟨goInt (min ys.length (xs.length - i) : Nat), w.setRow g (setSeg cur.toList i (news.take (xs.length - i))).toArray, ?_, (σ.map (copyLeaf t i (ys.take (xs.length - i)))).put (some d) (.sc (.int .i64 (min ys.length (xs.length - i) : Nat))), G, hk, ?_⟩
   ·simp [execOp, ho, resolve, invoke, builtin, hxv, hyv', hrun]
   ·have hmap : SRel G0 w0 (σ.map (copyLeaf t i (ys.take (xs.length - i)))) G a (w.setRow g (setSeg cur.toList i (news.take (xs.length - i))).toArray) := by
     refine { h with good := ⟨fun b hb => by simpa [World.setRow] using h.good.lt b hb, h.good.tags, h.good.boxes⟩, slots := fun s => ?_, boxes := ⟨fun i vs hv => by have := h.boxes.low i vs hv; simpa [St.map, mapB_eq] using this, fun j cs' hj => ?_⟩, blt := fun b i hb => by have := h.blt b i hb; simpa [St.map, mapB_eq] using this, hsize := by simpa [World.setRow] using h.hsize, keep := fun b' hb' hn hnt => ?_, stat := h.stat }
     ·have : (σ.map (copyLeaf t i (ys.take (xs.length - i)))).get s = (σ.get s).mapTop (copyLeaf t i (ys.take (xs.length - i))) := lookT_map rfl σ.tmps s
      rw [this]; exact hst (h.slots s)
     ·simp only [St.map, mapB_eq, List.getElem?_map] at hj
      cases hc' : σ.boxes[j]? with
      | none => simp [hc'] at hj
      | some cs'' =>
       simp [hc'] at hj; subst hj
       rw [mapTops_eq]
       exact (h.boxes.cell j cs'' hc').map (fun x v hr => hst hr) (fun b'' k1 => ⟨k1, heap_setRow_ne fun h => by subst h; rw [hgt] at k1; cases k1⟩) fun h0 => h0
     ·have hne : b' ≠ g := fun h' => by
       subst h'
       have := h.stat b' hb' hnt
       rw [hgt] at this
       exact hnt t this.symm
      rw [heap_setRow_ne hne]; exact h.keep b' hb' hn hnt
    rw [hd]
    exact hmap.add (.refl G _) hmap.good (fun _ _ h => h) (d := some d) (x := .sc (goInt (min ys.length (xs.length - i) : Nat))) (v := goInt (min ys.length (xs.length - i) : Nat)) (by simp [dstOk, St.map, hdn]) (.froz (.sc _))
 ·exact hw.elim
theorem run_clear_row {w : World} {t e ty : TypeId} {by_ : Nat} {z : Value} (ht : P.underlying t = some (.slice e)) (hq : tinfo P e = some (1, by_, some z)) (hz : z.cells = #[z]) (h1 : z.oneCell' = true) {b o n c : Nat} {cur : Array Value} {e' : TypeId} (hn : 0 < n)
  (hh : w.heap[b]? = some (.cells cur e' (0, 0))) (hfit : o + n <= cur.size) :
  (Builtin.clear_ #[t] ty #[.slice (some ⟨b, o, none⟩) n c]).run P w = .ok (.tuple #[]) (w.setRow b (setSeg cur.toList o (List.replicate n z)).toArray) := by
 obtain ⟨ti, hi, hsz, hby, hzz⟩ := tinfo_some hq
 have hv : ∀ w, (zeroValue e).run P w = .ok z w := fun w => by simp [zeroValue, typeInfo, hi, hzz]
 have hcl : ∀ j, j < n -> (w.cell? ⟨b, o + j, none⟩).isSome = true := fun j hj => by
  simp only [World.cell?, hh]
  simp; omega
 have hfz : ∀ j, j < n -> w.frozen? ⟨b, o + j, none⟩ = false := fun j _ => by simp [World.frozen?, hh]
 have hr := Go.Lib.run_clear_slice (P := P) w t e ty z ht hv hz h1 b o n c hn hcl hfz
 have s1 := run_storeCells_cells (P := P) b o (List.replicate n z) 0 w (by simpa using hcl) (by simpa using hfz) (by intro v hv'; rw [List.eq_of_mem_replicate hv']; exact h1)
 have s2 := run_storeCells_at P b o e' (List.replicate n z) 0 cur w hh (by simpa using hfit) (by intro v hv'; rw [List.eq_of_mem_replicate hv']; exact h1)
 simp only [Nat.add_zero] at s1 s2
 rw [s2] at s1
 have hseg : cur.toList.take o ++ List.replicate n z ++ cur.toList.drop (o + (List.replicate n z).length) = setSeg cur.toList o (List.replicate n z) := by
  rw [setSeg_eq _ _ _ (by simp; omega)]
 rw [hseg] at s1
 injection s1 with _ hw
 rw [hr, hw]
theorem run_clear_wide {w : World} {t e ty : TypeId} {sz by_ : Nat} {z : Value} (ht : P.underlying t = some (.slice e)) (hq : tinfo P e = some (sz, by_, some z)) (hz : 0 < z.cells.size) (h1 : ∀ v ∈ z.cells.toList, v.oneCell' = true) {b o n c : Nat} {cur : Array Value} {e' : TypeId} (hn : 0 < n)
  (hh : w.heap[b]? = some (.cells cur e' (0, 0))) (hfit : o + n * z.cells.size <= cur.size) : ∃ L : List Value, L.length = n * z.cells.size /\ One L /\
  (Builtin.clear_ #[t] ty #[.slice (some ⟨b, o, none⟩) n c]).run P w = .ok (.tuple #[]) (w.setRow b (setSeg cur.toList o L).toArray) := by
 obtain ⟨ti, hi, hsz, hby, hzz⟩ := tinfo_some hq
 have hv : ∀ w, (zeroValue e).run P w = .ok z w := fun w => by simp [zeroValue, typeInfo, hi, hzz]
 have hlen : (Builtin.zeroCells z.cells n).toList.length = n * z.cells.size := by simp [Builtin.zeroCells]
 have hone : One (Builtin.zeroCells z.cells n).toList := fun u hu => by
  simp only [Builtin.zeroCells, Array.toList_map, List.mem_map] at hu
  obtain ⟨j, _, rfl⟩ := hu
  have hj : j % z.cells.size < z.cells.size := Nat.mod_lt _ hz
  rw [getElem!_pos z.cells _ hj]
  exact h1 _ (by rw [Array.mem_toList_iff]; exact Array.getElem_mem hj)
 refine ⟨_, hlen, hone, ?_⟩
 have s2 := run_storeCells_at P b o e' (Builtin.zeroCells z.cells n).toList 0 cur w hh (by rw [hlen]; simpa using hfit) hone
 simp only [Nat.add_zero] at s2
 have hseg : cur.toList.take o ++ (Builtin.zeroCells z.cells n).toList ++ cur.toList.drop (o + (Builtin.zeroCells z.cells n).toList.length) = setSeg cur.toList o (Builtin.zeroCells z.cells n).toList := by
  rw [setSeg_eq _ _ _ (by rw [hlen]; simpa using hfit)]
 rw [hseg] at s2
 obtain ⟨m, rfl⟩ : ∃ m, n = m + 1 := ⟨n - 1, by omega⟩
 simp [Builtin.clear_, run_underlying ht, hv, s2]
def clrLeaf (t es i : Nat) : AV -> AV
 | .so _ _ => .any
 | .po _ _ _ => .any
 | .sl t' es' xs => if t' = t then (if es' = es then .sl t' es' (xs.take i ++ List.replicate (xs.length - i) (.ag (List.replicate es' .any))) else .any) else .sl t' es' xs
 | .pe t' es' xs i' o' => if t' = t then .any else .pe t' es' xs i' o'
 | .tl _ _ _ _ => .any
 | x => x
theorem clr_flat {es i : Nat} {xs : List AV} (hw : ∀ x ∈ xs, x.cells.length = es) (hes : 0 < es) {j : Nat} {y : AV} (h : (flat (xs.take i ++ List.replicate (xs.length - i) (.ag (List.replicate es .any))))[j]? = some y) : y = .any \/ (j < i * es /\ (flat xs)[j]? = some y) := by
 have e : flat (xs.take i ++ List.replicate (xs.length - i) (.ag (List.replicate es .any))) = (flat xs).take (i * es) ++ flat (List.replicate (xs.length - i) (AV.ag (List.replicate es .any))) := by
  rw [<- flat_take i hw]; simp [flat]
 rw [e, List.getElem?_append] at h
 have hc : (AV.ag (List.replicate es .any)).cells = List.replicate es .any := rfl
 split at h
 ·rw [List.getElem?_take] at h
  split at h
  ·rename_i h2; exact .inr ⟨h2, h⟩
  ·cases h
 ·generalize j - ((flat xs).take (i * es)).length = q at h
  by_cases hq : q < (xs.length - i) * es
  ·rw [flat_replicate (x := AV.ag (List.replicate es .any)) _ q (by rw [hc]; simpa using hes) (by rw [hc]; simpa using hq), hc] at h
   exact .inl (List.eq_of_mem_replicate (List.mem_of_getElem? h))
  ·have hl : (flat (List.replicate (xs.length - i) (AV.ag (List.replicate es .any)))).length = (xs.length - i) * es := by
    rw [flat_length (es := es) (fun x hx => by rw [List.eq_of_mem_replicate hx, hc]; simp)]; simp
   rw [List.getElem?_eq_none (by omega)] at h
   cases h
theorem clr_wide {es i : Nat} {xs : List AV} (hw : ∀ x ∈ xs, x.cells.length = es) : ∀ x ∈ xs.take i ++ List.replicate (xs.length - i) (AV.ag (List.replicate es .any)), x.cells.length = es := fun x hx => by
 rcases List.mem_append.1 hx with hx | hx
 ·exact hw x (List.mem_of_mem_take hx)
 ·rw [List.eq_of_mem_replicate hx]
  show (List.replicate es AV.any).length = es
  simp
theorem VRel.cleared {G : Nat -> Status} {w : World} {t es i b : Nat} {L : List Value} {cur : Array Value} {e : TypeId} (hg : Good G w) (ht : 2 <= t) (hb : G b = .tag t) (hh : w.heap[b]? = some (.cells cur e (0, 0))) (hes : 0 < es)
  (h1 : One L) {x : AV} {v : Value} (h : VRel G w x v) :
  VRel G (w.setRow b (setSeg cur.toList (i * es) L).toArray) (x.mapTop (clrLeaf t es i)) v := by
 have hset := setRow_heap w b cur (setSeg cur.toList (i * es) L).toArray e (0, 0) hh
 have hF : ∀ {x v}, FRel (Stable G) w x v -> FRel (Stable G) (w.setRow b (setSeg cur.toList (i * es) L).toArray) x v := fun hr =>
  hr.mono (fun _ h => h) (fun b' hb' => heap_setRow_ne (fun h => by subst h; unfold Stable at hb'; rw [hb] at hb'; cases hb'))
 have hsl : ∀ {t' es' xs v}, VRel G w (.sl t' es' xs) v -> VRel G (w.setRow b (setSeg cur.toList (i * es) L).toArray) (clrLeaf t es i (.sl t' es' xs)) v := by
  intro t' es' xs v h
  simp only [clrLeaf]
  cases h with
  | froz h =>
   have : t' < 2 := by cases h <;> assumption
   rw [if_neg (by omega)]
   exact .froz (hF h)
  | own _ _ _ _ e' vals h2 h3 h4 h5 h0 h6 =>
   by_cases htt : t' = t
   ·subst htt
    rw [if_pos rfl]
    by_cases hee : es' = es
    ·subst hee
     rw [if_pos rfl]
     have hlen : (xs.take i ++ List.replicate (xs.length - i) (AV.ag (List.replicate es' .any))).length = xs.length := by
      rw [List.length_append, List.length_take, List.length_replicate]; omega
     have hfl : (flat (xs.take i ++ List.replicate (xs.length - i) (AV.ag (List.replicate es' .any)))).length = (flat xs).length := by
      rw [flat_length (clr_wide h5), flat_length h5, hlen]
     have hpw : PW (FRel (Stable G) (w.setRow b (setSeg cur.toList (i * es') L).toArray)) (flat (xs.take i ++ List.replicate (xs.length - i) (AV.ag (List.replicate es' .any)))) (setSeg vals (i * es') L) := by
      refine ⟨by rw [hfl, setSeg_length]; exact h6.1, fun j y u hy hu => ?_⟩
      rcases clr_flat h5 hes hy with rfl | ⟨hj, hy'⟩
      ·exact .any _
      ·have e1 : (setSeg vals (i * es') L).take (i * es') = vals.take (i * es') := by
        rw [setSeg_take, setSeg_out _ _ _ (by rw [List.length_take]; omega)]
       have e2 := congrArg (fun l : List Value => l[j]?) e1
       simp only [List.getElem?_take, if_pos hj] at e2
       rw [e2] at hu
       exact hF (h6.2 j y u hy' hu)
     rcases h3.2 with ⟨hv, hn⟩ | ⟨g, cap, cur', hv, hgb, hh', hnc, hcm, hcs, hct⟩
     ·subst hv
      obtain rfl := List.eq_nil_of_length_eq_zero hn
      have hvl : vals = [] := by
       have := h6.1
       simp [flat] at this
       exact List.eq_nil_of_length_eq_zero this.symm
      subst hvl
      have e0 : setSeg ([] : List Value) (i * es') L = [] := setSeg_out _ _ _ (by simp)
      rw [e0] at hpw
      refine .own t' es' _ _ e' [] h2 (by simpa using ⟨h3.1, .inl ⟨rfl, rfl⟩⟩) (fun b hb => by simp [Value.ownBlock] at hb) (clr_wide h5) h0 hpw
     ·subst hv
      obtain rfl := hg.tags _ _ _ (h4 g rfl) hb
      rw [hh] at hh'
      simp only [Option.some.injEq, Obj.cells.injEq, and_true] at hh'
      obtain ⟨rfl, rfl⟩ := hh'
      refine .own t' es' _ _ e (AM.setSeg vals (i * es') L) h2 ⟨?_, .inr ⟨g, cap, _, by rw [hlen], Nat.zero_le _, hset, by rw [hlen]; exact hnc, hcm, ?_, ?_⟩⟩ (fun b' hb' => ?_) (clr_wide h5) (One.setSeg _ h1 h0) hpw
      ·rw [setSeg_length, hlen]; exact h3.1
      ·simp only [List.size_toArray, setSeg_length, Array.length_toList]; exact hcs
      ·rw [hlen]; simp only [setSeg_take]; rw [hct]
      ·simp only [Value.ownBlock, Option.some.injEq] at hb'; rw [<- hb']; exact hb
    ·rw [if_neg hee]; exact .froz (.any _)
   ·rw [if_neg htt]
    refine .own t' es' xs v e' vals h2 (ownsRow_congr h3 fun b' hb' => heap_setRow_ne (fun h => ?_)) h4 h5 h0 (h6.mono fun x y _ hr => hF hr)
    subst h
    have := h4 _ hb'
    rw [hb] at this; cases this; exact htt rfl
 refine h.mapTop fun x v hx h => ?_
 cases x with
 | so t' xs => exact .froz (.any _)
 | po t' xs i' => exact .froz (.any _)
 | tl t' es' xs i' => exact .froz (.any _)
 | sl t' es' xs => exact hsl h
 | pe t' es' xs i' o' =>
  obtain ⟨b', off, c, h2, h3, rfl⟩ := h.pe_inv
  have := hsl h2
  simp only [clrLeaf] at this ⊢
  by_cases htt : t' = t
  ·rw [if_pos htt]; exact .froz (.any _)
  ·rw [if_neg htt] at this ⊢
   exact .pe _ _ _ _ _ _ _ _ this h3
 | pb i o => obtain ⟨b, hb, rfl⟩ := h.pb_inv; exact .pb _ _ _ hb
 | ag cs => simp [AV.leafy] at hx
 | tup cs => simp [AV.leafy] at hx
 | any => exact .froz (.any _)
 | nil => rw [h.nil_inv]; exact .froz .nil
 | ub => obtain ⟨b, rfl⟩ := h.ub_inv; exact .froz (.ub b)
 | sc u => rw [h.sc_inv]; exact .froz (.sc _)
 | fn g caps => cases h with | froz h => exact .froz (hF h)
 | mp t' P k e' D => exact h.mpMono (fun _ hb => hb) (fun b' es cl _ hm => heap_setRow_ne (fun h => by subst h; rw [hh] at hm; cases hm))
 | cl g caps => exact h.clMono (fun _ h => h) (fun b' hb' => heap_setRow_ne (fun h => by subst h; unfold Stable at hb'; rw [hb] at hb'; cases hb')) (fun _ _ h => h)
 | fp cs o => cases h with | froz h => exact .froz (hF h)
theorem VRel.ownTail {G : Nat -> Status} {w : World} {t es i : Nat} {xs : List AV} {v : Value} (h : VRel G w (.tl t es xs i) v) (ht : 2 <= t) (hi : i < xs.length) :
  ∃ g c cur e, v = .slice (some ⟨g, i * es, none⟩) (xs.length - i) c /\ G g = .tag t /\ w.heap[g]? = some (.cells cur e (0, 0)) /\ xs.length * es <= cur.size := by
 obtain ⟨b, off, off', c, h1, h2, h3, hc, rfl⟩ := h.tl_inv
 cases h1 with
 | froz h => exfalso; cases h <;> omega
 | own _ _ _ _ e vals _ g2 g3 g4 g0 g5 =>
  rcases g2.2 with ⟨_, hz⟩ | ⟨g, cap, cur, hv, _, hh, hnc, hcm, hcs, hct⟩
  ·omega
  ·cases hv
   have ho : off' = i * es := by rcases h3 with h3 | h3 <;> omega
   refine ⟨b, c - i, cur, e, by rw [ho], g3 b rfl, hh, ?_⟩
   rw [hcs]; exact Nat.mul_le_mul_right _ hnc
def evClear (P : Program) (T : TypeId) (σ : St) (x : AV) (K : St -> Prop) : Prop :=
 match copyDst x with
 | some (t, xs, i) => 2 <= t /\ i < xs.length /\ ∃ E q z, P.underlying T = some (.slice E) /\ tinfo P E = some q /\ q.1 = 1 /\ q.2.2 = some z /\ z.cells = #[z] /\ z.oneCell' = true /\ leafAll [ofConst z] = true /\
   K (σ.map (copyLeaf t i (List.replicate (xs.length - i) (ofConst z))))
 | none => match x with
  | .tl t es xs i => 2 <= t /\ i < xs.length /\ ∃ E q z, P.underlying T = some (.slice E) /\ tinfo P E = some q /\ q.1 = es /\ q.2.2 = some z /\ z.cells.size = es /\ 0 < es /\ (z.cells.toList.all Value.oneCell') = true /\ K (σ.map (clrLeaf t es i))
  | _ => False
theorem evClear_sound {T : TypeId} {σ : St} {K : St -> Prop} {G0 w0 G a w} {o : Oper} {x : Operand} (ho : o.op = .call ⟨.builtin .clear, #[x], #[T]⟩) (hd : o.dst = none) (h : SRel G0 w0 σ G a w)
  (hw : evClear P T σ (σ.ev x) K) : ∃ v w', (execOp a.eval o).run P w = .ok (.value v) w' /\ ∃ σ' G', K σ' /\ SRel G0 w0 σ' G' (a.put o.dst v) w' := by
 unfold evClear at hw
 split at hw
 ·rename_i t xs i hcd
  obtain ⟨ht, hi, E, ⟨sz, by_, z0⟩, z, hT, hq, hs1, hz0, hz, h1, hla, hk⟩ := hw
  simp only at hs1 hz0; subst hs1; subst hz0
  obtain ⟨g, c, cur, e, hxv, hgt, hh, hcs⟩ := copyDst_inv hcd (h.ev x) ht hi
  have hrun := run_clear_row (P := P) (ty := o.type) (c := c) hT hq hz h1 (o := i) (n := xs.length - i) (by omega) hh (by omega)
  have hla' : leafAll (List.replicate (xs.length - i) (ofConst z)) = true := by
   simp only [leafAll, List.all_eq_true] at hla ⊢
   intro y hy
   rw [List.eq_of_mem_replicate hy]
   exact hla _ (by simp)
  have hone : One (List.replicate (xs.length - i) z) := fun u hu => by rw [List.eq_of_mem_replicate hu]; exact h1
  have hpz : PW (FRel (Stable G) w) (List.replicate (xs.length - i) (ofConst z)) (List.replicate (xs.length - i) z) := by
   refine ⟨by simp, fun j y u hy hu => ?_⟩
   have ey : y = ofConst z := List.eq_of_mem_replicate (List.mem_of_getElem? hy)
   have eu : u = z := List.eq_of_mem_replicate (List.mem_of_getElem? hu)
   subst ey; subst eu
   obtain ⟨hp, _⟩ := ofConst_cells (S := Stable G) (w := w) u (by rw [hz]; simpa using h1)
   have hc1 : (ofConst u).cells = [ofConst u] := leafy_cells (by simpa [leafAll] using hla)
   rw [hc1, hz] at hp
   exact hp.2 0 _ _ rfl rfl
  have hst : ∀ {x v}, VRel G w x v -> VRel G (w.setRow g (setSeg cur.toList i (List.replicate (xs.length - i) z)).toArray) (x.mapTop (copyLeaf t i (List.replicate (xs.length - i) (ofConst z)))) v := fun hr =>
   hr.copied h.good ht hgt hh hla' hpz hone
  refine ⟨.tuple #[], w.setRow g (setSeg cur.toList i (List.replicate (xs.length - i) z)).toArray, ?_, σ.map (copyLeaf t i (List.replicate (xs.length - i) (ofConst z))), G, hk, ?_⟩
  ·simp [execOp, ho, resolve, invoke, builtin, hxv, hrun]
  ·rw [hd]
   refine { h with good := ⟨fun b hb => by simpa [World.setRow] using h.good.lt b hb, h.good.tags, h.good.boxes⟩, slots := fun s => ?_, boxes := ⟨fun i vs hv => by have := h.boxes.low i vs hv; simpa [St.map, mapB_eq] using this, fun j cs' hj => ?_⟩, blt := fun b i hb => by have := h.blt b i hb; simpa [St.map, mapB_eq] using this, hsize := by simpa [World.setRow] using h.hsize, keep := fun b' hb' hn hnt => ?_, stat := h.stat }
   ·have : (σ.map (copyLeaf t i (List.replicate (xs.length - i) (ofConst z)))).get s = (σ.get s).mapTop (copyLeaf t i (List.replicate (xs.length - i) (ofConst z))) := lookT_map rfl σ.tmps s
    rw [this]; exact hst (h.slots s)
   ·simp only [St.map, mapB_eq, List.getElem?_map] at hj
    cases hc' : σ.boxes[j]? with
    | none => simp [hc'] at hj
    | some cs'' =>
     simp [hc'] at hj; subst hj
     rw [mapTops_eq]
     exact (h.boxes.cell j cs'' hc').map (fun x v hr => hst hr) (fun b'' k1 => ⟨k1, heap_setRow_ne fun h => by subst h; rw [hgt] at k1; cases k1⟩) fun h0 => h0
   ·have hne : b' ≠ g := fun h' => by
     subst h'
     have := h.stat b' hb' hnt
     rw [hgt] at this
     exact hnt t this.symm
    rw [heap_setRow_ne hne]; exact h.keep b' hb' hn hnt
 ·split at hw
  ·rename_i t es xs i hx
   obtain ⟨ht, hi, E, ⟨sz, by_, z0⟩, z, hT, hq, hs1, hz0, hz, hes, hall, hk⟩ := hw
   simp only at hs1 hz0; subst hs1; subst hz0
   have hxr := h.ev x
   rw [hx] at hxr
   obtain ⟨g, c, cur, e, hxv, hgt, hh, hcs⟩ := hxr.ownTail ht hi
   have hfit : i * sz + (xs.length - i) * z.cells.size <= cur.size := by
    rw [hz, <- Nat.add_mul]
    exact Nat.le_trans (Nat.mul_le_mul_right _ (by omega)) hcs
   obtain ⟨L, hL, hone, hrun⟩ := run_clear_wide (P := P) (ty := o.type) (c := c) hT hq (by omega) (fun v hv => List.all_eq_true.1 hall v hv) (o := i * sz) (n := xs.length - i) (by omega) hh hfit
   have hst : ∀ {x v}, VRel G w x v -> VRel G (w.setRow g (setSeg cur.toList (i * sz) L).toArray) (x.mapTop (clrLeaf t sz i)) v := fun hr =>
    hr.cleared h.good ht hgt hh hes hone
   refine ⟨.tuple #[], w.setRow g (setSeg cur.toList (i * sz) L).toArray, ?_, σ.map (clrLeaf t sz i), G, hk, ?_⟩
   ·simp [execOp, ho, resolve, invoke, builtin, hxv, hrun]
   ·rw [hd]
    refine { h with good := ⟨fun b hb => by simpa [World.setRow] using h.good.lt b hb, h.good.tags, h.good.boxes⟩, slots := fun s => ?_, boxes := ⟨fun i vs hv => by have := h.boxes.low i vs hv; simpa [St.map, mapB_eq] using this, fun j cs' hj => ?_⟩, blt := fun b i hb => by have := h.blt b i hb; simpa [St.map, mapB_eq] using this, hsize := by simpa [World.setRow] using h.hsize, keep := fun b' hb' hn hnt => ?_, stat := h.stat }
    ·have : (σ.map (clrLeaf t sz i)).get s = (σ.get s).mapTop (clrLeaf t sz i) := lookT_map rfl σ.tmps s
     rw [this]; exact hst (h.slots s)
    ·simp only [St.map, mapB_eq, List.getElem?_map] at hj
     cases hc' : σ.boxes[j]? with
     | none => simp [hc'] at hj
     | some cs'' =>
      simp [hc'] at hj; subst hj
      rw [mapTops_eq]
      exact (h.boxes.cell j cs'' hc').map (fun x v hr => hst hr) (fun b'' k1 => ⟨k1, heap_setRow_ne fun h => by subst h; rw [hgt] at k1; cases k1⟩) fun h0 => h0
    ·have hne : b' ≠ g := fun h' => by
      subst h'
      have := h.stat b' hb' hnt
      rw [hgt] at this
      exact hnt t this.symm
     rw [heap_setRow_ne hne]; exact h.keep b' hb' hn hnt
  ·exact hw.elim
end
section
variable {P : Program}
def rowOk (t : Nat) : AV -> Bool
 | .sl t' _ _ => decide (t' < 2) || (decide (root t' = root t) && decide (t' ≠ t))
 | x => x.rowLike
def evStore (P : Program) (T : TypeId) (σ : St) (ax vx : AV) (K : St -> Prop) : Prop :=
 match ax with
 | .pb i o => ∃ cs q, σ.boxes[i]? = some cs /\ tinfo P T = some q /\ vx.cells.length = q.1 /\ vx.one = true /\ o + q.1 <= cs.length /\ K { σ with boxes := σ.boxes.set i (setSeg cs o vx.cells) }
 | .pe t es _ i o => 2 <= t /\ ∃ q, tinfo P T = some q /\ vx.cells.length = q.1 /\ 0 < q.1 /\ o + q.1 <= es /\ vx.fz = true /\ vx.one = true /\ leafAll vx.cells = true /\ K (σ.map (storeLeaf t es i o vx.cells))
 | .po t _ i => ∃ q, tinfo P T = some q /\ q.1 = 1 /\ vx.one = true /\ rowOk t vx = true /\ K (σ.map (putLeaf t i vx))
 | _ => False
def St.frz (σ : St) (ts : List Nat) : St :=
 match ts with
 | [] => σ
 | t :: ts => σ.map (freezeLeaf fun u => (t :: ts).contains u)
theorem SRel.frz {G0 w0 σ G a w} (h : SRel G0 w0 σ G a w) (h0 : True) (ts : List Nat) : ∃ G', SRel G0 w0 (σ.frz ts) G' a w := by
 cases ts with
 | nil => exact ⟨G, h⟩
 | cons t ts => exact ⟨_, h.freeze h0 _⟩
theorem frz_n (σ : St) (ts : List Nat) : (σ.frz ts).n = σ.n := by cases ts <;> rfl
def stFrz (σ : St) (a x : AV) : St :=
 match a with
 | .pe _ _ _ _ _ => σ.frz x.tags
 | .po t _ i => match x with
  | .sl t' _ _ => if 2 <= t' /\ root t' ≠ root t then σ.map (retagLeaf t' (subT t i)) else σ
  | _ => σ
 | _ => σ
def soApp (P : Program) (T T' : TypeId) (n : Nat) : Prop :=
 match P.underlying T with
 | some (.slice E) => T' = T /\ ∃ q, tinfo P E = some q /\ q.1 = 1 /\ (∃ z, q.2.2 = some z /\ z.cells.size = 1) /\ roomFor (n + 1) q.2.1
 | _ => False
def evAppSo (P : Program) (T T' : TypeId) (d : Nat) (σ : St) (t : Nat) (xs : List AV) (y : AV) (K : St -> Prop) : Prop :=
 match y with
 | .so t2 [.sl t0 es zs] => soApp P T T' xs.length /\ 2 <= t /\ 2 <= t0 /\ t0 ≠ t /\ t2 ≠ t /\ t2 ≠ t0 /\ t2 ≠ subT t xs.length /\
   K (((σ.map (retagLeaf t0 (subT t xs.length))).map (killLeaf t)).put (some d) (.so t (((xs.map (retagRow t0 (subT t xs.length))).map (killRow t)) ++ [.sl (subT t xs.length) es zs])))
 | .sl t2 1 [z] => soApp P T T' xs.length /\ 2 <= t /\ t2 ≠ t /\ z.rowLike = true /\ K ((σ.map (killLeaf t)).put (some d) (.so t ((xs.map (killRow t)) ++ [z])))
 | _ => False
def evAppend (P : Program) (T T' : TypeId) (d : Nat) (σ : St) (x y : AV) (K : St -> Prop) : Prop :=
 match x with
 | .sl t es xs => if 2 <= t then evAppendOwn P T T' (.sl t es xs) y (fun t r => K ((σ.map (killLeaf t)).put (some d) r))
   else σ.free d = true /\ evAppendX P d T T' (.sl t es xs) y fun r => K (σ.put (some d) r)
 | .so t xs => evAppSo P T T' d σ t xs y K
 | .tl t es xs i => evAppendTl P T T' (.tl t es xs i) y fun t r1 r2 => K ((σ.map (killLeaf t)).put (some d) r1) /\ K ((σ.map (killLeaf t)).put (some d) r2)
 | x => σ.free d = true /\ evAppendX P d T T' x y fun r => K (σ.put (some d) r)
def keepHints : List Nat := []
def keepTag (t0 : Nat) : Bool := decide (1048576 <= t0) || decide (2 <= t0) && keepHints.contains t0
theorem keepTag_two {t0 : Nat} (h : keepTag t0 = true) : 2 <= t0 := by
 unfold keepTag at h
 simp only [Bool.or_eq_true, Bool.and_eq_true, decide_eq_true_eq] at h
 omega
def keepSel (l : List AV) (k1 : Nat -> Nat -> List AV -> Prop) (k2 : Prop) : Prop :=
 match l with
 | [.sl t0 es zs] => if keepTag t0 = true then k1 t0 es zs else k2
 | _ => k2
def keepK (P : Program) (d : Nat) (T : TypeId) (len : Nat) (ps : List (Nat × Operand)) (σ : St) (K : St -> Prop) (t0 es : Nat) (zs : List AV) : Prop :=
 σ.free d = true /\ (match P.underlying T with | some (.slice E) => (∃ q, tinfo P E = some q /\ q.1 = 1 /\ q.2.2.isSome = true) | _ => False) /\ len = 1 /\ (ps.map (·.1)) = [0] /\
  K ((σ.map (retagLeaf t0 (subT (64 * (d + 1)) 0))).put (some d) (.so (64 * (d + 1)) [.sl (subT (64 * (d + 1)) 0) es zs]))
def wpAt (P : Program) (o : Oper) (d : Nat) (σ : St) (K : St -> Prop) : Prop :=
 match o.op with
 | .box _ x => (σ.ev x).one = true /\ K (St.put { σ with boxes := σ.boxes ++ [(σ.ev x).cells] } (some d) (.pb σ.boxes.length 0))
 | .alloc T => ∃ q z, tinfo P T = some q /\ q.2.2 = some z /\ (z.cells.toList.all fun u => u.oneCell') = true /\ K (St.put { σ with boxes := σ.boxes ++ [(ofConst z).cells] } (some d) (.pb σ.boxes.length 0))
 | .buildSlice T n ps => keepSel (ps.toList.map fun p => σ.ev p.2) (keepK P d T n ps.toList σ K) <| (σ.frz (tagss (ps.toList.map fun p => σ.ev p.2))).free d = true /\
   evBuildSlice P d T n (ps.toList.map fun p => (p.1, (σ.frz (tagss (ps.toList.map fun p => σ.ev p.2))).ev p.2)) fun r => K ((σ.frz (tagss (ps.toList.map fun p => σ.ev p.2))).put (some d) r)
 | .call { callee := .value f, args, argTypes := _ } => match σ.ev f with
  | .fn fid caps => CallU P fid (args.toList.map σ.ev ++ caps) d σ K
  | .cl fid caps => CallU P fid (args.toList.map σ.ev ++ caps) d σ K
  | _ => False
 | .call { callee := .builtin .append, args, argTypes } => match args.toList, argTypes.toList with
  | [x, y], [T, T'] => evAppend P T T' d σ (σ.ev x) (σ.ev y) K
  | _, _ => False
 | .call { callee := .builtin .copy, args, argTypes } => match args.toList, argTypes.toList with
  | [x, y], [T, _] => evCopy P T d σ (σ.ev x) (σ.ev y) K
  | _, _ => False
 | op => (needsFresh op = true -> σ.free d = true) /\ evOp P d σ.ev σ.boxes o.type op fun r => K (σ.put (some d) r)
def evMapPut (P : Program) (T : TypeId) (σ : St) (m x y : AV) (K : St -> Prop) : Prop :=
 match m, x, y with
 | .mp t P' k e D, .sc kv, .sc yv => P' = P /\ P.underlying T = some (.map k e) /\ keyKind (P.underlying k) = true /\ mapLen D < 9223372036854775807 /\
   ∃ kl dv, keyOf P k kv = some kl /\ plainElem (H := Unit) P e yv = some (dv, []) /\ K (σ.map (putMap t P k e (D.put kl dv)))
 | _, _, _ => False
def wpOp (P : Program) (o : Oper) (σ : St) (K : St -> Prop) : Prop :=
 match o.dst with
 | some d => d < σ.n /\ wpAt P o d σ K
 | none => match o.op with
  | .store T a x => evStore P T (stFrz σ (σ.ev a) (σ.ev x)) ((stFrz σ (σ.ev a) (σ.ev x)).ev a) ((stFrz σ (σ.ev a) (σ.ev x)).ev x) K
  | .mapUpdate T m x y => evMapPut P T σ (σ.ev m) (σ.ev x) (σ.ev y) K
  | .insert T m x y => evMapPut P T σ (σ.ev m) (σ.ev x) (σ.ev y) K
  | .call { callee := .builtin .clear, args, argTypes } => match args.toList, argTypes.toList with
   | [x], [T] => evClear P T σ (σ.ev x) K
   | _, _ => False
  | _ => False
theorem SRel.kill {G0 w0 σ G a w} {t d : Nat} {G' : Nat -> Status} {w' : World} (h : SRel G0 w0 σ G a w) (_h0 : True) (he : ExtBut t G w G' w') (hG : Good G' w') {r : AV} {v : Value} (hd : d < σ.n) (hr : VRel G' w' r v) :
  SRel G0 w0 ((σ.map (killLeaf t)).put (some d) r) G' (a.put (some d) v) w' where
 good := hG
 slots := slots_put (fun s => by
  have : (σ.map (killLeaf t)).get s = (σ.get s).kill t := lookT_map rfl σ.tmps s
  rw [this]; exact (h.slots s).but h.good he) h.size (decide_eq_true hd) hr
 boxes := ⟨fun i vs hv => by rw [put_boxes]; have := h.boxes.low i vs hv; simpa [St.map, mapB_eq] using this, fun i cs hi => by
  rw [put_boxes] at hi
  simp only [St.map, mapB_eq, List.getElem?_map] at hi
  cases hc : σ.boxes[i]? with
  | none => simp [hc] at hi
  | some cs' =>
   simp [hc] at hi; subst hi
   rw [mapTops_eq]
   refine (h.boxes.cell i cs' hc).map (fun x v hr => hr.but h.good he) (fun b h1 => ?_) fun h0 b hb => ?_
   ·have hb := h.good.lt b (by rw [h1]; simp)
    exact ⟨by rw [he.stat b hb (by rw [h1]; simp)]; exact h1, he.keep b hb (by rw [h1]; simp)⟩
   ·by_cases hlt : b < w.heap.size
    ·by_cases ht : G b = .tag t
     ·rcases he.old b ht with h' | h' <;> rw [h'] at hb <;> cases hb
     ·exact h0 b (by rw [<- he.stat b hlt ht]; exact hb)
    ·rcases he.new b (by omega) with h' | h' <;> rw [h'] at hb <;> cases hb⟩
 blt := fun b i hb => by
  rw [put_boxes]
  have : G b = .box i := by
   by_cases hlt : b < w.heap.size
   ·by_cases ht : G b = .tag t
    ·rcases he.old b ht with h' | h' <;> rw [h'] at hb <;> cases hb
    ·rw [<- he.stat b hlt ht]; exact hb
   ·rcases he.new b (by omega) with h' | h' <;> rw [h'] at hb <;> cases hb
  have := h.blt b i this
  simpa [St.map, mapB_eq] using this
 size := by rw [put_size, put_n]; exact h.size
 defs := by rw [put_defers]; exact h.defs
 os := he.os.trans h.os
 tape := he.tape.trans h.tape
 output := he.output.trans h.output
 hsize := Nat.le_trans h.hsize he.size
 stat := fun b hb hnt => by
  have := h.stat b hb hnt
  rw [he.stat b (Nat.lt_of_lt_of_le hb h.hsize) (by rw [this]; exact hnt t)]; exact this
 keep := fun b hb hn hnt => by
  have := h.stat b hb hnt
  rw [he.keep b (Nat.lt_of_lt_of_le hb h.hsize) (by rw [this]; exact hnt t)]; exact h.keep b hb hn hnt
theorem SRel.newBox {G0 w0 σ G a w} {d : Nat} {cs : List AV} {vals : Array Value} {T : TypeId} (h : SRel G0 w0 σ G a w) (hp : PW (VRel G w) cs vals.toList) (h1 : One vals.toList) (hd : d < σ.n) :
  ∃ G', SRel G0 w0 (St.put { σ with boxes := σ.boxes ++ [cs] } (some d) (.pb σ.boxes.length 0)) G' (a.put (some d) (.pointer (some ⟨w.heap.size, 0, none⟩))) (w.alloc (.cells vals T)) := by
 obtain ⟨k1, k2, k3, k4, k5⟩ := AM.newBox (T := T) h.good h.boxes h.blt hp h1
 refine ⟨_, { good := k3, slots := ?_, boxes := k4, blt := k5, size := ?_, defs := ?_, os := k2.os.trans h.os, tape := k2.tape.trans h.tape, output := k2.output.trans h.output, hsize := Nat.le_trans h.hsize k2.size, stat := ?_, keep := ?_ }⟩
 ·exact slots_put (σ := { σ with boxes := σ.boxes ++ [cs] }) (fun s => (h.slots s).ext h.good k2) h.size (by simpa [dstOk] using hd) k1
 ·rw [put_size, put_n]; exact h.size
 ·rw [put_defers]; exact h.defs
 ·exact fun b hb hnt => (k2.stat b (Nat.lt_of_lt_of_le hb h.hsize)).trans (h.stat b hb hnt)
 ·exact fun b hb hn hnt => (k2.keep b (Nat.lt_of_lt_of_le hb h.hsize)).trans (h.keep b hb hn hnt)
def OpOk (P : Program) (G0 : Orig) (w0 : World) (o : Oper) (a : Act) (w : World) (K : St -> Prop) : Prop :=
 ∀ (K' : Act -> World -> Prop) (Q : Exit -> Act -> World -> Prop), (∀ σ' G' a' w', K σ' -> SRel G0 w0 σ' G' a' w' -> K' a' w') -> o.wp P a w K' Q
theorem OpOk.value {G0 w0 a w} {o : Oper} {K : St -> Prop} {v : Value} {w' : World} (hr : (execOp a.eval o).run P w = .ok (.value v) w') (h : ∃ σ' G', K σ' /\ SRel G0 w0 σ' G' (a.put o.dst v) w') : OpOk P G0 w0 o a w K := by
 intro K' Q hK
 obtain ⟨σ', G', h1, h2⟩ := h
 unfold Oper.wp
 rw [hr, Oper.upon_value]
 exact hK σ' G' _ _ h1 h2
theorem evMapPut_sound {T : TypeId} {σ : St} {K : St -> Prop} {G0 w0 G a w} {o : Oper} {xm xk xv : Operand} (ho : o.op = .mapUpdate T xm xk xv \/ o.op = .insert T xm xk xv) (hd : o.dst = none) (h : SRel G0 w0 σ G a w)
  (hs : evMapPut P T σ (σ.ev xm) (σ.ev xk) (σ.ev xv) K) : OpOk P G0 w0 o a w K := by
 have hm := h.ev xm
 have hk := h.ev xk
 have hv := h.ev xv
 intro K' Q hK
 unfold evMapPut at hs
 split at hs
 ·rename_i t P' k e D kv yv e1 e2 e3
  obtain ⟨rfl, hT, hkk, hlen, kl, dv, hkl, hpl, hKK⟩ := hs
  rw [e1] at hm; rw [e2] at hk; rw [e3] at hv
  have hk := hk.sc_inv
  have hv := hv.sc_inv
  generalize hmv : a.eval xm = mv at hm
  cases hm with
  | froz h => cases h
  | mp _ _ _ _ _ b n h1 h2 h3 =>
   obtain ⟨w', hrun, hown, hgr⟩ := (ownsMap_len h3).1.update (keyKind_keyed hkk) hT (by unfold maxLen; omega) hkl hpl
   have hblt := h3.lt
   have hne : ∀ b', b' < w.heap.size -> G b' ≠ .tag t -> w'.heap[b']? = w.heap[b']? := fun b' hb hn => hgr.block b' hb (fun he => by cases he; exact hn h2)
   have he : ExtBut t G w G w' := ⟨hgr.os, hgr.tape, hgr.output, hgr.size, fun _ _ _ => rfl, hne, fun b' hb => .inl hb, fun b' hb => .inr (by
    cases hg : G b' with
    | junk => rfl
    | _ => have := h.good.lt b' (by rw [hg]; simp); omega)⟩
   have hG : Good G w' := ⟨fun b hb => Nat.lt_of_lt_of_le (h.good.lt b hb) hgr.size, h.good.tags, h.good.boxes⟩
   have hput : ∀ {x v}, VRel G w x v -> VRel G w' (x.mapTop (putMap t P' k e (D.put kl dv))) v := by
    intro x v hx
    refine hx.mapTop fun x v hl hx => ?_
    have hb := hx.but h.good he
    rw [show x.kill t = killLeaf t x from AV.mapTop_leaf _ hl] at hb
    cases x with
    | mp t' P2 k2 e2 D2 =>
     simp only [putMap]
     split
     ·rename_i htt
      subst htt
      cases hx with
      | froz h => cases h
      | mp _ _ _ _ _ b' n' g1 g2 g3 =>
       have := h.good.tags b' b _ g2 h2
       subst this
       exact .mp _ _ _ _ _ _ _ h1 h2 hown
     ·rename_i htt
      simp only [killLeaf, htt, if_false] at hb
      exact hb
    | _ => exact hb
   have hr : (execOp a.eval o).run P' w = .ok .skip w' := by rcases ho with ho | ho <;> simp only [execOp, ho, hmv, hk, hv, Sem.run_bind, hrun, Result.andThen_ok, Sem.run_pure]
   unfold Oper.wp
   rw [hr, Oper.upon_skip, hd]
   refine hK _ G _ _ hKK { h with good := hG, slots := fun s => ?_, boxes := ⟨fun i vs hv => by have := h.boxes.low i vs hv; simpa [St.map, mapB_eq] using this, fun j cs' hj => ?_⟩, blt := fun b i hb => by have := h.blt b i hb; simpa [St.map, mapB_eq] using this, os := hgr.os.trans h.os, tape := hgr.tape.trans h.tape, output := hgr.output.trans h.output, hsize := Nat.le_trans h.hsize hgr.size, keep := fun b' hb' hn hnt => ?_ }
   ·have : (σ.map (putMap t P' k e (D.put kl dv))).get s = (σ.get s).mapTop (putMap t P' k e (D.put kl dv)) := lookT_map rfl σ.tmps s
    rw [this]; exact hput (h.slots s)
   ·simp only [St.map, mapB_eq, List.getElem?_map] at hj
    cases hc' : σ.boxes[j]? with
    | none => simp [hc'] at hj
    | some cs'' =>
     simp [hc'] at hj; subst hj
     rw [mapTops_eq]
     exact (h.boxes.cell j cs'' hc').map (fun x v hr => hput hr) (fun b'' k1 => ⟨k1, hne b'' (h.good.lt b'' (by rw [k1]; simp)) (by rw [k1]; simp)⟩) fun h0 => h0
   ·have h6 := h.stat b' hb' hnt
    rw [hne b' (Nat.lt_of_lt_of_le hb' h.hsize) (by rw [h6]; exact hnt t)]
    exact h.keep b' hb' hn hnt
 ·exact hs.elim
theorem evStore_sound {T : TypeId} {σ : St} {K : St -> Prop} {G0 w0 G a w} {o : Oper} {xa xv : Operand} (ho : o.op = .store T xa xv) (hd : o.dst = none) (h : SRel G0 w0 σ G a w) (_h0 : True)
  (hs : evStore P T σ (σ.ev xa) (σ.ev xv) K) : OpOk P G0 w0 o a w K := by
 have hva := h.ev xa
 have hvx := h.ev xv
 intro K' Q hK
 unfold evStore at hs
 split at hs
 ·rename_i i o' he
  obtain ⟨cs, ⟨sz, by_, z⟩, hcs, hq, hlen, hone, hfit, hk⟩ := hs
  rw [he] at hva
  obtain ⟨b, hb, hav⟩ := hva.pb_inv
  obtain ⟨b', vals, ty, g1, g2, g3, g4⟩ := BRel.real h.boxes hcs hb
  obtain rfl := h.good.boxes _ _ _ hb g1
  obtain ⟨hc, h1⟩ := hvx.cellsV hone
  simp only at hlen hfit
  have hsz : (a.eval xv).cells.size = sz := by have := hc.1; rw [hlen] at this; simpa using this.symm
  have hcl : cs.length = vals.size := by have := g4.1; simpa using this
  have hrun := store_run (P := P) (T := T) hq (o := o') g2 hsz h1 (by omega)
  have hrun' : (execOp a.eval o).run P w = .ok .skip (w.setRow b (vals.toList.take o' ++ (a.eval xv).cells.toList ++ vals.toList.drop (o' + sz)).toArray) := by
   simp only [execOp, ho, hav, Sem.run_bind, hrun, Result.andThen_ok, Sem.run_pure]
  have hseg : vals.toList.take o' ++ (a.eval xv).cells.toList ++ vals.toList.drop (o' + sz) = setSeg vals.toList o' (a.eval xv).cells.toList := by
   rw [setSeg_eq _ _ _ (by simp [hsz]; omega)]; simp [hsz]
  rw [hseg] at hrun'
  unfold Oper.wp
  rw [hrun', Oper.upon_skip, hd]
  have hset := setRow_heap w b vals (setSeg vals.toList o' (a.eval xv).cells.toList).toArray ty (0, 0) g2
  have hm : ∀ {x v}, VRel G w x v -> VRel G (w.setRow b (setSeg vals.toList o' (a.eval xv).cells.toList).toArray) x v := fun hr =>
   hr.mono (fun _ _ => rfl) (fun b' _ hn => heap_setRow_ne (fun h => hn i (by rw [h]; exact hb)))
  refine hK _ G _ _ hk { h with good := ⟨fun b hb => by simpa [World.setRow] using h.good.lt b hb, h.good.tags, h.good.boxes⟩, slots := fun s => hm (h.slots s), boxes := ⟨fun i vs hv => by have := h.boxes.low i vs hv; simpa using this, fun j cs' hj => ?_⟩, blt := fun b i hb => by simpa using h.blt b i hb, hsize := by simpa [World.setRow] using h.hsize, keep := fun b' hb' hn hnt => ?_ }
  ·rw [List.getElem?_set] at hj
   by_cases hji : i = j
   ·subst hji
    have hil : i < σ.boxes.length := (List.getElem?_eq_some_iff.1 hcs).1
    simp only [if_true] at hj
    rw [if_pos hil] at hj
    cases hj
    refine .inl ⟨by rcases h.boxes.cell i cs hcs with h1 | h1 | h1; exact h1.1; exact absurd hb (h1.1 b); exact h1.1, b, _, ty, hb, hset, ?_, ?_⟩
    ·simp only; exact One.setSeg _ h1 g3
    ·simp only; exact (PW.setSeg _ hc g4).mono fun x y _ hr => hm hr
   ·rw [if_neg hji] at hj
    exact (h.boxes.cell j cs' hj).same (fun x v hr => hm hr) (fun b'' k1 => ⟨k1, heap_setRow_ne fun h => by subst h; rw [hb] at k1; cases k1; exact hji rfl⟩) fun h0 => h0
  ·have hne : b' ≠ b := fun h' => by subst h'; exact hn i (by rw [<- h.stat b' hb' hnt]; exact hb)
   rw [heap_setRow_ne hne]; exact h.keep b' hb' hn hnt
 ·rename_i t es xs i o' he
  obtain ⟨ht, ⟨sz, by_, z⟩, hq, hlen, hpos, hfit, hfz, hone, hla, hk⟩ := hs
  rw [he] at hva
  obtain ⟨b, off, c, hsl, hil, hav⟩ := hva.pe_inv
  simp only at hlen hpos hfit
  cases hsl with
  | froz h' => exfalso; cases h' <;> omega
  | own _ _ _ _ e vals _ g2 g3 g4 g0 g5 =>
  rcases g2.2 with ⟨hv, _⟩ | ⟨g, cap, cur, hv, _, hh, hnc, hcm, hcs, hct⟩
  ·cases hv
  ·simp only [Value.slice.injEq, Option.some.injEq, Addr.mk.injEq, true_and, and_true] at hv
   obtain ⟨⟨rfl, rfl⟩, rfl⟩ := hv
   have hb : G b = .tag t := g3 b rfl
   obtain ⟨hc, h1⟩ := (hvx.fz hfz).cells hone
   have hsz : (a.eval xv).cells.size = sz := by have := hc.1; rw [hlen] at this; simpa using this.symm
   have hbound : i * es + o' + sz <= cur.size := by
    rw [hcs]
    have : (i + 1) * es <= c * es := Nat.mul_le_mul_right _ (by omega)
    rw [Nat.succ_mul] at this; omega
   have hrun := store_run (P := P) (T := T) hq (o := 0 + i * es + o') hh hsz h1 (by omega)
   have hrun' : (execOp a.eval o).run P w = .ok .skip (w.setRow b (cur.toList.take (0 + i * es + o') ++ (a.eval xv).cells.toList ++ cur.toList.drop (0 + i * es + o' + sz)).toArray) := by
    simp only [execOp, ho, hav, Sem.run_bind, hrun, Result.andThen_ok, Sem.run_pure]
   have hseg : cur.toList.take (0 + i * es + o') ++ (a.eval xv).cells.toList ++ cur.toList.drop (0 + i * es + o' + sz) = setSeg cur.toList (i * es + o') (a.eval xv).cells.toList := by
    rw [setSeg_eq _ _ _ (by simp [hsz]; omega)]; simp [hsz]
   rw [hseg] at hrun'
   unfold Oper.wp
   rw [hrun', Oper.upon_skip, hd]
   have hst : ∀ {x v}, VRel G w x v -> VRel G (w.setRow b (setSeg cur.toList (i * es + o') (a.eval xv).cells.toList).toArray) (x.storeAt t es i o' (σ.ev xv).cells) v := fun hr =>
    hr.stored h.good ht hb hh (by omega) (by intro h; rw [h] at hlen; simp at hlen; omega) hla hc h1
   refine hK _ G _ _ hk { h with good := ⟨fun b hb => by simpa [World.setRow] using h.good.lt b hb, h.good.tags, h.good.boxes⟩, slots := fun s => ?_, boxes := ⟨fun i vs hv => by have := h.boxes.low i vs hv; simpa [St.map, mapB_eq] using this, fun j cs' hj => ?_⟩, blt := fun b i hb => by have := h.blt b i hb; simpa [St.map, mapB_eq] using this, hsize := by simpa [World.setRow] using h.hsize, keep := fun b' hb' hn hnt => ?_, stat := h.stat }
   ·have : (σ.map (storeLeaf t es i o' (σ.ev xv).cells)).get s = (σ.get s).storeAt t es i o' (σ.ev xv).cells := lookT_map rfl σ.tmps s
    rw [this]; exact hst (h.slots s)
   ·simp only [St.map, mapB_eq, List.getElem?_map] at hj
    cases hc' : σ.boxes[j]? with
    | none => simp [hc'] at hj
    | some cs'' =>
     simp [hc'] at hj; subst hj
     rw [mapTops_eq]
     exact (h.boxes.cell j cs'' hc').map (fun x v hr => hst hr) (fun b'' k1 => ⟨k1, heap_setRow_ne fun h => by subst h; rw [hb] at k1; cases k1⟩) fun h0 => h0
   ·have hne : b' ≠ b := fun h' => by
     subst h'
     have := h.stat b' hb' hnt
     rw [hb] at this
     exact hnt t this.symm
    rw [heap_setRow_ne hne]; exact h.keep b' hb' hn hnt
 ·rename_i t xs i he
  obtain ⟨⟨sz, by_, z⟩, hq, hsz1, hone, hrok, hk⟩ := hs
  simp only at hsz1; subst hsz1
  rw [he] at hva
  obtain ⟨b, off, c, hso, hil, hav⟩ := hva.po_inv
  have ht := hso.so_two
  have hrl : (σ.ev xv).rowLike = true := by
   cases hx : σ.ev xv <;> rw [hx] at hrok <;> first | rfl | (simp only [rowOk, AV.rowLike] at hrok; first | exact hrok | (cases hrok))
  have hroot : ∀ t' es ys, σ.ev xv = .sl t' es ys -> 2 <= t' -> root t' = root t /\ t' ≠ t := fun t' es ys e h2 => by
   rw [e] at hrok
   simp only [rowOk, Bool.or_eq_true, decide_eq_true_eq, Bool.and_eq_true] at hrok
   rcases hrok with h | h
   ·omega
   ·exact h
  have hL : LRel G w (root t) (σ.ev xv) (a.eval xv) := hvx.toL hrl (fun t' es ys e h2 => (hroot t' es ys e h2).1)
  have hyt : ∀ es ys, σ.ev xv ≠ .sl t es ys := fun es ys e => (hroot t es ys e ht).2 rfl
  obtain ⟨hcv, h1v⟩ := hvx.cellsV hone
  have hcells : (a.eval xv).cells.toList = [a.eval xv] := by
   have hc1 : (σ.ev xv).cells = [σ.ev xv] := rowLike_cells hrl
   rw [hc1] at hcv
   have hlen : (a.eval xv).cells.toList.length = 1 := by rw [<- hcv.1]; rfl
   cases hv : a.eval xv with
   | agg cs =>
    have h2 := hvx
    rw [hv] at h2
    exfalso
    generalize hX : σ.ev xv = X at h2 hrl
    cases h2 with
    | froz h2 => cases h2 <;> first | (simp [AV.rowLike] at hrl; done) | (rw [hX] at hone; simp [AV.one, Value.oneCell'] at hone)
    | own _ _ _ _ _ _ _ g => rcases g.2 with ⟨g, _⟩ | ⟨_, _, _, g, _⟩ <;> cases g
    | _ => simp [AV.rowLike] at hrl
   | _ => rfl
  have hone1 : (a.eval xv).oneCell' = true := h1v _ (by rw [hcells]; simp)
  cases hso with
  | froz h' => cases h'
  | so _ _ _ e vals _ g2 g3 g4 g0 g5 =>
  rcases g2.2 with ⟨hv, _⟩ | ⟨g, cap, cur, hv, _, hh, hnc, hcm, hcs, hct⟩
  ·cases hv
  ·simp only [Value.slice.injEq, Option.some.injEq, Addr.mk.injEq, true_and, and_true] at hv
   obtain ⟨⟨rfl, rfl⟩, rfl⟩ := hv
   have hb : G b = .tag t := g3 b rfl
   have hbound : i < cur.size := by rw [hcs]; omega
   have hsz : (a.eval xv).cells.size = 1 := by
    have : (a.eval xv).cells.toList.length = 1 := by rw [hcells]; rfl
    simpa using this
   have hrun := store_run (P := P) (T := T) hq (o := 0 + i) hh hsz h1v (by omega)
   have hrun' : (execOp a.eval o).run P w = .ok .skip (w.setRow b (cur.toList.take (0 + i) ++ (a.eval xv).cells.toList ++ cur.toList.drop (0 + i + 1)).toArray) := by
    simp only [execOp, ho, hav, Sem.run_bind, hrun, Result.andThen_ok, Sem.run_pure]
   have hseg : cur.toList.take (0 + i) ++ (a.eval xv).cells.toList ++ cur.toList.drop (0 + i + 1) = cur.toList.set i (a.eval xv) := by
    rw [hcells, Nat.zero_add, List.set_eq_take_append_cons_drop, if_pos (by simpa using hbound)]; simp
   rw [hseg] at hrun'
   unfold Oper.wp
   rw [hrun', Oper.upon_skip, hd]
   have hst : ∀ {x v}, VRel G w x v -> VRel G (w.setRow b (cur.toList.set i (a.eval xv)).toArray) (x.mapTop (putLeaf t i (σ.ev xv))) v := fun hr =>
    hr.put h.good ht hb hh hone1 hrl hL hyt
   refine hK _ G _ _ hk { h with good := ⟨fun b hb => by simpa [World.setRow] using h.good.lt b hb, h.good.tags, h.good.boxes⟩, slots := fun s => ?_, boxes := ⟨fun i vs hv => by have := h.boxes.low i vs hv; simpa [St.map, mapB_eq] using this, fun j cs' hj => ?_⟩, blt := fun b i hb => by have := h.blt b i hb; simpa [St.map, mapB_eq] using this, hsize := by simpa [World.setRow] using h.hsize, keep := fun b' hb' hn hnt => ?_, stat := h.stat }
   ·have : (σ.map (putLeaf t i (σ.ev xv))).get s = (σ.get s).mapTop (putLeaf t i (σ.ev xv)) := lookT_map rfl σ.tmps s
    rw [this]; exact hst (h.slots s)
   ·simp only [St.map, mapB_eq, List.getElem?_map] at hj
    cases hc' : σ.boxes[j]? with
    | none => simp [hc'] at hj
    | some cs'' =>
     simp [hc'] at hj; subst hj
     rw [mapTops_eq]
     exact (h.boxes.cell j cs'' hc').map (fun x v hr => hst hr) (fun b'' k1 => ⟨k1, heap_setRow_ne fun h => by subst h; rw [hb] at k1; cases k1⟩) fun h0 => h0
   ·have hne : b' ≠ b := fun h' => by
     subst h'
     have := h.stat b' hb' hnt
     rw [hb] at this
     exact hnt t this.symm
    rw [heap_setRow_ne hne]; exact h.keep b' hb' hn hnt
 ·exact hs.elim
theorem LRel.but {t r : Nat} {G G' : Nat -> Status} {w w' : World} {x : AV} {u : Value} (hx : x.rowLike = true) (hr : LRel G w r x u) (hg : Good G w) (he : ExtBut t G w G' w') : (killRow t x).rowLike = true /\ LRel G' w' r (killRow t x) u := by
 have h1 := hr.val.but hg he
 have h2 : (killRow t x).rowLike = true := by cases x <;> first | exact hx | (simp only [killRow]; split <;> rfl)
 have h3 : x.kill t = killRow t x := by cases x <;> first | rfl | (simp [AV.rowLike] at hx)
 rw [h3] at h1
 refine ⟨h2, h1.toL h2 fun t' es xs e h4 => ?_⟩
 cases x <;> simp only [killRow] at e <;> first | (cases e; done) | skip
 split at e
 ·cases e
 ·cases e; exact hr.rootOf h4
theorem soApp_run {T T' ty : TypeId} {t t2 : Nat} {vals : List Value} {hv : Value} {xs : List AV} {n : Nat} (hap : soApp P T T' n) (hn : n = vals.length) (ht : 2 <= t) (h2 : t2 ≠ t) {G : Nat -> Status} {w : World} {v u : Value} (hg : Good G w)
  (hx : VRel G w (.sl t 1 (exact vals)) v) (hy : VRel G w (.sl t2 1 (exact [hv])) u) (hrows : PW (LRel G w (root t)) xs vals) (hrl : ∀ x ∈ xs, x.rowLike = true) {z : AV} (hz : z.rowLike = true) (hL : ∀ G' w', ExtBut t G w G' w' -> LRel G' w' (root t) z hv) :
  ∃ v' w' G', (Builtin.append_ #[T, T'] ty #[v, u]).run P w = .ok v' w' /\ VRel G' w' (.so t (xs.map (killRow t) ++ [z])) v' /\ ExtBut t G w G' w' /\ Good G' w' := by
 unfold soApp at hap
 split at hap
 ·rename_i E hT
  obtain ⟨rfl, ⟨sz, by_, z0⟩, hq, hs1, ⟨z', hz', hzs⟩, hroom⟩ := hap
  simp only at hs1; subst hs1
  have hev : evAppendOwn P T' T' (.sl t 1 (exact vals)) (.sl t2 1 (exact [hv])) (fun t' r => t' = t /\ r = .sl t 1 (exact vals ++ exact [hv])) := by
   unfold evAppendOwn
   rw [hT]
   refine ⟨rfl, (1, by_, z0), hq, by simp, ⟨z', hz', hzs⟩, ht, h2, rfl, rfl, ?_, rfl, rfl⟩
   simpa [exact_len, hn] using hroom
  obtain ⟨t', r, ⟨rfl, rfl⟩, _, hr⟩ := evAppendOwn_sound hev
  obtain ⟨v', w', G', g1, g2, g3, g4⟩ := hr ty G w v u hg hx hy
  rw [exact_app] at g2
  refine ⟨v', w', G', g1, g2.so_of ht ?_ ?_, g3, g4⟩
  ·refine PW.append ⟨by simpa using hrows.1, fun j y u' hy' hu' => ?_⟩ (.cons (hL G' w' g3) (.nil _))
   rw [List.getElem?_map] at hy'
   cases hj : xs[j]? with
   | none => simp [hj] at hy'
   | some x => simp [hj] at hy'; subst hy'; exact ((hrows.2 j x u' hj hu').but (hrl x (List.mem_of_getElem? hj)) hg g3).2
  ·intro y hy'
   rcases List.mem_append.1 hy' with h | h
   ·obtain ⟨x, hx', rfl⟩ := List.mem_map.1 h
    obtain ⟨j, hj⟩ := List.getElem?_of_mem hx'
    have hjl : j < vals.length := by rw [<- hrows.1]; exact (List.getElem?_eq_some_iff.1 hj).1
    exact ((hrows.2 j x _ hj (List.getElem?_eq_getElem hjl)).but (hrl x hx') hg g3).1
   ·simp at h; subst h; exact hz
 ·exact hap.elim
theorem putT_map (f : AV -> AV) (d : Nat) (x y : AV) : ∀ l : List (Nat × AV), putT (mapT f (putT l d y)) d x = putT (mapT f l) d x
 | [] => by simp [putT, mapT]
 | (k, v) :: r => by
  simp only [putT, mapT]
  by_cases h : k = d
  ·simp [h, mapT, putT]
  ·simp [h, mapT, putT, putT_map f d x y r]
theorem SRel.reput {G0 w0 σ G a w} (h : SRel G0 w0 σ G a w) {d : Nat} {x : AV} (hx : VRel G w x (a.tmps.getD d undef)) : SRel G0 w0 (σ.put (some d) x) G a w :=
 { h with
  slots := fun s => by
   simp only [St.get, St.put, lookT_put]
   split
   ·rename_i e; subst e; exact hx
   ·exact h.slots s }
theorem wpOp_sound {o : Oper} {σ : St} {K : St -> Prop} {G0 w0 G a w} (hw : wpOp P o σ K) (h : SRel G0 w0 σ G a w) (h0 : True) : OpOk P G0 w0 o a w K := by
  unfold wpOp at hw
  split at hw
  · rename_i d hd
    obtain ⟨hdn, hw⟩ := hw
    unfold wpAt at hw
    split at hw
    · rename_i T x ho
      obtain ⟨hone, hk⟩ := hw
      obtain ⟨hp, h1⟩ := (h.ev x).cellsV hone
      obtain ⟨G', hs⟩ := h.newBox (T := T) hp h1 hdn
      exact .value (v := .pointer (some ⟨w.heap.size, 0, none⟩)) (w' := w.alloc (.cells (a.eval x).cells T)) (by simp [execOp, ho, Instr.box, newVar, newRow]) ⟨_, G', hk, by rw [hd]; exact hs⟩
    · rename_i T ho
      obtain ⟨⟨sz, by_, z0⟩, z, hq, hz, hz1, hk⟩ := hw
      simp only at hz; subst hz
      obtain ⟨i, hi, hsz, hby, hzz⟩ := tinfo_some hq
      obtain ⟨hp, h1⟩ := ofConst_cells (S := Stable G) (w := w) z hz1
      obtain ⟨G', hs⟩ := h.newBox (T := T) (hp.mono fun x y _ hr => VRel.froz hr) h1 hdn
      exact .value (v := .pointer (some ⟨w.heap.size, 0, none⟩)) (w' := w.alloc (.cells z.cells T)) (by simp [execOp, ho, Instr.alloc, newVar, newRow, zeroValue, typeInfo, hi, hzz]) ⟨_, G', hk, by rw [hd]; exact hs⟩
    · rename_i T n ps ho
      have hold : ((σ.frz (tagss (ps.toList.map fun p => σ.ev p.2))).free d = true /\
          evBuildSlice P d T n (ps.toList.map fun p => (p.1, (σ.frz (tagss (ps.toList.map fun p => σ.ev p.2))).ev p.2)) fun r => K ((σ.frz (tagss (ps.toList.map fun p => σ.ev p.2))).put (some d) r)) -> OpOk P G0 w0 o a w K := fun hw => by
       obtain ⟨hfree, hop⟩ := hw
       obtain ⟨G1, h1⟩ := h.frz h0 (tagss (ps.toList.map fun p => σ.ev p.2))
       have hdn : d < (σ.frz (tagss (ps.toList.map fun p => σ.ev p.2))).n := by rw [frz_n]; exact hdn
       generalize σ.frz (tagss (ps.toList.map fun p => σ.ev p.2)) = τ at *
       have hop' : evOp P d τ.ev τ.boxes o.type (.buildSlice T n ps) fun r => K (τ.put (some d) r) := hop
       obtain ⟨r, hk, hr⟩ := evOp_sound hop'
       obtain ⟨hs, hfr⟩ := h1.fresh hfree h0
       obtain ⟨v, w', G', g1, g2, g3, g4, g5⟩ := hr o _ _ w a.eval ho hs.good (fun _ => hfr) hs.boxes (fun x _ => hs.ev x)
       exact .value g1 ⟨_, G', hk, by rw [hd]; exact hs.add g3 g4 g5.boxes (by simpa [dstOk] using hdn) g2⟩
      unfold keepSel at hw
      split at hw
      · rename_i t0 es zs hps
        split at hw
        · rename_i hbig
          have hbig := keepTag_two hbig
          obtain ⟨hfree, hT, hlen, hidx, hk⟩ := hw
          obtain ⟨x, hpx⟩ : ∃ x, ps.toList = [(0, x)] := by
            cases hl : ps.toList with
            | nil => rw [hl] at hidx; simp at hidx
            | cons p r =>
              rw [hl] at hidx
              simp only [List.map_cons, List.cons.injEq, List.map_eq_nil_iff] at hidx
              obtain ⟨i, x⟩ := p
              obtain ⟨h1, h2⟩ := hidx
              simp only at h1; subst h1; subst h2
              exact ⟨x, rfl⟩
          have hpa := arr_eq hpx
          subst hpa
          simp only [List.map_cons, List.map_nil, List.cons.injEq, and_true] at hps
          subst hlen
          have hne : t0 ≠ 64 * (d + 1) := by
            intro e
            cases x with
            | tmp s =>
              simp only [St.free, Bool.and_eq_true, decide_eq_true_eq] at hfree
              have hl := freeT_look hfree.2.1 s
              have hps' : lookT σ.tmps s = .sl t0 es zs := hps
              rw [hps'] at hl
              simp only [AV.allLeaf, freeLeaf, root] at hl
              have hl := of_decide_eq_true hl
              have h1 := hfree.1
              omega
            | const v =>
              simp only [St.ev, ofLit] at hps
              split at hps
              · split at hps <;> cases hps
              · unfold leafConst at hps; split at hps <;> cases hps
            | global g => cases hps
            | func f => cases hps
          obtain ⟨hs, hfr⟩ := h.fresh hfree h0
          have hxv := hs.ev x
          rw [hps] at hxv
          split at hT
          · rename_i E hTE
            obtain ⟨⟨sz, by_, z⟩, hq, hs1, hz⟩ := hT
            simp only at hs1; subst hs1
            have hone : (a.eval x).oneCell' = true := by obtain ⟨ao, c, e, _⟩ := hxv.sl_inv; rw [e]; rfl
            have hev : evBuildSlice P d T 1 [(0, .sc (a.eval x))] (fun r => r = .sl (64 * (d + 1)) 1 [.sc (a.eval x)]) := by
              unfold evBuildSlice
              rw [hTE]
              refine ⟨(1, by_, z), hq, by simp, hz, by simp, rfl, rfl, ?_, rfl⟩
              simp [partOk, AV.cells, AV.fz, fzLeaf, AV.one, hone]
            obtain ⟨r, rfl, hr⟩ := evBuildSlice_sound hev
            obtain ⟨v', w', G', g1, g2, g3, g4, g5⟩ := hr (killR d G) w #[(0, a.eval x)] hs.good hfr (.cons ⟨rfl, .froz (.sc _)⟩ (.nil _))
            have hadd := hs.add (d := some d) g3 g4 g5.boxes (by simpa [dstOk] using hdn) g2
            have hsub := sub_big (64 * (d + 1)) 0
            have hret := hadd.retag (a := t0) (b := subT (64 * (d + 1)) 0) h0 (by omega) (by omega)
            have hdl := hfr.1
            have hrow : VRel (retagG t0 (subT (64 * (d + 1)) 0) G') w' (.sl (subT (64 * (d + 1)) 0) es zs) (a.eval x) := by
              have := retag_sl (a := t0) (b := subT (64 * (d + 1)) 0) (by omega) (by omega) (hxv.ext hs.good g3)
              simpa [retagLeaf] using this
            have hnew : VRel (retagG t0 (subT (64 * (d + 1)) 0) G') w' (.sl (64 * (d + 1)) 1 (exact [a.eval x])) v' := by
              have := retag_sl (a := t0) (b := subT (64 * (d + 1)) 0) (by omega) (by omega) g2
              simp only [retagLeaf] at this
              rw [if_neg (by omega), if_neg (by omega)] at this
              exact this
            have hso := hnew.so_of (xs := [.sl (subT (64 * (d + 1)) 0) es zs]) (by omega) (.cons (hrow.toL rfl (fun _ _ _ e _ => by cases e; exact root_sub _ _)) (.nil _)) (by simp [AV.rowLike])
            have hval : ((a.put (some d) v').tmps.getD d undef) = v' := by rw [put_getD, if_pos ⟨rfl, by rw [h.size]; exact hdn⟩]
            have hfin := hret.reput (d := d) (by rw [hval]; exact hso)
            refine .value (v := v') (w' := w') (by simp [execOp, ho, g1]) ⟨_, retagG t0 (subT (64 * (d + 1)) 0) G', hk, ?_⟩
            rw [hd]
            have e : St.put ((σ.put (some d) (.sl (64 * (d + 1)) 1 [.sc (a.eval x)])).map (retagLeaf t0 (subT (64 * (d + 1)) 0))) (some d) (.so (64 * (d + 1)) [.sl (subT (64 * (d + 1)) 0) es zs]) = St.put (σ.map (retagLeaf t0 (subT (64 * (d + 1)) 0))) (some d) (.so (64 * (d + 1)) [.sl (subT (64 * (d + 1)) 0) es zs]) := by
              simp only [St.put, St.map, putT_map]
            rw [<- e]; exact hfin
          · exact hT.elim
        · exact hold hw
      · exact hold hw
    · rename_i f args As ho
      split at hw
      · rename_i fid caps hf
        have hff := h.ev f
        rw [hf] at hff
        obtain ⟨vs, hfe, hcaps⟩ := hff.fn_inv
        obtain ⟨⟨fn, hfn, hname, hbody⟩, hcalls⟩ := CallU.sound (vs := args.map a.eval ++ vs) hw h h0 (fun G' hs => by
          have hff := hs.ev f
          rw [hf] at hff
          obtain ⟨vs', hfe', hcaps'⟩ := hff.fn_inv
          rw [hfe] at hfe'; cases hfe'
          rw [Array.toList_append, Array.toList_map]
          refine PW.append ⟨by simp, fun j x u hx hu => ?_⟩ (hcaps'.mono fun x y _ hr => .froz hr)
          simp only [List.getElem?_map] at hx hu
          cases hj : args.toList[j]? with
          | none => simp [hj] at hx
          | some c => simp [hj] at hx hu; subst hx; subst hu; exact hs.ev c)
        have hrun : (execOp a.eval o).run P w = .ok (.enter fid (args.map a.eval ++ vs)) w := by
          have hname' : ¬ fn.name = "runtime.NumGoroutine" := by simpa using hname
          have hbody' : ¬ fn.body = none := by intro h; rw [h] at hbody; simp at hbody
          simp [execOp, ho, resolve, hfe, Deferred.ofValue, invoke, callFunc, hfn, hname', hbody']
        intro K' Q hK
        unfold Oper.wp
        rw [hrun, Oper.upon_enter]
        refine hcalls.mono ?_
        rintro e w' ⟨v, σ', G', rfl, hk, hs⟩
        exact hK σ' G' _ _ hk (by rw [hd]; exact hs)
      · rename_i fid caps hf
        have hff := h.ev f
        rw [hf] at hff
        obtain ⟨vs, hfe, hcaps⟩ := hff.cl_inv
        obtain ⟨⟨fn, hfn, hname, hbody⟩, hcalls⟩ := CallU.sound (vs := args.map a.eval ++ vs) hw h h0 (fun G' hs => by
          have hff := hs.ev f
          rw [hf] at hff
          obtain ⟨vs', hfe', hcaps'⟩ := hff.cl_inv
          rw [hfe] at hfe'; cases hfe'
          rw [Array.toList_append, Array.toList_map]
          refine PW.append ⟨by simp, fun j x u hx hu => ?_⟩ (hcaps'.mono fun x y _ hr => hr.rel)
          simp only [List.getElem?_map] at hx hu
          cases hj : args.toList[j]? with
          | none => simp [hj] at hx
          | some c => simp [hj] at hx hu; subst hx; subst hu; exact hs.ev c)
        have hrun : (execOp a.eval o).run P w = .ok (.enter fid (args.map a.eval ++ vs)) w := by
          have hname' : ¬ fn.name = "runtime.NumGoroutine" := by simpa using hname
          have hbody' : ¬ fn.body = none := by intro h; rw [h] at hbody; simp at hbody
          simp [execOp, ho, resolve, hfe, Deferred.ofValue, invoke, callFunc, hfn, hname', hbody']
        intro K' Q hK
        unfold Oper.wp
        rw [hrun, Oper.upon_enter]
        refine hcalls.mono ?_
        rintro e w' ⟨v, σ', G', rfl, hk, hs⟩
        exact hK σ' G' _ _ hk (by rw [hd]; exact hs)
      · exact hw.elim
    · rename_i args As ho
      split at hw
      · rename_i x y T T' h1 h2
        have h1 := arr_eq h1; have h2 := arr_eq h2; subst h1; subst h2
        have hnew : σ.free d = true /\ (evAppendX P d T T' (σ.ev x) (σ.ev y) fun r => K (σ.put (some d) r)) -> OpOk P G0 w0 o a w K := by
          rintro ⟨hfree, hap⟩
          obtain ⟨hs, hfr⟩ := h.fresh hfree h0
          obtain ⟨r, hk, hr⟩ := evAppendX_sound hap
          obtain ⟨v, w', G', g1, g2, g3, g4, g5⟩ := hr o.type _ w _ _ hs.good hfr (hs.ev x) (hs.ev y)
          exact .value (v := v) (w' := w') (by simpa [execOp, ho, resolve, invoke, builtin] using (show _ = _ from by simp [g1])) ⟨_, G', hk, by rw [hd]; exact hs.add g3 g4 g5.boxes (by simpa [dstOk] using hdn) g2⟩
        unfold evAppend at hw
        split at hw
        · rename_i t es xs hx
          split at hw
          · rename_i ht
            obtain ⟨t', r, hk, _, hr⟩ := evAppendOwn_sound hw
            obtain ⟨v, w', G', g1, g2, g3, g4⟩ := hr o.type G w _ _ h.good (by rw [<- hx]; exact h.ev x) (h.ev y)
            exact .value (v := v) (w' := w') (by simpa [execOp, ho, resolve, invoke, builtin] using (show _ = _ from by simp [g1])) ⟨_, G', hk, by rw [hd]; exact h.kill h0 g3 g4 hdn g2⟩
          · exact hnew (by rw [hx]; exact hw)
        · rename_i t xs hx
          have hxv := h.ev x
          rw [hx] at hxv
          obtain ⟨vals, hex, hrows, hone, hrl⟩ := hxv.so_exact
          unfold evAppSo at hw
          split at hw
          · rename_i t2 t0 es zs hy
            obtain ⟨hap, ht, ht0, h1, h2, h3, h4, hk⟩ := hw
            have hyv := h.ev y
            rw [hy] at hyv
            obtain ⟨yvals, hey, hyrows, hyone, _⟩ := hyv.so_exact
            obtain ⟨hv, rfl⟩ : ∃ hv, yvals = [hv] := by
              have := hyrows.1
              cases yvals with
              | nil => simp at this
              | cons q r => cases r with
                | nil => exact ⟨q, rfl⟩
                | cons _ _ => simp at this
            have hb2 : 2 <= subT t xs.length := by have := sub_big t xs.length; omega
            have hret := h.retag (a := t0) (b := subT t xs.length) h0 ht0 hb2
            have hL0 := hyrows.2 0 _ _ rfl rfl
            have hrow : VRel (retagG t0 (subT t xs.length) G) w (.sl (subT t xs.length) es zs) hv := by
              have := retag_sl (a := t0) (b := subT t xs.length) ht0 hb2 hL0.val
              simpa [retagLeaf] using this
            have hrowL := hrow.toL (r := root t) rfl (fun _ _ _ e _ => by cases e; exact root_sub _ _)
            have hex' : VRel (retagG t0 (subT t xs.length) G) w (.sl t 1 (exact vals)) (a.eval x) := by
              have := retag_sl (a := t0) (b := subT t xs.length) ht0 hb2 hex
              simp only [retagLeaf] at this
              rw [if_neg (fun e => h1 e.symm), if_neg (fun e => sub_ne t xs.length e.symm)] at this
              exact this
            have hey' : VRel (retagG t0 (subT t xs.length) G) w (.sl t2 1 (exact [hv])) (a.eval y) := by
              have := retag_sl (a := t0) (b := subT t xs.length) ht0 hb2 hey
              simp only [retagLeaf] at this
              rw [if_neg h3, if_neg h4] at this
              exact this
            have hrows' : PW (LRel (retagG t0 (subT t xs.length) G) w (root t)) (xs.map (retagRow t0 (subT t xs.length))) vals := ⟨by simpa using hrows.1, fun j q u hq hu => by
              rw [List.getElem?_map] at hq
              cases hj : xs[j]? with
              | none => simp [hj] at hq
              | some q' => simp [hj] at hq; subst hq; exact (retagRow_rel ht0 hb2 (hrl q' (List.mem_of_getElem? hj)) (hrows.2 j q' u hj hu)).2⟩
            have hrl' : ∀ q ∈ xs.map (retagRow t0 (subT t xs.length)), q.rowLike = true := fun q hq => by
              obtain ⟨q', hq', rfl⟩ := List.mem_map.1 hq
              have := hrl q' hq'
              cases q' <;> first | exact this | (simp only [retagRow]; split <;> first | rfl | (split <;> rfl))
            obtain ⟨v', w', G', g1, g2, g3, g4⟩ := soApp_run (ty := o.type) (t2 := t2) hap hrows.1 ht h2 hret.good hex' hey' hrows' hrl' (z := .sl (subT t xs.length) es zs) rfl (fun G' w' he => by
              have := hrowL.but rfl hret.good he
              simp only [killRow] at this
              rw [if_neg (sub_ne t xs.length)] at this
              exact this.2)
            exact .value (v := v') (w' := w') (by simpa [execOp, ho, resolve, invoke, builtin] using (show _ = _ from by simp [g1])) ⟨_, G', hk, by rw [hd]; exact hret.kill h0 g3 g4 (by simpa [St.map] using hdn) g2⟩
          · rename_i t2 z hy
            obtain ⟨hap, ht, h2, hz, hk⟩ := hw
            have hyv := h.ev y
            rw [hy] at hyv
            have hz1 : z.cells = [z] := rowLike_cells hz
            have key : ∀ u, VRel G w (.sl t2 1 [z]) u -> ∃ hv, VRel G w (.sl t2 1 (exact [hv])) u /\ FRel (Stable G) w z hv := by
              intro u hyv
              cases hyv with
              | froz hyv =>
                cases hyv with
                | sl _ _ _ b off c vals' k1 k2 k3 kc k4 k5 k0 k6 k7 =>
                  obtain ⟨hv, rfl⟩ : ∃ hv, vals' = [hv] := by
                    simp only [flat, List.flatMap_cons, List.flatMap_nil, List.append_nil, hz1] at k5
                    cases vals' with
                    | nil => simp at k5
                    | cons q r => cases r with
                      | nil => exact ⟨q, rfl⟩
                      | cons _ _ => simp at k5
                  refine ⟨hv, .froz (.sl _ _ _ b off c [hv] k1 k2 k3 kc (exact_wide _) (by rw [exact_rel (S := Stable G) (w := w).1]) k0 k6 (fun j q u hq hu => (exact_rel (S := Stable G) (w := w)).2 j q u hq hu)), ?_⟩
                  exact k7 0 z hv (by simp [flat, hz1]) rfl
              | own _ _ _ _ e vals' k1 k2 k3 k4 k0 k5 =>
                obtain ⟨hv, rfl⟩ : ∃ hv, vals' = [hv] := by
                  have k6 := k5.1
                  simp only [flat, List.flatMap_cons, List.flatMap_nil, List.append_nil, hz1] at k6
                  cases vals' with
                  | nil => simp at k6
                  | cons q r => cases r with
                    | nil => exact ⟨q, rfl⟩
                    | cons _ _ => simp at k6
                exact ⟨hv, .own _ _ _ _ e [hv] k1 k2 k3 (exact_wide _) k0 exact_rel, k5.2 0 z hv (by simp [flat, hz1]) rfl⟩
            obtain ⟨hv, hey, hfz⟩ := key _ hyv
            obtain ⟨v', w', G', g1, g2, g3, g4⟩ := soApp_run (ty := o.type) (t2 := t2) hap hrows.1 ht h2 h.good hex hey hrows hrl (z := z) hz (fun G' w' he => .froz (hfz.mono (fun b hb => by
              unfold Stable at *
              rw [he.stat b (h.good.lt b (by rw [hb]; simp)) (by rw [hb]; simp)]; exact hb) (fun b hb => he.keep b (h.good.lt b (by unfold Stable at hb; rw [hb]; simp)) (by unfold Stable at hb; rw [hb]; simp))))
            exact .value (v := v') (w' := w') (by simpa [execOp, ho, resolve, invoke, builtin] using (show _ = _ from by simp [g1])) ⟨_, G', hk, by rw [hd]; exact h.kill h0 g3 g4 hdn g2⟩
          · exact hw.elim
        · rename_i t es xs i hx
          obtain ⟨t', r1, r2, ⟨hk1, hk2⟩, _, hr⟩ := evAppendTl_sound hw
          obtain ⟨v, w', G', g1, g2, g3, g4⟩ := hr o.type G w _ _ h.good (by rw [<- hx]; exact h.ev x) (h.ev y)
          rcases g2 with g2 | g2
          · exact .value (v := v) (w' := w') (by simpa [execOp, ho, resolve, invoke, builtin] using (show _ = _ from by simp [g1])) ⟨_, G', hk1, by rw [hd]; exact h.kill h0 g3 g4 hdn g2⟩
          · exact .value (v := v) (w' := w') (by simpa [execOp, ho, resolve, invoke, builtin] using (show _ = _ from by simp [g1])) ⟨_, G', hk2, by rw [hd]; exact h.kill h0 g3 g4 hdn g2⟩
        · exact hnew hw
      · exact hw.elim
    · rename_i args As ho
      split at hw
      · rename_i x y T T' h1 h2
        have h1 := arr_eq h1; have h2 := arr_eq h2; subst h1; subst h2
        obtain ⟨v, w', hr, σ', G', hk, hs⟩ := evCopy_sound ho hd hdn h hw
        exact .value hr ⟨σ', G', hk, hs⟩
      · exact hw.elim
    · obtain ⟨hfree, hop⟩ := hw
      obtain ⟨r, hk, hr⟩ := evOp_sound hop
      by_cases hnf : needsFresh o.op = true
      · obtain ⟨hs, hfr⟩ := h.fresh (hfree hnf) h0
        obtain ⟨v, w', G', g1, g2, g3, g4, g5⟩ := hr o _ _ w a.eval rfl hs.good (fun _ => hfr) hs.boxes (fun x _ => hs.ev x)
        exact .value g1 ⟨_, G', hk, by rw [hd]; exact hs.add g3 g4 g5.boxes (by simpa [dstOk] using hdn) g2⟩
      · obtain ⟨v, w', G', g1, g2, g3, g4, g5⟩ := hr o _ _ w a.eval rfl h.good (fun h => absurd h hnf) h.boxes (fun x _ => h.ev x)
        exact .value g1 ⟨_, G', hk, by rw [hd]; exact h.add g3 g4 g5.boxes (by simpa [dstOk] using hdn) g2⟩
  · rename_i hd
    split at hw
    · rename_i T xa xv ho
      have : ∃ G', SRel G0 w0 (stFrz σ (σ.ev xa) (σ.ev xv)) G' a w := by
        unfold stFrz
        split
        · exact h.frz h0 _
        · split
          · split
            · rename_i hc
              exact ⟨_, h.retag h0 hc.1 (Nat.le_trans (by decide : 2 <= 1048576) (sub_big _ _))⟩
            · exact ⟨G, h⟩
          · exact ⟨G, h⟩
        · exact ⟨G, h⟩
      obtain ⟨G1, h1⟩ := this
      exact evStore_sound ho hd h1 h0 hw
    · rename_i T m x y ho
      exact evMapPut_sound (.inl ho) hd h hw
    · rename_i T m x y ho
      exact evMapPut_sound (.inr ho) hd h hw
    · rename_i args As ho
      split at hw
      · rename_i x T h1 h2
        have h1 := arr_eq h1; have h2 := arr_eq h2; subst h1; subst h2
        obtain ⟨v, w', hr, σ', G', hk, hs⟩ := evClear_sound ho hd h hw
        exact .value hr ⟨σ', G', hk, hs⟩
      · exact hw.elim
    · exact hw.elim
def guardSlot (ops : Array Oper) (j : Nat) : Option Nat := (ops[j]?).bind (·.dst)
def opsA (P : Program) (ops : Array Oper) : List Oper -> St -> (St -> Prop) -> Prop
 | [], σ, K => K σ
 | o :: r, σ, K =>
  match o.guard with
  | none => wpOp P o σ fun σ' => opsA P ops r σ' K
  | some (j, want) =>
   match guardSlot ops j with
   | none => False
   | some g =>
    match σ.get g with
    | .sc (.bool b) => (b = want -> wpOp P o (σ.put (some g) (.sc (.bool want))) fun σ' => opsA P ops r σ' K) /\
      (b = !want -> dstOk σ.n o.dst = true /\ opsA P ops r ((σ.put (some g) (.sc (.bool (!want)))).put o.dst (.sc undef)) K)
    | .sc (.tuple _) => dstOk σ.n o.dst = true /\ opsA P ops r (σ.put o.dst (.sc undef)) K
    | _ => False
theorem SRel.same {G0 w0 σ G a w} (h : SRel G0 w0 σ G a w) {g : Nat} {x : AV} (hx : σ.get g = x) : SRel G0 w0 (σ.put (some g) x) G a w :=
 { h with
  slots := fun s => by
   have : (σ.put (some g) x).get s = σ.get s := by
    simp only [St.put, St.get, lookT_put]
    split
    ·rename_i hs; subst hs; exact hx.symm
    ·rfl
   rw [this]; exact h.slots s
  boxes := by rw [put_boxes]; exact h.boxes
  blt := by rw [put_boxes]; exact h.blt
  size := by rw [put_n]; exact h.size }
theorem yielded_bool {ops : Array Oper} {tmps : Array Value} {j g : Nat} {b : Bool} (hg : guardSlot ops j = some g) (hb : tmps.getD g undef = .bool b) : yielded ops tmps j = some b := by
 unfold yielded
 have hlt : tmps[g]? = some (.bool b) := by
  rw [Array.getD_eq_getD_getElem?] at hb
  cases h : tmps[g]? with
  | none => rw [h] at hb; simp [undef] at hb
  | some v => rw [h] at hb; simp at hb; rw [hb]
 simp only [guardSlot] at hg
 simp [hg, hlt]
theorem yielded_none {ops : Array Oper} {tmps : Array Value} {j g : Nat} {vs : Array Value} (hg : guardSlot ops j = some g) (hb : tmps.getD g undef = .tuple vs) : yielded ops tmps j = none := by
 unfold yielded
 simp only [guardSlot] at hg
 rw [hg]
 rw [Array.getD_eq_getD_getElem?] at hb
 cases h : tmps[g]? with
 | none => simp [h]
 | some v => rw [h] at hb; simp at hb; simp [h, hb]
theorem opsA_sound {ops : Array Oper} {Q : Exit -> Act -> World -> Prop} {K : St -> Prop} {G0 w0} (h0 : True) (hQ : ∀ σ' G' a' w', K σ' -> SRel G0 w0 σ' G' a' w' -> Q .normal a' w') :
  ∀ (l : List Oper) (k : Nat) (σ : St) (G : Nat -> Status) (a : Act) (w : World), (∀ j, l[j]? = ops[k + j]?) -> opsA P ops l σ K -> SRel G0 w0 σ G a w -> Go.wpOps P ops Q ((List.range l.length).map (k + ·)) a w
 | [], k, σ, G, a, w, _, hw, h => by simpa [Go.wpOps] using hQ σ G a w hw h
 | o :: r, k, σ, G, a, w, hl, hw, h => by
  have ho : ops[k]? = some o := by simpa using (hl 0).symm
  have hl' : ∀ j, r[j]? = ops[k + 1 + j]? := fun j => by have := hl (j + 1); simpa [Nat.add_assoc, Nat.add_comm 1 j] using this
  have hrange : (List.range (o :: r).length).map (k + ·) = k :: (List.range r.length).map (k + 1 + ·) := by
   rw [List.length_cons, List.range_succ_eq_map]
   simp [Function.comp_def, Nat.add_assoc, Nat.add_comm 1]
  rw [hrange]
  simp only [Go.wpOps, ho]
  have run : ∀ {σ}, wpOp P o σ (fun σ' => opsA P ops r σ' K) -> SRel G0 w0 σ G a w -> o.wp P a w (Go.wpOps P ops Q ((List.range r.length).map (k + 1 + ·))) Q := fun hw h =>
   wpOp_sound hw h h0 _ _ fun σ' G' a' w' hk hs => opsA_sound h0 hQ r (k + 1) σ' G' a' w' hl' hk hs
  simp only [opsA] at hw
  cases hg : o.guard with
  | none =>
   simp only [hg] at hw
   rw [if_pos (by simp [Region.wanted, hg])]
   exact .inl (run hw h)
  | some p =>
   obtain ⟨j, want⟩ := p
   simp only [hg] at hw
   cases hgs : guardSlot ops j with
   | none => simp [hgs] at hw
   | some g =>
    simp only [hgs] at hw
    split at hw
    ·rename_i b hb
     have hv := h.slots g
     rw [hb] at hv
     have hy := yielded_bool hgs hv.sc_inv
     by_cases hbw : b = want
     ·subst hbw
      rw [if_pos (by simp [Region.wanted, hg, hy])]
      exact .inl (run (hw.1 rfl) (h.same hb))
     ·rw [if_neg (by simp [Region.wanted, hg, hy, hbw])]
      have hbn : b = !want := by cases b <;> cases want <;> simp_all
      obtain ⟨hdst, hw⟩ := hw.2 hbn
      have hs := (h.same (g := g) (x := .sc (.bool (!want))) (by rw [hb, hbn])).add (.refl G w) h.good (fun _ _ h => h) (d := o.dst) (x := .sc undef) (v := undef) (by rw [put_n]; exact hdst) (.froz (.sc _))
      exact opsA_sound h0 hQ r (k + 1) _ G _ w hl' hw hs
    ·rename_i vs hb
     have hv := h.slots g
     rw [hb] at hv
     have hy := yielded_none hgs hv.sc_inv
     rw [if_neg (by simp [Region.wanted, hg, hy])]
     obtain ⟨hdst, hw⟩ := hw
     have hs := h.add (.refl G w) h.good (fun _ _ h => h) (d := o.dst) (x := .sc undef) (v := undef) hdst (.froz (.sc _))
     exact opsA_sound h0 hQ r (k + 1) _ G _ w hl' hw hs
    ·exact hw.elim
end
def leRow (r : Nat) (x y : AV) : Prop := x.rowLike = true /\ (y = x \/ y = .any \/ (x = .nil /\ ∃ t es, 2 <= t /\ root t = r /\ y = .sl t es []))
def rowsLe (r : Nat) (xs ys : List AV) : Prop := xs.length = ys.length /\ ∀ (j : Nat) x y, xs[j]? = some x -> ys[j]? = some y -> leRow r x y
def leV (x y : AV) : Prop := y = x \/ y = .any \/ (x = .nil /\ ∃ t es, y = .sl t es []) \/ (∃ t xs ys, 2 <= t /\ x = .sl t 1 xs /\ y = .so t ys /\ rowsLe (root t) xs ys) \/ (∃ t xs ys, x = .so t xs /\ y = .so t ys /\ rowsLe (root t) xs ys) \/ (x = .nil /\ ∃ t, 2 <= t /\ y = .so t []) \/ (∃ t es xs, 0 < xs.length /\ x = .sl t es xs /\ y = .tl t es xs 0) \/ ∀ (G : Nat -> Status) (w : World) (v : Value), VRel G w x v -> VRel G w y v
theorem leV_refl (x : AV) : leV x x := .inl rfl
theorem leV_any (x : AV) : leV x .any := .inr (.inl rfl)
theorem leV_nil (t es : Nat) : leV .nil (.sl t es []) := .inr (.inr (.inl ⟨rfl, t, es, rfl⟩))
theorem leV_sem {x y : AV} (h : ∀ (G : Nat -> Status) (w : World) (v : Value), VRel G w x v -> VRel G w y v) : leV x y := .inr (.inr (.inr (.inr (.inr (.inr (.inr h))))))
theorem own_nil {G : Nat -> Status} {w : World} {t es : Nat} (ht : 2 <= t) : VRel G w (.sl t es []) (.slice none 0 0) :=
 .own t es [] _ 0 [] ht (World.ownsRow_nil _ _ _ _) (fun b hb => by simp [Value.ownBlock] at hb) (by simp) (fun _ h => by simp at h) (.nil _)
theorem LRel.le {G : Nat -> Status} {w : World} {r : Nat} {x y : AV} {v : Value} (h : LRel G w r x v) (hl : leRow r x y) : LRel G w r y v /\ y.rowLike = true := by
 obtain ⟨hx, rfl | rfl | ⟨rfl, t, es, ht, hr, rfl⟩⟩ := hl
 ·exact ⟨h, hx⟩
 ·exact ⟨.froz (.any _), rfl⟩
 ·have := h.val.nil_inv; subst this
  exact ⟨(own_nil ht).toL rfl (fun _ _ _ e _ => by cases e; exact hr), rfl⟩
theorem rows_le {G : Nat -> Status} {w : World} {r : Nat} {xs ys : List AV} {vals : List Value} (h : PW (LRel G w r) xs vals) (hl : rowsLe r xs ys) : PW (LRel G w r) ys vals /\ ∀ y ∈ ys, y.rowLike = true := by
 have key : ∀ (j : Nat) y u, ys[j]? = some y -> vals[j]? = some u -> LRel G w r y u /\ y.rowLike = true := fun j y u hy hu => by
  have hjl : j < xs.length := by rw [hl.1]; exact (List.getElem?_eq_some_iff.1 hy).1
  have hx := List.getElem?_eq_getElem hjl
  exact (h.2 j _ u hx hu).le (hl.2 j _ y hx hy)
 refine ⟨⟨by rw [<- hl.1]; exact h.1, fun j y u hy hu => (key j y u hy hu).1⟩, fun y hy => ?_⟩
 obtain ⟨j, hj⟩ := List.getElem?_of_mem hy
 have hjl : j < vals.length := by rw [<- h.1, hl.1]; exact (List.getElem?_eq_some_iff.1 hj).1
 exact (key j y _ hj (List.getElem?_eq_getElem hjl)).2
theorem VRel.le {G : Nat -> Status} {w : World} {x y : AV} {v : Value} (h : VRel G w x v) (hl : leV x y) : VRel G w y v := by
 rcases hl with rfl | rfl | ⟨rfl, t, es, rfl⟩ | ⟨t, xs, ys, ht, rfl, rfl, hr⟩ | ⟨t, xs, ys, rfl, rfl, hr⟩ | ⟨rfl, t, ht, rfl⟩ | ⟨t, es, xs, hx, rfl, rfl⟩ | hsem
 ·exact h
 ·exact .froz (.any _)
 ·have := h.nil_inv; subst this
  by_cases ht : t < 2
  ·exact .froz (.slNil t es none 0 ht (by simp) (by simp))
  ·exact own_nil (by omega)
 ·cases h with
  | froz h => have := h.sl_lt; omega
  | own _ _ _ _ e vals h1 h2 h3 h4 h0 h5 =>
   have hxr : ∀ x ∈ xs, x.rowLike = true := by
    intro x hx
    obtain ⟨j, hj⟩ := List.getElem?_of_mem hx
    have hjl : j < ys.length := by rw [<- hr.1]; exact (List.getElem?_eq_some_iff.1 hj).1
    exact (hr.2 j x _ hj (List.getElem?_eq_getElem hjl)).1
   rw [rowLike_flat hxr] at h5
   obtain ⟨k1, k2⟩ := rows_le (r := root t) (h5.mono fun _ _ _ hr => LRel.froz hr) hr
   exact .so t ys v e vals h1 (by rw [<- hr.1]; exact h2) h3 k2 h0 k1
 ·cases h with
  | froz h => cases h
  | so _ _ _ e vals h1 h2 h3 h4 h0 h5 =>
   obtain ⟨k1, k2⟩ := rows_le h5 hr
   exact .so t ys v e vals h1 (by rw [<- hr.1]; exact h2) h3 k2 h0 k1
 ·have := h.nil_inv; subst this
  exact .so t [] _ 0 [] ht (World.ownsRow_nil _ _ _ _) (fun b hb => by simp [Value.ownBlock] at hb) (by simp) (fun _ h => by simp at h) (.nil _)
 ·obtain ⟨ao, c, rfl, _, h2, h3, _⟩ := h.sl_inv
  cases ao with
  | none => have := (h2 rfl).2; subst this; simp at hx
  | some a =>
   have h' := h
   rcases h.sl_inv with ⟨ao', c', hv, _, _, _, h4 | ⟨b, off, vals, hv2, _⟩⟩
   ·subst h4; simp at hx
   ·cases hv; cases hv2
    have := VRel.tl t es xs 0 b off off c h' (Nat.zero_le _) (.inl (by omega))
    simpa using this
 ·exact hsem G w v h
def leT (l : List (Nat × AV)) : List (Nat × AV) -> Prop
 | [] => True
 | (k, y) :: r => leV (lookT l k) y /\ leT l r
def leC : List AV -> List AV -> Prop
 | [], [] => True
 | x :: xs, y :: ys => leV x y /\ leC xs ys
 | _, _ => False
def leB : List (List AV) -> List (List AV) -> Prop
 | [], [] => True
 | x :: xs, y :: ys => leC x y /\ leB xs ys
 | _, _ => False
def St.le (σ τ : St) : Prop := τ.n = σ.n /\ leT σ.tmps τ.tmps /\ leB σ.boxes τ.boxes
theorem leT_look {l : List (Nat × AV)} : ∀ {m : List (Nat × AV)}, leT l m -> ∀ s, leV (lookT l s) (lookT m s)
 | [], _, s => leV_any _
 | (k, y) :: r, h, s => by
  simp only [lookT]
  by_cases hk : k = s
  ·subst hk; rw [if_pos rfl]; exact h.1
  ·rw [if_neg hk]; exact leT_look h.2 s
theorem leC_pw {G : Nat -> Status} {w : World} : ∀ {xs ys : List AV} {vs : List Value}, leC xs ys -> PW (VRel G w) xs vs -> PW (VRel G w) ys vs
 | [], [], vs, _, h => h
 | x :: xs, y :: ys, vs, hl, h => by
  obtain ⟨v, vs', rfl, h1, h2⟩ := h.cons_inv
  exact .cons (h1.le hl.1) (leC_pw hl.2 h2)
 | [], _ :: _, _, hl, _ => hl.elim
 | _ :: _, [], _, hl, _ => hl.elim
theorem leB_get : ∀ {xs ys : List (List AV)}, leB xs ys -> ∀ (i : Nat) cs, ys[i]? = some cs -> ∃ cs', xs[i]? = some cs' /\ leC cs' cs
 | [], [], _, i, cs, h => by simp at h
 | x :: xs, y :: ys, hl, i, cs, h => by
  cases i with
  | zero => simp at h; subst h; exact ⟨x, rfl, hl.1⟩
  | succ i => obtain ⟨cs', h1, h2⟩ := leB_get hl.2 i cs (by simpa using h); exact ⟨cs', by simpa using h1, h2⟩
 | [], _ :: _, hl, _, _, _ => hl.elim
 | _ :: _, [], hl, _, _, _ => hl.elim
theorem leB_length : ∀ {xs ys : List (List AV)}, leB xs ys -> ys.length = xs.length
 | [], [], _ => rfl
 | x :: xs, y :: ys, hl => by simp [leB_length hl.2]
 | [], _ :: _, hl => hl.elim
 | _ :: _, [], hl => hl.elim
theorem leC_all {G : Nat -> Status} {w : World} : ∀ {xs ys : List AV}, leC xs ys -> (∀ x ∈ xs, ∀ v, VRel G w x v) -> ∀ y ∈ ys, ∀ v, VRel G w y v
 | [], [], _, _, y, hy, _ => by simp at hy
 | [], _ :: _, h, _, _, _, _ => by simp [leC] at h
 | _ :: _, [], _, _, y, hy, _ => by simp at hy
 | x :: xs, y :: ys, h, hx, z, hz, v => by
  simp only [leC] at h
  rcases List.mem_cons.1 hz with rfl | hz
  ·exact (hx x (by simp) v).le h.1
  ·exact leC_all h.2 (fun x' h' => hx x' (by simp [h'])) z hz v
theorem SRel.le {G0 w0 σ τ G a w} (h : SRel G0 w0 σ G a w) (hl : σ.le τ) : SRel G0 w0 τ G a w :=
 { h with
  slots := fun s => (h.slots s).le (leT_look hl.2.1 s)
  boxes := ⟨fun i vs hv => by rw [leB_length hl.2.2]; exact h.boxes.low i vs hv, fun i cs hi => by
   obtain ⟨cs', h1, h2⟩ := leB_get hl.2.2 i cs hi
   rcases h.boxes.cell i cs' h1 with ⟨g0, b, vals, ty, g1, g2, g3, g4⟩ | ⟨g1, vs, g2, g3⟩ | ⟨g0, g1, g2⟩
   ·exact .inl ⟨g0, b, vals, ty, g1, g2, g3, leC_pw h2 g4⟩
   ·exact .inr (.inl ⟨g1, vs, g2, leC_pw h2 g3⟩)
   ·exact .inr (.inr ⟨g0, g1, leC_all h2 g2⟩)⟩
  blt := fun b i hb => by rw [leB_length hl.2.2]; exact h.blt b i hb
  size := by rw [hl.1]; exact h.size }
section
variable {P : Program}
def thenA (next : St -> Prop) (Q : Exit -> St -> Prop) : Exit -> St -> Prop
 | .normal, σ => next σ
 | e, σ => Q e σ
def blockA (id : Nat) (Q : Exit -> St -> Prop) : Exit -> St -> Prop
 | .exit id', σ => if id' = id then Q .normal σ else Q (.exit id') σ
 | e, σ => Q e σ
def DrawK (P : Program) (ops : Array Oper) (σ : St) (K : St -> Prop) : Prop :=
 ∀ (G0 : Orig) (w0 : World) (G : Nat -> Status) (a : Act) (w : World) (id : Nat) (Q : Exit -> Act -> World -> Prop), True -> SRel G0 w0 σ G a w -> (∀ σ' G' a' w', K σ' -> SRel G0 w0 σ' G' a' w' -> Q .normal a' w') -> (Code.region id ops true).wp P Q a w
def Turn (σ τ : St) : Prop := ∀ (G0 : Orig) (w0 : World) (G : Nat -> Status) (a : Act) (w : World), SRel G0 w0 σ G a w -> ∃ G', SRel G0 w0 τ G' a w
def roundK {α : Type} (st : α -> St) (m : α -> Nat) (inv : α -> Prop) (x : α) (σ : St) : Prop :=
 ∃ x', inv x' /\ m x' < m x /\ (σ.le (st x') \/ (∃ p, (σ.map (freezeLeaf p)).le (st x')) \/ (∃ a b, 2 <= a /\ 2 <= b /\ (σ.map (retagLeaf a b)).le (st x')) \/ (∃ a b, 2 <= a /\ 2 <= b /\ b < 1048576 /\ (σ.map (mvLeaf a b)).le (st x')) \/ Turn σ (st x'))
def LoopK (body : (Exit -> St -> Prop) -> St -> Prop) (Q : Exit -> St -> Prop) (σ : St) : Prop :=
 ∃ (α : Type) (st : α -> St) (m : α -> Nat) (inv : α -> Prop) (x0 : α), inv x0 /\ (σ.le (st x0) \/ (∃ p, (σ.map (freezeLeaf p)).le (st x0)) \/ (∃ a b, 2 <= a /\ 2 <= b /\ (σ.map (retagLeaf a b)).le (st x0)) \/ Turn σ (st x0)) /\
  ∀ x, inv x -> body (thenA (roundK st m inv x) Q) (st x)
theorem LoopK.intro {α : Type} {body : (Exit -> St -> Prop) -> St -> Prop} {Q : Exit -> St -> Prop} {σ : St} (st : α -> St) (m : α -> Nat) (inv : α -> Prop) (x0 : α) (h0 : inv x0) (hle : σ.le (st x0))
  (round : ∀ x, inv x -> body (thenA (roundK st m inv x) Q) (st x)) : LoopK body Q σ :=
 ⟨α, st, m, inv, x0, h0, .inl hle, round⟩
theorem roundK.intro {α : Type} {st : α -> St} {m : α -> Nat} {inv : α -> Prop} {x : α} {σ : St} (x' : α) (h1 : inv x') (h2 : m x' < m x) (h3 : σ.le (st x')) : roundK st m inv x σ := ⟨x', h1, h2, .inl h3⟩
theorem roundK.freeze {α : Type} {st : α -> St} {m : α -> Nat} {inv : α -> Prop} {x : α} {σ : St} (p : Nat -> Bool) (x' : α) (h1 : inv x') (h2 : m x' < m x) (h3 : (σ.map (freezeLeaf p)).le (st x')) : roundK st m inv x σ := ⟨x', h1, h2, .inr (.inl ⟨p, h3⟩)⟩
theorem roundK.mv {α : Type} {st : α -> St} {m : α -> Nat} {inv : α -> Prop} {x : α} {σ : St} (a b : Nat) (ha : 2 <= a) (hb : 2 <= b) (hb2 : b < 1048576) (x' : α) (h1 : inv x') (h2 : m x' < m x) (h3 : (σ.map (mvLeaf a b)).le (st x')) : roundK st m inv x σ := ⟨x', h1, h2, .inr (.inr (.inr (.inl ⟨a, b, ha, hb, hb2, h3⟩)))⟩
def OutRel (P : Program) (G0 : Orig) (w0 : World) (σ : St) (a : Act) (w : World) : Prop :=
 ∃ (D : Nat) (w' : World) (G' : Nat -> Status), a.defers = [{ target := .collected D, args := #[] }] /\ (Instr.takeDeferred D).run P w = .ok [] w' /\ SRel G0 w0 σ G' { a with defers := [] } w'
def ERel (P : Program) (G0 : Orig) (w0 : World) (e : Exit) (σ : St) (a : Act) (w : World) : Prop := (∃ G', SRel G0 w0 σ G' a w) \/ (e = .ret /\ OutRel P G0 w0 σ a w)
def RangeK (P : Program) (g : Operand) (ps : Array Tmp) (x y : Code) (Q : Exit -> St -> Prop) (σ : St) : Prop :=
 ∀ (G0 : Orig) (w0 : World) (G : Nat -> Status) (a : Act) (w : World), SRel G0 w0 σ G a w -> (Code.rangeFunc g ps x y).wp P (fun e a' w' => e = .ret /\ ∃ σ', Q .ret σ' /\ OutRel P G0 w0 σ' a' w') a w
def ScopeK (P : Program) (c : Code) (Q : Exit -> St -> Prop) (σ : St) : Prop :=
 ∀ (G0 : Orig) (w0 : World) (G : Nat -> Status) (a : Act) (w : World), SRel G0 w0 σ G a w -> (Code.scope c).wp P (fun e a' w' => ∃ σ', Q e σ' /\ ERel P G0 w0 e σ' a' w') a w
def wpA (P : Program) : Code -> (Exit -> St -> Prop) -> St -> Prop
 | .skip, Q, σ => Q .normal σ
 | .label _, Q, σ => Q .normal σ
 | .region _ ops draw, Q, σ => if draw = true then DrawK P ops σ (Q .normal) else opsA P ops ops.toList σ (Q .normal)
 | .seq x y, Q, σ => wpA P x (thenA (wpA P y Q) Q) σ
 | .cond c x y, Q, σ => match σ.ev c with
  | .sc (.bool b) => (b = true -> wpA P x Q σ) /\ (b = false -> wpA P y Q σ)
  | .ub => wpA P x Q σ /\ wpA P y Q σ
  | _ => False
 | .block id c, Q, σ => wpA P c (blockA id Q) σ
 | .loop c, Q, σ => LoopK (wpA P c) Q σ
 | .exit id, Q, σ => Q (.exit id) σ
 | .ret, Q, σ => Q .ret σ
 | .scope c, Q, σ => ScopeK P c Q σ
 | .goto l, Q, σ => Q (.goto l) σ
 | .rangeFunc g ps x y, Q, σ => RangeK P g ps x y Q σ
 | _, _, _ => False
theorem wpA_sound {G0 : Orig} {w0 : World} (h0 : True) : ∀ (c : Code) (Q : Exit -> St -> Prop) (σ : St) (G : Nat -> Status) (a : Act) (w : World), wpA P c Q σ -> SRel G0 w0 σ G a w ->
  c.wp P (fun e a' w' => ∃ σ', Q e σ' /\ ERel P G0 w0 e σ' a' w') a w
 | .skip, Q, σ, G, a, w, hw, h => wp_skip ⟨σ, hw, .inl ⟨G, h⟩⟩
 | .label _, Q, σ, G, a, w, hw, h => wp_label ⟨σ, hw, .inl ⟨G, h⟩⟩
 | .region id ops draw, Q, σ, G, a, w, hw, h => by
  simp only [wpA] at hw
  cases draw with
  | false =>
   simp only [Bool.false_eq_true, if_false] at hw
   refine wp_region ?_
   have := opsA_sound (Q := fun e a' w' => ∃ σ', Q e σ' /\ ERel P G0 w0 e σ' a' w') h0 (fun σ' G' a' w' hk hs => ⟨σ', hk, .inl ⟨G', hs⟩⟩) ops.toList 0 σ G a w (by simp) hw h
   simpa using this
  | true =>
   simp only [if_true] at hw
   exact hw G0 w0 G a w id _ h0 h fun σ' G' a' w' hk hs => ⟨σ', hk, .inl ⟨G', hs⟩⟩
 | .seq x y, Q, σ, G, a, w, hw, h => by
  refine wp_seq (wp_mono (wpA_sound h0 x _ σ G a w hw h) ?_)
  rintro e a' w' ⟨σ', hk, hs⟩
  cases e with
  | normal =>
   rcases hs with ⟨G', hs⟩ | ⟨he, _⟩
   ·exact wpA_sound h0 y Q σ' G' a' w' hk hs
   ·cases he
  | _ => exact ⟨σ', hk, hs⟩
 | .cond c x y, Q, σ, G, a, w, hw, h => by
  simp only [wpA] at hw
  have hc := h.ev c
  split at hw
  ·rename_i b hb
   rw [hb] at hc
   exact wp_cond_split hc.sc_inv (fun hb => wpA_sound h0 x Q σ G a w (hw.1 hb) h) (fun hb => wpA_sound h0 y Q σ G a w (hw.2 hb) h)
  ·rename_i hb
   rw [hb] at hc
   obtain ⟨b, hb⟩ := hc.ub_inv
   exact wp_cond_split hb (fun _ => wpA_sound h0 x Q σ G a w hw.1 h) (fun _ => wpA_sound h0 y Q σ G a w hw.2 h)
  ·exact hw.elim
 | .block id c, Q, σ, G, a, w, hw, h => by
  refine wp_block (wp_mono (wpA_sound h0 c _ σ G a w hw h) ?_)
  rintro e a' w' ⟨σ', hk, hs⟩
  cases e with
  | exit id' =>
   rcases hs with ⟨G', hs⟩ | ⟨he, _⟩
   ·simp only [blockA] at hk
    simp only [Exit.inBlock]
    split
    ·rename_i hid; rw [if_pos hid] at hk; exact ⟨σ', hk, .inl ⟨G', hs⟩⟩
    ·rename_i hid; rw [if_neg hid] at hk; exact ⟨σ', hk, .inl ⟨G', hs⟩⟩
   ·cases he
  | _ => exact ⟨σ', hk, hs⟩
 | .loop c, Q, σ, G, a, w, hw, h => by
  obtain ⟨α, st, m, inv, x0, hI, hle, hround⟩ := hw
  refine wp_loop_ghost (fun k a w => ∃ x G, inv x /\ m x = k /\ SRel G0 w0 (st x) G a w) (m x0) (by rcases hle with hle | ⟨p, hle⟩ | ⟨a, b, ha, hb, hle⟩ | hle; exact ⟨x0, G, hI, rfl, h.le hle⟩; exact ⟨x0, _, hI, rfl, (h.freeze h0 p).le hle⟩; exact ⟨x0, _, hI, rfl, (h.retag h0 ha hb).le hle⟩; obtain ⟨G', hs'⟩ := hle _ _ _ _ _ h; exact ⟨x0, G', hI, rfl, hs'⟩) ?_
  rintro k a w ⟨x, G1, hI1, rfl, h1⟩
  refine wp_mono (wpA_sound h0 c _ (st x) G1 a w (hround x hI1) h1) ?_
  rintro e a' w' ⟨σ', hk, hs⟩
  cases e with
  | normal =>
   rcases hs with ⟨G', hs⟩ | ⟨he, _⟩
   rotate_left
   ·cases he
   obtain ⟨x', hI3, hlt, hle⟩ := hk
   rcases hle with hle | ⟨p, hle⟩ | ⟨a, b, ha, hb, hle⟩ | ⟨a, b, ha, hb, hb2, hle⟩ | hle
   ·exact ⟨_, hlt, x', G', hI3, rfl, hs.le hle⟩
   ·exact ⟨_, hlt, x', _, hI3, rfl, (hs.freeze h0 p).le hle⟩
   ·exact ⟨_, hlt, x', _, hI3, rfl, (hs.retag h0 ha hb).le hle⟩
   ·exact ⟨_, hlt, x', _, hI3, rfl, (hs.mv h0 ha hb hb2).le hle⟩
   ·obtain ⟨G2, hs2⟩ := hle _ _ _ _ _ hs; exact ⟨_, hlt, x', G2, hI3, rfl, hs2⟩
  | _ => exact ⟨σ', hk, hs⟩
 | .exit id, Q, σ, G, a, w, hw, h => wp_exit ⟨σ, hw, .inl ⟨G, h⟩⟩
 | .ret, Q, σ, G, a, w, hw, h => wp_ret ⟨σ, hw, .inl ⟨G, h⟩⟩
 | .rangeFunc .., Q, σ, G, a, w, hw, h => wp_mono (hw G0 w0 G a w h) fun e a' w' ⟨he, σ', hq, hf⟩ => ⟨σ', he ▸ hq, .inr ⟨he, hf⟩⟩
 | .scope _, Q, σ, G, a, w, hw, h => hw G0 w0 G a w h
 | .goto _, Q, σ, G, a, w, hw, h => wp_goto ⟨σ, hw, .inl ⟨G, h⟩⟩
 | .refuse _, Q, σ, G, a, w, hw, h => hw.elim
def jumpA (l : Nat) (J : St -> Prop) (Q : Exit -> St -> Prop) : Exit -> St -> Prop
 | .goto l', σ => l' = l /\ J σ
 | e, σ => Q e σ
def upA (J : St -> Prop) (Q : Exit -> St -> Prop) : Exit -> St -> Prop
 | .normal, σ => J σ
 | .goto _, _ => False
 | e, σ => Q e σ
def jumpK {α : Type} (st : α -> St) (m : α -> Nat) (inv : α -> Prop) (x : α) (σ : St) : Prop := ∃ x', inv x' /\ m x' < m x /\ Turn σ (st x')
def fromK {α : Type} (st : α -> St) (inv : α -> Prop) (σ : St) : Prop := ∃ x, inv x /\ Turn σ (st x)
def argT : Nat -> List AV -> List (Nat × AV)
 | _, [] => []
 | k, x :: r => (k, x) :: argT (k + 1) r
theorem argT_look : ∀ (l : List AV) (k s : Nat), lookT (argT k l) s = if k <= s then (l[s - k]?).getD .any else .any
 | [], k, s => by simp [argT, lookT]
 | x :: r, k, s => by
  simp only [argT, lookT]
  by_cases hk : k = s
  ·subst hk; simp
  ·rw [if_neg hk, argT_look r (k + 1) s]
   by_cases hks : k <= s
   ·rw [if_pos hks, if_pos (by omega), show s - k = (s - (k + 1)) + 1 by omega]; simp
   ·rw [if_neg hks, if_neg (by omega)]
def resK (P : Program) (σ : St) : List ResultVar -> (List AV -> Prop) -> Prop
 | [], K => K []
 | .tmp t :: r, K => resK P σ r fun l => K (σ.get t :: l)
 | .cell a T :: r, K => evLoad P σ.boxes T (σ.get a) fun x => resK P σ r fun l => K (x :: l)
def tupA : List AV -> AV
 | [x] => x
 | l => .tup l
def endK (P : Program) (rs : List ResultVar) (m : Nat) (post : AV -> List (List AV) -> Prop) (σ : St) : Prop :=
 resK P σ rs fun l => m <= σ.boxes.length /\ (tupA l).allLeaf (pbLt m) = true /\ (tupA l).tags.length < 1000 /\ ((σ.boxes.take m).all fun cs => cs.all fun x => x.allLeaf fun y => noTag y && pbLt m y) = true /\ post (tupA l).canon (σ.boxes.take m)
def endQ (P : Program) (rs : List ResultVar) (m : Nat) (post : AV -> List (List AV) -> Prop) : Exit -> St -> Prop
 | .normal, σ => endK P rs m post σ
 | .ret, σ => endK P rs m post σ
 | _, _ => False
mutual
theorem ren_id (ts : List Nat) (m : Nat) : ∀ x : AV, x.allLeaf (fun y => noTag y && pbLt m y) = true -> x.mapTop (renLeaf ts) = x /\ x.allLeaf (fun y => tagsIn ts y && pbLt m y) = true
 | .ag cs, h => by
  simp only [AV.allLeaf] at h
  have := rens_id ts m cs h
  simp only [AV.mapTop, this.1, AV.allLeaf, this.2, and_self]
 | .tup cs, h => by
  simp only [AV.allLeaf] at h
  have := rens_id ts m cs h
  simp only [AV.mapTop, this.1, AV.allLeaf, this.2, and_self]
 | .sl t es xs, h => by
  simp only [AV.allLeaf, noTag, pbLt, Bool.and_true, decide_eq_true_eq] at h
  simp only [AV.mapTop, renLeaf, AV.allLeaf, tagsIn, pbLt, Bool.and_true]
  rw [if_neg (by omega)]; simp [h]
 | .pe t es xs i o, h => by
  simp only [AV.allLeaf, noTag, pbLt, Bool.and_true, decide_eq_true_eq] at h
  simp only [AV.mapTop, renLeaf, AV.allLeaf, tagsIn, pbLt, Bool.and_true]
  rw [if_neg (by omega)]; simp [h]
 | .pb i o, h => by simpa [AV.allLeaf, noTag, pbLt, AV.mapTop, renLeaf, tagsIn] using h
 | .any, _ => by simp [AV.mapTop, renLeaf, AV.allLeaf, tagsIn, pbLt]
 | .nil, _ => by simp [AV.mapTop, renLeaf, AV.allLeaf, tagsIn, pbLt]
 | .ub, _ => by simp [AV.mapTop, renLeaf, AV.allLeaf, tagsIn, pbLt]
 | .sc _, _ => by simp [AV.mapTop, renLeaf, AV.allLeaf, tagsIn, pbLt]
 | .fn _ _, _ => by simp [AV.mapTop, renLeaf, AV.allLeaf, tagsIn, pbLt]
 | .fp _ _, _ => by simp [AV.mapTop, renLeaf, AV.allLeaf, tagsIn, pbLt]
 | .mp _ _ _ _ _, h => by simp [AV.allLeaf, noTag] at h
 | .cl _ _, h => by simp [AV.allLeaf, noTag] at h
 | .tl _ _ _ _, h => by simp [AV.allLeaf, noTag] at h
 | .so _ _, h => by simp [AV.allLeaf, noTag] at h
 | .po _ _ _, h => by simp [AV.allLeaf, noTag] at h
theorem rens_id (ts : List Nat) (m : Nat) : ∀ cs : List AV, allLeafs (fun y => noTag y && pbLt m y) cs = true -> mapTops (renLeaf ts) cs = cs /\ allLeafs (fun y => tagsIn ts y && pbLt m y) cs = true
 | [], _ => ⟨rfl, rfl⟩
 | x :: r, h => by
  simp only [allLeafs, Bool.and_eq_true] at h
  have h1 := ren_id ts m x (by simpa using h.1)
  have h2 := rens_id ts m r (by simpa using h.2)
  simp only [mapTops, h1.1, h2.1, allLeafs, h1.2, h2.2, Bool.and_self, and_self]
end
def readVar (tmps : Array Value) : ResultVar -> Sem Value
 | .tmp t => pure (tmps.getD t undef)
 | .cell x T => do loadVar T (<- asAddr (tmps.getD x undef))
theorem run_results {σ : St} {G0 w0 G a w} (h : SRel G0 w0 σ G a w) : ∀ (rs : List ResultVar) (K : List AV -> Prop), resK P σ rs K ->
  ∃ l vs, K l /\ PW (VRel G w) l vs /\ (rs.mapM (readVar a.tmps)).run P w = .ok vs w
 | [], K, hk => ⟨[], [], hk, .nil _, by simp⟩
 | .tmp t :: r, K, hk => by
  obtain ⟨l, vs, h1, h2, h3⟩ := run_results h r _ hk
  exact ⟨_, _, h1, .cons (h.slots t) h2, by simp [List.mapM_cons, readVar, h3]⟩
 | .cell x T :: r, K, hk => by
  obtain ⟨y, hy, hl⟩ := evLoad_reads (P := P) (T := T) hk
  obtain ⟨l, vs, h1, h2, h3⟩ := run_results h r _ hy
  obtain ⟨u, g1, g2⟩ := hl _ G w _ h.good h.boxes (h.slots x)
  refine ⟨_, _, h1, .cons g2 h2, ?_⟩
  have hl' : (readVar a.tmps (.cell x T)).run P w = .ok u w := by
   simp only [Instr.loadAt, Sem.run_bind] at g1
   simp only [readVar, Sem.run_bind]
   cases hv : a.tmps.getD x undef with
   | pointer p =>
    cases p with
    | none => rw [hv] at g1; simp [Instr.sureAddr, stuck] at g1
    | some p => rw [hv] at g1; simpa [asAddr, Instr.sureAddr] using g1
   | _ => rw [hv] at g1; simp [Instr.sureAddr, stuck] at g1
  simp [List.mapM_cons, hl', h3]
theorem end_sound {fn : Func} {rs : List ResultVar} (hrs : fn.results = rs.toArray) {bx : List (List AV)} {post : AV -> List (List AV) -> Prop} {σ : St} {G0 w0 G a w} (_h0 : True) (hb0 : ∀ b i, G0 b = .box i -> i < bx.length) (h : SRel G0 w0 σ G a w)
  {m : Nat} (hm1 : bx.length <= m) (hq : endK P rs m post σ) (hgh : ∀ i vs, G0.gh i = some vs -> i < m) :
  ∃ v, (results fn a.tmps).run P w = .ok v w /\ ∃ r bx' G', post r bx' /\ VRel G' w r v /\ Good G' w /\ BRel G0.gh G' w bx' /\ (∀ b i, G' b = .box i -> i < bx'.length) /\ (∀ b, b < w0.heap.size -> (∀ t, G0 b ≠ .tag t) -> G' b = G0 b) /\ bx'.length <= m := by
 obtain ⟨l, vs, ⟨hm2, hpb, htl, hbx, hpost⟩, hpw, hrun⟩ := run_results h rs _ hq
 have hrun' : (fn.results.mapM (readVar a.tmps)).run P w = .ok vs.toArray w := by
  have : fn.results = rs.toArray := hrs
  rw [this, List.mapM_toArray]
  simp [hrun]
 have hv : ∃ v, (results fn a.tmps).run P w = .ok v w /\ VRel G w (tupA l) v := by
  have hres : ∀ v, v = (if h : vs.toArray.size = 1 then vs.toArray[0] else .tuple vs.toArray) -> (results fn a.tmps).run P w = .ok v w := by
   intro v hv
   subst hv
   have e : results fn a.tmps = (do let vs <- fn.results.mapM (readVar a.tmps); pure (if h : vs.size = 1 then vs[0] else .tuple vs)) := by
    unfold results
    congr 1
   rw [e]
   simp [hrun']
  cases l with
  | nil =>
   have := hpw.nil_inv; subst this
   exact ⟨.tuple #[], hres _ (by simp), .tup [] #[] rfl (by simp)⟩
  | cons x l =>
   obtain ⟨v, vs', rfl, h1, h2⟩ := hpw.cons_inv
   cases l with
   | nil =>
    have := h2.nil_inv; subst this
    exact ⟨v, hres _ (by simp), h1⟩
   | cons y l =>
    obtain ⟨v', vs'', rfl, h3, h4⟩ := h2.cons_inv
    exact ⟨.tuple (v :: v' :: vs'').toArray, hres _ (by simp), .tup _ _ (by simpa using hpw.1) (by simpa using hpw.2)⟩
 obtain ⟨v, hres, hr⟩ := hv
 refine ⟨v, hres, (tupA l).canon, σ.boxes.take m, endG (tupA l).tags m G, hpost, ?_, h.good.endG htl, ?_, ?_, ?_, by rw [List.length_take]; omega⟩
 ·exact hr.endG (allLeaf_and _ _ _ (tags_in _ _ fun _ h => h) hpb)
 ·refine ⟨fun i vs hv => by have := h.boxes.low i vs hv; have := hgh i vs hv; rw [List.length_take]; omega, fun i cs hi => ?_⟩
  have hi' : σ.boxes[i]? = some cs /\ i < m := by
   rw [List.getElem?_take] at hi
   split at hi
   ·exact ⟨hi, by assumption⟩
   ·cases hi
  refine (h.boxes.cell i cs hi'.1).turn rfl (fun j x y u hx hy hr => ?_) (fun b g1 => ⟨by simp [endG, g1, hi'.2], rfl⟩) fun h0 b hb => h0 b ?_
  ·rw [hx] at hy; cases hy
   have hcs := List.all_eq_true.1 hbx cs (List.mem_of_getElem? hi)
   have hxq := List.all_eq_true.1 hcs x (List.mem_of_getElem? hx)
   have := ren_id (tupA l).tags m x hxq
   have h2 := hr.endG (ts := (tupA l).tags) (m := m) this.2
   rw [this.1] at h2; exact h2
  ·unfold endG at hb
   split at hb <;> try (cases hb; done)
   ·split at hb <;> cases hb
   ·rename_i hg; split at hb
    ·cases hb; exact hg
    ·cases hb
 ·intro b i hb
  unfold endG at hb
  split at hb <;> try (cases hb; done)
  ·split at hb <;> cases hb
  ·split at hb
   ·rename_i hlt; cases hb; simp; omega
   ·cases hb
 ·intro b hb hnt
  have := h.stat b hb hnt
  unfold endG
  rw [this]
  cases hg : G0 b with
  | stable => rfl
  | junk => rfl
  | tag t => exact absurd hg (hnt t)
  | box i => have := hb0 b i hg; simp; omega
theorem calls_of_wpE {f : FuncId} {fn : Func} {c : Code} {vs : Array Value} {w w1 : World} {R : Ending -> World -> Prop} {G0 : Orig} {Q : Exit -> St -> Prop} (hf : P.funcs[f]? = some fn) (hb : fn.body = some c)
  (h : c.wp P (fun e a' w' => ∃ σ', Q e σ' /\ ERel P G0 w1 e σ' a' w') { tmps := vs ++ Array.replicate (fn.ntmps - vs.size) undef, defers := [] } w)
  (hend : ∀ e a' w' σ' G', Q e σ' -> SRel G0 w1 σ' G' a' w' -> bodyPost P fn R e a' w') : Calls P f vs w R := by
 refine (callsIn_wide (n := 3)).1 (callsIn_of_wp_marks hf hb trivial (wpIn_wide.2 (wp_mono h ?_)) rfl)
 rintro e a' w' ⟨σ', hq, ⟨G', hs⟩ | ⟨rfl, D, w2, G', hd, htk, hs⟩⟩
 ·have hp := hend e a' w' σ' G' hq hs
  cases e with
  | normal =>
   show LeavesInM _ _ P fn a'.tmps R a'.defers .returning w'
   rw [hp.1]
   exact hp.2
  | ret =>
   show LeavesInM _ _ P fn a'.tmps R a'.defers .returning w'
   rw [hp.1]
   exact hp.2
  | panic ch =>
   show LeavesInM _ _ P fn a'.tmps R a'.defers (.panicking ch) w'
   rw [hp.1]
   exact hp.2
  | outgrown => exact hp
  | exit id => exact hp.elim
  | goto l => exact hp.elim
 ·have hp := hend .ret _ _ σ' G' hq hs
  show LeavesInM _ _ P fn a'.tmps R a'.defers .returning w'
  rw [hd]
  exact ⟨by simp, .inl ⟨D, w2, rfl, htk, hp.2⟩⟩
theorem Con.intro {f : FuncId} {fn : Func} {c : Code} {rs : List ResultVar} {n : Nat} {args : List AV} {bx : List (List AV)} {post : AV -> List (List AV) -> Prop} (hf : P.funcs[f]? = some fn) (hb : fn.body = some c) (hn : fn.ntmps = n) (hrs : fn.results = rs.toArray)
  (hname : (fn.name == "runtime.NumGoroutine") = false) (hargs : args.length <= n) (m : Nat) (hm : bx.length <= m) (h : wpA P c (endQ P rs m post) ⟨n, argT 0 args, bx⟩) : Con P f args bx post := by
 refine ⟨⟨fn, hf, hname, by simp [hb]⟩, fun G w vs hg h0 hbl hbr hv => ?_⟩
 subst hn
 refine calls_of_wpE hf hb (wpA_sound (G0 := ⟨G, noGh⟩) (w0 := w) trivial c _ ⟨fn.ntmps, argT 0 args, bx⟩ G _ w h ?_) ?_
 ·have hsz : args.length = vs.size := by have := hv.1; simpa using this
  refine { good := hg, slots := fun s => ?_, boxes := hbr, blt := hbl, size := ?_, defs := rfl, os := rfl, tape := rfl, output := rfl, hsize := Nat.le_refl _, stat := fun _ _ _ => rfl, keep := fun _ _ _ _ => rfl }
  ·simp only [St.get, argT_look, Nat.zero_le, if_true, Nat.sub_zero]
   cases hs : args[s]? with
   | none => exact .froz (.any _)
   | some x =>
    have hlt : s < vs.toList.length := by rw [<- hv.1]; exact (List.getElem?_eq_some_iff.1 hs).1
    have := hv.2 s x _ hs (List.getElem?_eq_getElem hlt)
    have e : (vs ++ Array.replicate (fn.ntmps - vs.size) undef).getD s undef = vs.toList[s] := by
     have hlt' : s < vs.size := by simpa using hlt
     simp [Array.getD_eq_getD_getElem?, Array.getElem?_append, hlt']
    simp only [Option.getD_some]
    rw [e]; exact this
  ·simp; omega
 ·rintro e a' w' σ' G' hq hs
  have fin : endK P rs m post σ' ->
    a'.defers = [] /\ ∃ v, (results fn a'.tmps).run P w' = .ok v w' /\ ∃ v_1 r bx' G', Ending.returned v = .returned v_1 /\ post r bx' /\ VRel G' w' r v_1 /\ Good G' w' /\ BRel noGh G' w' bx' /\ (∀ b i, G' b = .box i -> i < bx'.length) /\
     w'.os = w.os /\ w'.tape = w.tape /\ w'.output = w.output /\ w.heap.size <= w'.heap.size /\ (∀ b, b < w.heap.size -> G' b = G b) /\ (∀ b, b < w.heap.size -> (∀ i, G b ≠ .box i) -> w'.heap[b]? = w.heap[b]?) := by
   intro hq
   obtain ⟨v, h1, r, bx', G'', h2, h3, h4, h5, h6, h7, _⟩ := end_sound (rs := rs) (by rw [hrs]) trivial hbl hs hm hq (fun i vs hv => by simp [noGh] at hv)
   exact ⟨hs.defs, v, h1, v, r, bx', G'', rfl, h2, h3, h4, h5, h6, hs.os, hs.tape, hs.output, hs.hsize, fun b hb => h7 b hb (h0 b), fun b hb hn => hs.keep b hb hn (h0 b)⟩
  cases e with
  | normal => exact fin hq
  | ret => exact fin hq
  | _ => exact hq.elim
def endW (P : Program) (rs : List ResultVar) (post : AV -> List AV -> Prop) (σ : St) : Prop :=
 resK P σ rs fun l => ∃ ys rest, σ.boxes = ys :: rest /\ allLeafs (pbLt 0) (tupA l :: ys) = true /\ (tagss (tupA l :: ys)).length < 1000 /\
  post ((tupA l).mapTop (renLeaf (tagss (tupA l :: ys)))) (mapTops (renLeaf (tagss (tupA l :: ys))) ys)
def endQW (P : Program) (rs : List ResultVar) (post : AV -> List AV -> Prop) : Exit -> St -> Prop
 | .normal, σ => endW P rs post σ
 | .ret, σ => endW P rs post σ
 | _, _ => False
theorem res_sound {fn : Func} {rs : List ResultVar} (hrs : fn.results = rs.toArray) {σ : St} {G0 w0 G a w} (h : SRel G0 w0 σ G a w) {K : List AV -> Prop} (hq : resK P σ rs K) :
  ∃ v l, (results fn a.tmps).run P w = .ok v w /\ K l /\ VRel G w (tupA l) v := by
 obtain ⟨l, vs, hK, hpw, hrun⟩ := run_results h rs _ hq
 have hrun' : (fn.results.mapM (readVar a.tmps)).run P w = .ok vs.toArray w := by
  rw [hrs, List.mapM_toArray]
  simp [hrun]
 have hres : ∀ v, v = (if h : vs.toArray.size = 1 then vs.toArray[0] else .tuple vs.toArray) -> (results fn a.tmps).run P w = .ok v w := by
  intro v hv
  subst hv
  have e : results fn a.tmps = (do let vs <- fn.results.mapM (readVar a.tmps); pure (if h : vs.size = 1 then vs[0] else .tuple vs)) := by
   unfold results
   congr 1
  rw [e]
  simp [hrun']
 cases l with
 | nil =>
  have := hpw.nil_inv; subst this
  exact ⟨.tuple #[], _, hres _ (by simp), hK, .tup [] #[] rfl (by simp)⟩
 | cons x l =>
  obtain ⟨v, vs', rfl, h1, h2⟩ := hpw.cons_inv
  cases l with
  | nil =>
   have := h2.nil_inv; subst this
   exact ⟨v, _, hres _ (by simp), hK, h1⟩
  | cons y l =>
   obtain ⟨v', vs'', rfl, h3, h4⟩ := h2.cons_inv
   exact ⟨.tuple (v :: v' :: vs'').toArray, _, hres _ (by simp), hK, .tup _ _ (by simpa using hpw.1) (by simpa using hpw.2)⟩
theorem ConW.intro {f : FuncId} {fn : Func} {c : Code} {rs : List ResultVar} {n : Nat} {args : List AV} {post : AV -> List AV -> Prop} (hf : P.funcs[f]? = some fn) (hb : fn.body = some c) (hn : fn.ntmps = n) (hrs : fn.results = rs.toArray)
  (hname : (fn.name == "runtime.NumGoroutine") = false) (hargs : args.length <= n) (h : wpA P c (endQW P rs post) ⟨n, argT 0 args, [args]⟩) : ConW P f args post := by
 refine ⟨⟨fn, hf, hname, by simp [hb]⟩, fun G w vs hg hbx hv => ?_⟩
 subst hn
 refine calls_of_wpE hf hb (wpA_sound (G0 := ⟨G, fun i => if i = 0 then some vs.toList else none⟩) (w0 := w) trivial c _ ⟨fn.ntmps, argT 0 args, [args]⟩ G _ w h ?_) ?_
 ·have hsz : args.length = vs.size := by have := hv.1; simpa using this
  refine { good := hg, slots := fun s => ?_, boxes := ⟨fun i vs hv => ?_, fun i cs h => ?_⟩, blt := fun b i h => absurd h (hbx b i), size := ?_, defs := rfl, os := rfl, tape := rfl, output := rfl, hsize := Nat.le_refl _, stat := fun _ _ _ => rfl, keep := fun _ _ _ _ => rfl }
  ·simp only [St.get, argT_look, Nat.zero_le, if_true, Nat.sub_zero]
   cases hs : args[s]? with
   | none => exact .froz (.any _)
   | some x =>
    have hlt : s < vs.toList.length := by rw [<- hv.1]; exact (List.getElem?_eq_some_iff.1 hs).1
    have := hv.2 s x _ hs (List.getElem?_eq_getElem hlt)
    have e : (vs ++ Array.replicate (fn.ntmps - vs.size) undef).getD s undef = vs.toList[s] := by
     have hlt' : s < vs.size := by simpa using hlt
     simp [Array.getD_eq_getD_getElem?, Array.getElem?_append, hlt']
    simp only [Option.getD_some]
    rw [e]; exact this
  ·simp only at hv
   split at hv
   ·rename_i h0; simp [h0]
   ·cases hv
  ·cases i with
   | zero =>
    simp at h; subst h
    exact .inr (.inl ⟨fun b => hbx b 0, vs.toList, by simp, hv⟩)
   | succ i => simp at h
  ·simp; try omega
 ·rintro e a' w' σ' G' hq hs
  have fin : endW P rs post σ' ->
    a'.defers = [] /\ ∃ v, (results fn a'.tmps).run P w' = .ok v w' /\ ∃ v_1 r ys G', Ending.returned v = .returned v_1 /\ post r ys /\ VRel G' w' r v_1 /\ PW (VRel G' w') ys vs.toList /\ Good G' w' /\ (∀ b i, G' b ≠ .box i) /\
     w'.os = w.os /\ w'.tape = w.tape /\ w'.output = w.output /\ w.heap.size <= w'.heap.size /\ (∀ b, b < w.heap.size -> (∀ t, G b ≠ .tag t) -> G' b = G b) /\ (∀ b, b < w.heap.size -> (∀ t, G b ≠ .tag t) -> w'.heap[b]? = w.heap[b]?) := by
   intro hq
   obtain ⟨v, l, h1, ⟨ys, rest, hbxs, hpb, htl, hpost⟩, hr⟩ := res_sound (rs := rs) hrs hs hq
   have hys : PW (VRel G' w') ys vs.toList := by
    rcases hs.boxes.cell 0 ys (by rw [hbxs]; rfl) with ⟨h0, _⟩ | ⟨_, vs', h0, hp⟩ | ⟨h0, _⟩
    ·simp at h0
    ·simp at h0; subst h0; exact hp
    ·simp at h0
   have hall : ∀ x ∈ tupA l :: ys, x.allLeaf (fun y => tagsIn (tagss (tupA l :: ys)) y && pbLt 0 y) = true := fun x hx =>
    allLeaf_and _ _ _ (tags_in _ x (tagss_mem hx)) (allLeafs_mem hpb x hx)
   refine ⟨hs.defs, v, h1, v, _, _, endG (tagss (tupA l :: ys)) 0 G', rfl, hpost, hr.endG (hall _ (by simp)), ?_, hs.good.endG htl, ?_, hs.os, hs.tape, hs.output, hs.hsize, ?_, fun b hb hnt => hs.keep b hb (hbx b) hnt⟩
   ·refine ⟨by rw [mapTops_eq]; simpa using hys.1, fun j x u hx hu => ?_⟩
    rw [mapTops_eq, List.getElem?_map] at hx
    cases hj : ys[j]? with
    | none => simp [hj] at hx
    | some y =>
     simp [hj] at hx; subst hx
     exact (hys.2 j y u hj hu).endG (hall y (by simp [List.mem_of_getElem? hj]))
   ·intro b i hbi
    unfold endG at hbi
    cases hg : G' b <;> simp only [hg] at hbi
    ·cases hbi
    ·split at hbi <;> cases hbi
    ·rw [if_neg (by omega)] at hbi; cases hbi
    ·cases hbi
   ·intro b hb hnt
    have h2 : G' b = G b := hs.stat b hb hnt
    unfold endG
    rw [h2]
    cases hg : G b with
    | stable => rfl
    | junk => rfl
    | tag t => exact absurd hg (hnt t)
    | box i => exact absurd hg (hbx b i)
  cases e with
  | normal => exact fin hq
  | ret => exact fin hq
  | _ => exact hq.elim
def endX (P : Program) (rs : List ResultVar) (m : Nat) (post : AV -> List (List AV) -> Prop) (σ : St) : Prop :=
 resK P σ rs fun l => m <= σ.boxes.length /\ allLeafs (pbLt m) (tupA l :: catB (σ.boxes.take m)) = true /\ (tagss (tupA l :: catB (σ.boxes.take m))).length < 1000 /\
  post ((tupA l).mapTop (renLeaf (tagss (tupA l :: catB (σ.boxes.take m))))) (mapB (renLeaf (tagss (tupA l :: catB (σ.boxes.take m)))) (σ.boxes.take m))
def endQX (P : Program) (rs : List ResultVar) (m : Nat) (post : AV -> List (List AV) -> Prop) : Exit -> St -> Prop
 | .normal, σ => endX P rs m post σ
 | .ret, σ => endX P rs m post σ
 | _, _ => False
theorem ConX.intro {f : FuncId} {fn : Func} {c : Code} {rs : List ResultVar} {n : Nat} {args : List AV} {bx : List (List AV)} {post : AV -> List (List AV) -> Prop} (hf : P.funcs[f]? = some fn) (hb : fn.body = some c) (hn : fn.ntmps = n) (hrs : fn.results = rs.toArray)
  (hname : (fn.name == "runtime.NumGoroutine") = false) (hargs : args.length <= n) (m : Nat) (hm : bx.length <= m) (h : wpA P c (endQX P rs m post) ⟨n, argT 0 args, bx⟩) : ConX P f args bx post := by
 refine ⟨⟨fn, hf, hname, by simp [hb]⟩, fun G w vs hg hbl hbr hv => ?_⟩
 subst hn
 refine calls_of_wpE hf hb (wpA_sound (G0 := ⟨G, noGh⟩) (w0 := w) trivial c _ ⟨fn.ntmps, argT 0 args, bx⟩ G _ w h ?_) ?_
 ·have hsz : args.length = vs.size := by have := hv.1; simpa using this
  refine { good := hg, slots := fun s => ?_, boxes := hbr, blt := hbl, size := ?_, defs := rfl, os := rfl, tape := rfl, output := rfl, hsize := Nat.le_refl _, stat := fun _ _ _ => rfl, keep := fun _ _ _ _ => rfl }
  ·simp only [St.get, argT_look, Nat.zero_le, if_true, Nat.sub_zero]
   cases hs : args[s]? with
   | none => exact .froz (.any _)
   | some x =>
    have hlt : s < vs.toList.length := by rw [<- hv.1]; exact (List.getElem?_eq_some_iff.1 hs).1
    have := hv.2 s x _ hs (List.getElem?_eq_getElem hlt)
    have e : (vs ++ Array.replicate (fn.ntmps - vs.size) undef).getD s undef = vs.toList[s] := by
     have hlt' : s < vs.size := by simpa using hlt
     simp [Array.getD_eq_getD_getElem?, Array.getElem?_append, hlt']
    simp only [Option.getD_some]
    rw [e]; exact this
  ·simp; omega
 ·rintro e a' w' σ' G' hq hs
  have fin : endX P rs m post σ' ->
    a'.defers = [] /\ ∃ v, (results fn a'.tmps).run P w' = .ok v w' /\ ∃ v_1 r bx' G', Ending.returned v = .returned v_1 /\ post r bx' /\ VRel G' w' r v_1 /\ Good G' w' /\ BRel noGh G' w' bx' /\ (∀ b i, G' b = .box i -> i < bx'.length) /\
     w'.os = w.os /\ w'.tape = w.tape /\ w'.output = w.output /\ w.heap.size <= w'.heap.size /\ (∀ b, b < w.heap.size -> (∀ t, G b ≠ .tag t) -> G' b = G b) /\ (∀ b, b < w.heap.size -> (∀ t, G b ≠ .tag t) -> (∀ i, G b ≠ .box i) -> w'.heap[b]? = w.heap[b]?) := by
   intro hq
   obtain ⟨v, l, h1, ⟨hml, hpb, htl, hpost⟩, hr⟩ := res_sound (rs := rs) hrs hs hq
   have hall : ∀ x ∈ tupA l :: catB (σ'.boxes.take m), x.allLeaf (fun y => tagsIn (tagss (tupA l :: catB (σ'.boxes.take m))) y && pbLt m y) = true := fun x hx =>
    allLeaf_and _ _ _ (tags_in _ x (tagss_mem hx)) (allLeafs_mem hpb x hx)
   refine ⟨hs.defs, v, h1, v, _, _, endG (tagss (tupA l :: catB (σ'.boxes.take m))) m G', rfl, hpost, hr.endG (hall _ (by simp)), hs.good.endG htl, ?_, ?_, hs.os, hs.tape, hs.output, hs.hsize, ?_, fun b hb hnt hnb => hs.keep b hb hnb hnt⟩
   ·refine ⟨fun i vs hv => by simp [noGh] at hv, fun i cs hi => ?_⟩
    rw [mapB_eq, List.getElem?_map] at hi
    cases hc : (σ'.boxes.take m)[i]? with
    | none => simp [hc] at hi
    | some c =>
     simp [hc] at hi; subst hi
     have hi' : σ'.boxes[i]? = some c /\ i < m := by
      rw [List.getElem?_take] at hc
      split at hc
      ·exact ⟨hc, by assumption⟩
      ·cases hc
     rcases hs.boxes.cell i c hi'.1 with ⟨_, b, vals, ty, k1, k2, k3, k4⟩ | ⟨_, vs, hb, _⟩ | ⟨_, k1, k2⟩
     ·refine .inl ⟨rfl, b, vals, ty, by simp [endG, k1, hi'.2], k2, k3, by rw [mapTops_eq]; simpa using k4.1, fun j x u hx hu => ?_⟩
      rw [mapTops_eq, List.getElem?_map] at hx
      cases hj : c[j]? with
      | none => simp [hj] at hx
      | some y =>
       simp [hj] at hx; subst hx
       exact (k4.2 j y u hj hu).endG (hall y (List.mem_cons_of_mem _ (catB_mem hc y (List.mem_of_getElem? hj))))
     ·simp [noGh] at hb
     ·refine .inr (.inr ⟨rfl, fun b hb => ?_, fun x hx v => ?_⟩)
      ·unfold endG at hb
       split at hb <;> try (cases hb; done)
       ·split at hb <;> cases hb
       ·rename_i j hj
        split at hb
        ·cases hb; exact k1 b hj
        ·cases hb
      ·rw [mapTops_eq] at hx
       obtain ⟨y, hy, rfl⟩ := List.mem_map.1 hx
       exact (k2 y hy v).endG (hall y (List.mem_cons_of_mem _ (catB_mem hc y hy)))
   ·intro b i hbi
    unfold endG at hbi
    split at hbi <;> try (cases hbi; done)
    ·split at hbi <;> cases hbi
    ·split at hbi
     ·rename_i hlt; cases hbi; rw [mapB_eq, List.length_map, List.length_take]; omega
     ·cases hbi
   ·intro b hb hnt
    have h2 : G' b = G b := hs.stat b hb hnt
    unfold endG
    rw [h2]
    cases hg : G b with
    | stable => rfl
    | junk => rfl
    | tag t => exact absurd hg (hnt t)
    | box i => have := hbl b i hg; simp; omega
  cases e with
  | normal => exact fin hq
  | ret => exact fin hq
  | _ => exact hq.elim
end
end Go.AM
