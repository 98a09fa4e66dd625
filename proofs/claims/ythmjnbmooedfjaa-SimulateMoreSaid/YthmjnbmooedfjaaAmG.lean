/-
  The abstract machine: append, make, struct literals, variables, stores.
-/
import Derived.Test.YthmjnbmooedfjaaAmF
namespace Go.AM
open Go.RowKit

section ops
variable {P : Program}

/-! ### append -/
theorem run_append_zero {T ty E : TypeId} {sz by_ : Nat} {z : Option Value} (hT : P.underlying T = some (.slice E)) (hq : tinfo P E = some (sz, by_, z)) {ao ax : Option Addr} {n c cx : Nat} (h : n ≤ c) (w : World) :
    (Builtin.append_ #[T, T] ty #[.slice ao n c, .slice ax 0 cx]).run P w = .ok (.slice ao n c) w := by
  have hf : (Builtin.firstCells sz 0 (.slice ax 0 cx)).run P w = .ok #[] w := by
    cases ax with
    | none => simp [Builtin.firstCells]
    | some a =>
      have := run_loadCells_list (P := P) w a [] (by simp)
      simpa [Builtin.firstCells] using this
  cases ao with
  | none => simp [Builtin.append_, run_underlying hT, run_sizeOf hq, Builtin.lenOf, h, hf]
  | some a => simp [Builtin.append_, run_underlying hT, run_sizeOf hq, Builtin.lenOf, h, hf, storeCells]

theorem run_append_room' {w : World} (t ty e e' : TypeId) {sz by_ : Nat} {z : Option Value} (ht : P.underlying t = some (.slice e)) (hi : tinfo P e = some (sz, by_, z))
    (g sLen sCap : Nat) (cur : Array Value) (hg : w.heap[g]? = some (.cells cur e' (0, 0)))
    (a : Addr) (m c : Nat) (news : List Value) (hl : news.length = m * sz) (hnews : ∀ j u, news[j]? = some u → w.cell? (a.add j) = some u) (h1 : ∀ u ∈ news, u.oneCell' = true)
    (hroom : sLen + m ≤ sCap) (hfit : sLen * sz + news.length ≤ cur.size) :
    (Builtin.append_ #[t, t] ty #[.slice (some ⟨g, 0, none⟩) sLen sCap, .slice (some a) m c]).run P w =
      .ok (.slice (some ⟨g, 0, none⟩) (sLen + m) sCap) (w.setRow g (cur.toList.take (sLen * sz) ++ news ++ cur.toList.drop (sLen * sz + news.length)).toArray) := by
  have hf := run_firstCells_some (P := P) w sz m a m c news hl hnews
  have hst := run_storeCells_at P g (sLen * sz) e' news 0 cur w hg (by simpa using hfit) h1
  simp only [Nat.add_zero] at hst
  simp [Builtin.append_, run_underlying ht, run_sizeOf hi, Builtin.lenOf, hroom, hf, Addr.add_none, hst]

/-- where the cells of a slice lie, as a law wants it -/
theorem VRel.news {G : Nat → Status} {w : World} {t es : Nat} {ys : List AV} {v : Value} (h : VRel G w (.sl t es ys) v) :
    (ys = [] ∧ ∃ ax c, v = .slice ax 0 c) ∨ (∃ a c news, v = .slice (some a) ys.length c ∧ news.length = ys.length * es ∧ (∀ j u, news[j]? = some u → w.cell? (a.add j) = some u) ∧ One news ∧ (∀ x ∈ ys, x.cells.length = es) ∧ PW (FRel (Stable G) w) (flat ys) news) := by
  obtain ⟨ao, c, rfl, _, _, _, h | ⟨b, off, vals, rfl, _, h1, h2, h3, h4⟩⟩ := h.sl_inv
  · subst h; exact .inl ⟨rfl, ao, c, rfl⟩
  · exact .inr ⟨_, c, vals, rfl, by rw [← h4.1, flat_length h1], fun j u hj => by rw [Addr.add_none]; exact h3 j u hj, h2, h1, h4⟩

def roomFor (n by_ : Nat) : Prop := n * by_ ≤ 140737488355328 ∧ n ≤ 9223372036854775807

/-- append, to what is nil or full: a new row -/
def evAppendNew (P : Program) (d : Nat) (T T' : TypeId) (x y : AV) (K : AV → Prop) : Prop :=
  match P.underlying T with
  | some (.slice E) => T' = T ∧ ∃ q, tinfo P E = some q ∧ 0 < q.1 ∧ (∃ z, q.2.2 = some z ∧ z.cells.size = q.1) ∧
    match x, y with
    | .nil, .nil => K .nil
    | .sl t es xs, .nil => K (.sl t es xs)
    | .nil, .sl _ es ys => es = q.1 ∧ roomFor ys.length q.2.1 ∧ K (.sl (64 * (d + 1)) es ys)
    | .sl t es xs, .sl _ es' ys => t = 1 ∧ es = q.1 ∧ es' = q.1 ∧ ys ≠ [] ∧ roomFor (xs.length + ys.length) q.2.1 ∧ K (.sl (64 * (d + 1)) es (xs ++ ys))
    | _, _ => False
  | _ => False

/-- a new row that the call owns -/
theorem own_new {G : Nat → Status} {w w' : World} {d es n : Nat} {e : TypeId} {xs : List AV} {v : Value} {vals : List Value} (hg : Good G w) (hf : Fresh d G)
    (ho : w'.ownsRow w.heap.size e es v n vals) (hn : n = xs.length) (hgr : w.grownBy w' none) (hw : ∀ x ∈ xs, x.cells.length = es) (h1 : One vals) (hp : PW (FRel (Stable G) w) (flat xs) vals) :
    ∃ G', VRel G' w' (.sl (64 * (d + 1)) es xs) v ∧ Ext G w G' w' ∧ Good G' w' ∧ NewTags d G G' := by
  subst hn
  have hE : Ext G w G w' := ⟨hgr.os, hgr.tape, hgr.output, hgr.size, fun _ _ => rfl, fun b hb => hgr.block b hb (by simp)⟩
  have hbase : ∀ {B}, w'.ownsRow B e es v xs.length vals → w'.ownsRow 0 e es v xs.length vals := fun h => ⟨h.1, h.2.imp id fun ⟨g, cap, cur, a, _, r⟩ => ⟨g, cap, cur, a, Nat.zero_le _, r⟩⟩
  have hp' : PW (FRel (Stable G) w') (flat xs) vals := hp.mono fun x y _ hr => hr.mono (fun _ h => h) (fun b hb => hE.keep b (hg.lt b (by unfold Stable at hb; rw [hb]; simp)))
  rcases ho.2 with ⟨hv, hn⟩ | ⟨g, cap, cur, hv, hgb, hh, r⟩
  · refine ⟨G, .own _ es xs v e vals (by omega) (hbase ho) (fun b hb => by subst hv; simp [Value.ownBlock] at hb) hw h1 hp', hE, ⟨fun b hb => Nat.lt_of_lt_of_le (hg.lt b hb) hgr.size, hg.tags, hg.boxes⟩, .refl d G⟩
  · have hlt : g < w'.heap.size := by
      rcases Nat.lt_or_ge g w'.heap.size with h | h
      · exact h
      · simp [Array.getElem?_eq_none h] at hh
    refine ⟨updG G g (.tag (64 * (d + 1))), .own _ es xs v e vals (by omega) (hbase ho) (fun b hb => ?_) hw h1 (hp'.mono fun x y _ hr => hr.mono (fun b hb => ?_) (fun _ _ => rfl)), ?_, hg.upd _ _ hgb hlt hgr.size (fun t ht b hb => ?_) (fun i h => by cases h), .upd hf.own⟩
    · subst hv; simp only [Value.ownBlock, Option.some.injEq] at hb; simp [updG, ← hb]
    · have := hg.lt b (by unfold Stable at hb; rw [hb]; simp)
      unfold Stable at *; simp only [updG]; rw [if_neg (by omega)]; exact hb
    · exact ⟨hgr.os, hgr.tape, hgr.output, hgr.size, fun b hb => by simp only [updG]; rw [if_neg (by omega)], fun b hb => hgr.block b hb (by simp)⟩
    · cases ht; exact hf.ne hb

theorem evAppendNew_sound {d : Nat} {T T' : TypeId} {x y : AV} {K : AV → Prop} (h : evAppendNew P d T T' x y K) :
    ∃ r, K r ∧ ∀ (ty : TypeId) (G : Nat → Status) (w : World) (v u : Value), Good G w → Fresh d G → VRel G w x v → VRel G w y u → Does P d G w (Builtin.append_ #[T, T'] ty #[v, u]) r := by
  unfold evAppendNew at h
  split at h
  · rename_i E hT
    obtain ⟨rfl, ⟨sz, by_, z⟩, hq, h0, ⟨z', hz, hzs⟩, h⟩ := h
    simp only at h0 hz hzs h
    subst hz
    obtain ⟨i, hi, hsz, hby, hzz⟩ := tinfo_some hq
    split at h
    · refine ⟨_, h, fun ty G w v u hg hf hv hu => ?_⟩
      obtain rfl := hv.nil_inv; obtain rfl := hu.nil_inv
      exact .pure hg (run_append_zero hT hq (Nat.le_refl _) w) (.froz .nil)
    · refine ⟨_, h, fun ty G w v u hg hf hv hu => ?_⟩
      obtain ⟨ao, c, hve, _, _, hc, _⟩ := hv.sl_inv; obtain rfl := hu.nil_inv
      subst hve
      exact .pure hg (run_append_zero hT hq hc w) hv
    · rename_i t es ys
      obtain ⟨he1, hb, hK⟩ := h
      have he1 := he1.symm; subst he1
      refine ⟨_, hK, fun ty G w v u hg hf hv hu => ?_⟩
      obtain rfl := hv.nil_inv
      rcases hu.news with ⟨rfl, ax, c, rfl⟩ | ⟨a, c, news, rfl, h1, h2, h3, h4, h5⟩
      · exact .pure hg (run_append_zero hT hq (Nat.le_refl _) w) (.own _ _ _ _ E [] (by omega) (World.ownsRow_nil _ _ _ _) (fun b hb => by simp [Value.ownBlock] at hb) (by simp) (fun _ h => by simp at h) (.nil _))
      · obtain ⟨v', w', hrun, ho, hgr, _⟩ := run_append_own (P := P) w w.heap.size T' ty E i z' sz by_ hT hi hzz hsz hby hzs h0 (.slice none 0 0) 0 [] (World.ownsRow_nil w _ E sz) a ys.length c news h1 h2 h3 (by simp only [maxLen, Nat.zero_add]; exact hb.2) (by simpa using hb.1) (Nat.le_refl _)
        simp only [Nat.zero_add, List.nil_append] at ho
        obtain ⟨G', r1, r2, r3, r4⟩ := own_new (d := d) hg hf ho rfl hgr h4 h3 h5
        exact ⟨v', w', G', hrun, r1, r2, r3, r4⟩
    · rename_i t es xs t' es' ys
      obtain ⟨rfl, he1, he2, hne, hb, hK⟩ := h
      have he1 := he1.symm; have he2 := he2.symm; subst he1; subst he2
      refine ⟨_, hK, fun ty G w v u hg hf hv hu => ?_⟩
      have hpos : 0 < ys.length := by cases ys with | nil => exact absurd rfl hne | cons _ _ => simp
      rcases hu.news with ⟨rfl, _⟩ | ⟨a, c, news, rfl, h1, h2, h3, h4, h5⟩
      · exact absurd rfl hne
      · obtain ⟨ao, c0, rfl, hfull, hnone, hc, hx⟩ := hv.sl_inv
        have hfull := hfull rfl
        subst hfull
        have key : ∃ v' w' olds, (Builtin.append_ #[T', T'] ty #[.slice ao xs.length xs.length, .slice (some a) ys.length c]).run P w = .ok v' w' ∧ w'.ownsRow w.heap.size E sz v' (xs.length + ys.length) (olds ++ news) ∧ w.grownBy w' none ∧ One olds ∧ (∀ x ∈ xs, x.cells.length = sz) ∧ PW (FRel (Stable G) w) (flat xs) olds := by
          rcases hx with rfl | ⟨b, off, vals, rfl, _, g1, g2, g3, g4⟩
          · cases ao with
            | none =>
              obtain ⟨v', w', hrun, ho, hgr, _⟩ := run_append_own (P := P) w w.heap.size T' ty E i z' sz by_ hT hi hzz hsz hby hzs h0 (.slice none 0 0) 0 [] (World.ownsRow_nil w _ E sz) a ys.length c news h1 h2 h3 (by simp only [maxLen, Nat.zero_add]; have := hb.2; simpa using this) (by simpa using hb.1) (Nat.le_refl _)
              exact ⟨v', w', [], by simpa using hrun, by simpa using ho, hgr, fun _ h => by simp at h, by simp, .nil _⟩
            | some b =>
              obtain ⟨v', w', hrun, ho, hgr⟩ := run_append_arg_grows (P := P) w T' ty E i z' sz by_ hT hi hzz hsz hby hzs h0 b 0 0 [] (by simp) (by simp) a ys.length c news h1 h2 (by omega) (by simp only [maxLen, Nat.zero_add]; have := hb.2; simpa using this) (by simpa using hb.1)
              exact ⟨v', w', [], by simpa using hrun, by simpa using ho, hgr, fun _ h => by simp at h, by simp, .nil _⟩
          · obtain ⟨v', w', hrun, ho, hgr⟩ := run_append_arg_grows (P := P) w T' ty E i z' sz by_ hT hi hzz hsz hby hzs h0 ⟨b, off, none⟩ xs.length xs.length vals (by rw [← g4.1, flat_length g1]) (fun j u hj => by rw [Addr.add_none]; exact g3 j u hj) a ys.length c news h1 h2 (by omega) (by simp only [maxLen]; exact hb.2) hb.1
            exact ⟨v', w', vals, hrun, ho, hgr, g2, g1, g4⟩
        obtain ⟨v', w', olds, hrun, ho, hgr, k1, k2, k3⟩ := key
        have hfa : flat (xs ++ ys) = flat xs ++ flat ys := by simp [flat]
        obtain ⟨G', r1, r2, r3, r4⟩ := own_new (d := d) (xs := xs ++ ys) hg hf ho (by simp) hgr (fun x hx => by exact (List.mem_append.1 hx).elim (k2 x) (h4 x)) (fun u hu => by exact (List.mem_append.1 hu).elim (k1 u) (h3 u)) (by rw [hfa]; exact k3.append h5)
        exact ⟨v', w', G', hrun, r1, r2, r3, r4⟩
    · exact h.elim
  · exact h.elim

/-- append, to what the call owns: the tag stays, whatever else bears it is forgotten -/
def evAppendOwn (P : Program) (T T' : TypeId) (x y : AV) (K : Nat → AV → Prop) : Prop :=
  match P.underlying T with
  | some (.slice E) => T' = T ∧ ∃ q, tinfo P E = some q ∧ 0 < q.1 ∧ (∃ z, q.2.2 = some z ∧ z.cells.size = q.1) ∧
    match x, y with
    | .sl t es xs, .sl t' es' ys => 2 ≤ t ∧ t' ≠ t ∧ es = q.1 ∧ es' = q.1 ∧ roomFor (xs.length + ys.length) q.2.1 ∧ K t (.sl t es (xs ++ ys))
    | _, _ => False
  | _ => False

/-- a step behind which tag t's other bearers are forgotten -/
structure ExtBut (t : Nat) (G : Nat → Status) (w : World) (G' : Nat → Status) (w' : World) : Prop where
  os : w'.os = w.os
  tape : w'.tape = w.tape
  output : w'.output = w.output
  size : w.heap.size ≤ w'.heap.size
  stat : ∀ b, b < w.heap.size → G b ≠ .tag t → G' b = G b
  keep : ∀ b, b < w.heap.size → G b ≠ .tag t → w'.heap[b]? = w.heap[b]?
  old : ∀ b, G b = .tag t → G' b = .tag t ∨ G' b = .junk
  new : ∀ b, w.heap.size ≤ b → G' b = .tag t ∨ G' b = .junk

theorem VRel.but {t : Nat} {G G' : Nat → Status} {w w' : World} {x : AV} {v : Value} (h : VRel G w x v) (hg : Good G w) (he : ExtBut t G w G' w') : VRel G' w' (x.kill t) v := by
  refine (h.kill (t0 := t)).mono (fun b hb => ?_) (fun b hb _ => ?_)
  · unfold killG at hb ⊢
    split at hb
    · exact absurd rfl hb
    · rename_i hn; rw [if_neg hn]; exact he.stat b (hg.lt b hb) hn
  · unfold killG at hb
    split at hb
    · exact absurd rfl hb
    · rename_i hn; exact he.keep b (hg.lt b hb) hn

/-- a new row of the call's own in the place of the old one -/
theorem own_grows {t sz : Nat} {G : Nat → Status} {w w' : World} {E : TypeId} {xs ys : List AV} {olds news : List Value} {v' : Value} (hg : Good G w) (ht2 : 2 ≤ t) (o3 : ∀ x ∈ xs, x.cells.length = sz) (h3 : One news) (h4 : ∀ x ∈ ys, x.cells.length = sz)
    (h5 : PW (FRel (Stable G) w) (flat ys) news) (ho : w'.ownsRow w.heap.size E sz v' (xs.length + ys.length) (olds ++ news)) (hgr : w.grownBy w' none) (k1 : One olds) (k3 : PW (FRel (Stable G) w) (flat xs) olds) :
    ∃ G', VRel G' w' (.sl t sz (xs ++ ys)) v' ∧ ExtBut t G w G' w' ∧ Good G' w' := by
  have hfa : flat (xs ++ ys) = flat xs ++ flat ys := by simp [flat]
  have hEk : ∀ b, b < w.heap.size → w'.heap[b]? = w.heap[b]? := fun b hb => hgr.block b hb (by simp)
  have hp' : PW (FRel (Stable (killG t G)) w') (flat (xs ++ ys)) (olds ++ news) := by
    rw [hfa]
    exact (k3.append h5).mono fun x y _ hr => hr.mono (fun b hb => killG_stable.2 hb) (fun b hb => hEk b (hg.lt b (by unfold Stable at hb; rw [hb]; simp)))
  have hw : ∀ x ∈ xs ++ ys, x.cells.length = sz := fun x hx => by exact (List.mem_append.1 hx).elim (o3 x) (h4 x)
  have h1' : One (olds ++ news) := fun u hu => by exact (List.mem_append.1 hu).elim (k1 u) (h3 u)
  have hlen : xs.length + ys.length = (xs ++ ys).length := by simp
  rw [hlen] at ho
  have hgk : Good (killG t G) w := ⟨fun b hb => hg.lt b fun h => hb (by simp [killG, h]), fun b b' t' e1 e2 => by
      unfold killG at e1 e2; split at e1 <;> first | (cases e1; done) | (split at e2 <;> first | (cases e2; done) | exact hg.tags b b' t' e1 e2), fun b b' t' e1 e2 => by
      unfold killG at e1 e2; split at e1 <;> first | (cases e1; done) | (split at e2 <;> first | (cases e2; done) | exact hg.boxes b b' t' e1 e2)⟩
  have hno : ∀ b, killG t G b ≠ .tag t := fun b h => by unfold killG at h; split at h <;> first | (cases h; done) | exact absurd h (by assumption)
  have hjunk : ∀ b, w.heap.size ≤ b → killG t G b = .junk := fun b hb => Classical.byContradiction fun h => by have := hgk.lt b h; omega
  have hbase : w'.ownsRow 0 E sz v' (xs ++ ys).length (olds ++ news) := ⟨ho.1, ho.2.imp id fun ⟨g, cap, cur, a, _, r⟩ => ⟨g, cap, cur, a, Nat.zero_le _, r⟩⟩
  rcases ho.2 with ⟨hv, hn⟩ | ⟨g, cap, cur, hv, hgb, hh, r⟩
  · refine ⟨killG t G, .own t sz _ v' E _ ht2 hbase (fun b hb => by subst hv; simp [Value.ownBlock] at hb) hw h1' hp', ⟨hgr.os, hgr.tape, hgr.output, hgr.size, fun b hb hn => by simp [killG, hn], fun b hb _ => hEk b hb, fun b hb => .inr (by simp [killG, hb]), fun b hb => .inr (hjunk b hb)⟩, ⟨fun b hb => Nat.lt_of_lt_of_le (hgk.lt b hb) hgr.size, hgk.tags, hgk.boxes⟩⟩
  · have hlt : g < w'.heap.size := by
      rcases Nat.lt_or_ge g w'.heap.size with h | h
      · exact h
      · simp [Array.getElem?_eq_none h] at hh
    refine ⟨updG (killG t G) g (.tag t), .own t sz _ v' E _ ht2 hbase (fun b hb => ?_) hw h1' (hp'.mono fun x y _ hr => hr.mono (fun b hb => ?_) (fun _ _ => rfl)), ?_, hgk.upd _ _ hgb hlt hgr.size (fun t' ht' b hb => ?_) (fun i h => by cases h)⟩
    · subst hv; simp only [Value.ownBlock, Option.some.injEq] at hb; simp [updG, ← hb]
    · have := hgk.lt b (by unfold Stable at hb; rw [hb]; simp)
      unfold Stable at *; simp only [updG]; rw [if_neg (by omega)]; exact hb
    · refine ⟨hgr.os, hgr.tape, hgr.output, hgr.size, fun b hb hn => by simp only [updG]; rw [if_neg (by omega)]; simp [killG, hn], fun b hb _ => hEk b hb, fun b hb => .inr ?_, fun b hb => ?_⟩
      · simp only [updG]; rw [if_neg (by have := hg.lt b (by rw [hb]; simp); omega)]; simp [killG, hb]
      · simp only [updG]; split
        · exact .inl rfl
        · exact .inr (hjunk b hb)
    · cases ht'; exact hno b hb

theorem evAppendOwn_sound {T T' : TypeId} {x y : AV} {K : Nat → AV → Prop} (h : evAppendOwn P T T' x y K) :
    ∃ t r, K t r ∧ 2 ≤ t ∧ ∀ (ty : TypeId) (G : Nat → Status) (w : World) (v u : Value), Good G w → VRel G w x v → VRel G w y u →
      ∃ v' w' G', (Builtin.append_ #[T, T'] ty #[v, u]).run P w = .ok v' w' ∧ VRel G' w' r v' ∧ ExtBut t G w G' w' ∧ Good G' w' := by
  unfold evAppendOwn at h
  split at h
  · rename_i E hT
    obtain ⟨rfl, ⟨sz, by_, z⟩, hq, h0, ⟨z', hz, hzs⟩, h⟩ := h
    simp only at h0 hz hzs h
    subst hz
    obtain ⟨i, hi, hsz, hby, hzz⟩ := tinfo_some hq
    split at h
    · rename_i t es xs t' es' ys
      obtain ⟨ht2, htt, he1, he2, hb, hK⟩ := h
      have he1 := he1.symm; have he2 := he2.symm; subst he1; subst he2
      refine ⟨_, _, hK, ht2, fun ty G w v u hg hv hu => ?_⟩
      have hfa : flat (xs ++ ys) = flat xs ++ flat ys := by simp [flat]
      cases hv with
      | froz hv => exfalso; cases hv <;> omega
      | own _ _ _ _ e' vals _ o1 o2 o3 o4 o5 =>
      have idle : ∀ ax c, u = .slice ax 0 c → ys = [] → ∃ v' w' G', (Builtin.append_ #[T', T'] ty #[v, u]).run P w = .ok v' w' ∧ VRel G' w' (.sl t sz (xs ++ ys)) v' ∧ ExtBut t G w G' w' ∧ Good G' w' := by
        rintro ax c rfl rfl
        have hv : VRel G w (.sl t sz xs) v := .own t sz xs v e' vals ht2 o1 o2 o3 o4 o5
        obtain ⟨ao, c0, hve, _, _, hc, _⟩ := hv.sl_inv
        refine ⟨v, w, G, by rw [hve]; exact run_append_zero hT hq hc w, by rw [List.append_nil]; exact hv, ⟨rfl, rfl, rfl, Nat.le_refl _, fun _ _ _ => rfl, fun _ _ _ => rfl, fun b hb => .inl hb, fun b hb => .inr ?_⟩, hg⟩
        exact Classical.byContradiction fun h => by have := hg.lt b h; omega
      rcases hu.news with ⟨hy, ax, c, hue⟩ | ⟨a, c, news, rfl, h1, h2, h3, h4, h5⟩
      · exact idle ax c hue hy
      -- the three ways
      have grows : ∀ (olds : List Value) (v' : Value) (w' : World), w'.ownsRow w.heap.size E sz v' (xs.length + ys.length) (olds ++ news) → w.grownBy w' none → One olds → PW (FRel (Stable G) w) (flat xs) olds →
          ∃ G', VRel G' w' (.sl t sz (xs ++ ys)) v' ∧ ExtBut t G w G' w' ∧ Good G' w' := fun olds v' w' ho hgr k1 k3 => own_grows hg ht2 o3 h3 h4 h5 ho hgr k1 k3
      rcases o1.2 with ⟨hv, hn⟩ | ⟨g, cap, cur, hv, hgb, hh, hnc, hcm, hcs, hct⟩
      · subst hv
        obtain rfl := List.eq_nil_of_length_eq_zero hn
        obtain ⟨v', w', hrun, ho, hgr, _⟩ := run_append_own (P := P) w w.heap.size T' ty E i z' sz by_ hT hi hzz hsz hby hzs h0 (.slice none 0 0) 0 [] (World.ownsRow_nil w _ E sz) a ys.length c news h1 h2 h3 (by simp only [maxLen, Nat.zero_add]; have := hb.2; simpa using this) (by simpa using hb.1) (Nat.le_refl _)
        obtain ⟨G', r1, r2, r3⟩ := grows [] v' w' (by simpa using ho) hgr (fun _ h => by simp at h) (.nil _)
        exact ⟨v', w', G', hrun, r1, r2, r3⟩
      · subst hv
        have hGg : G g = .tag t := o2 g rfl
        have hvl : vals.length = xs.length * sz := o1.1
        by_cases hroom : xs.length + ys.length ≤ cap
        · -- within the capacity
          have hfit : xs.length * sz + news.length ≤ cur.size := by rw [h1, hcs, ← Nat.add_mul]; exact Nat.mul_le_mul_right _ hroom
          have hrun := run_append_room' (P := P) (w := w) T' ty E e' hT hq g xs.length cap cur hh a ys.length c news h1 h2 h3 hroom hfit
          refine ⟨_, _, G, hrun, ?_, ?_, ?_⟩
          · have hset := setRow_heap w g cur (cur.toList.take (xs.length * sz) ++ news ++ cur.toList.drop (xs.length * sz + news.length)).toArray e' (0, 0) hh
            have hlen : (xs ++ ys).length = xs.length + ys.length := by simp
            have hp' : PW (FRel (Stable G) (w.setRow g (cur.toList.take (xs.length * sz) ++ news ++ cur.toList.drop (xs.length * sz + news.length)).toArray)) (flat (xs ++ ys)) (vals ++ news) := by
              rw [hfa]
              refine (o5.append h5).mono fun x y _ hr => hr.mono (fun _ h => h) (fun b hb => ?_)
              have hne : b ≠ g := fun h => by subst h; unfold Stable at hb; rw [hGg] at hb; cases hb
              simp [World.setRow, Array.getElem?_modify, Ne.symm hne]
            have hrow : (w.setRow g (cur.toList.take (xs.length * sz) ++ news ++ cur.toList.drop (xs.length * sz + news.length)).toArray).ownsRow 0 e' sz (.slice (some ⟨g, 0, none⟩) (xs.length + ys.length) cap) (xs ++ ys).length (vals ++ news) := by
              rw [hlen]
              refine ⟨by rw [List.length_append, hvl, h1, ← Nat.add_mul], .inr ⟨g, cap, _, rfl, Nat.zero_le _, hset, hroom, hcm, ?_, ?_⟩⟩
              · simp only [List.size_toArray, List.length_append, List.length_take, List.length_drop, Array.length_toList]
                omega
              · have h6 : cur.toList.take (xs.length * sz) = vals := hct
                rw [h6]
                simp only [List.append_assoc]
                have h7 : (xs.length + ys.length) * sz = (vals ++ news).length := by rw [List.length_append, hvl, h1, ← Nat.add_mul]
                rw [← List.append_assoc, List.take_left' h7.symm]
            exact .own t sz (xs ++ ys) _ e' (vals ++ news) ht2 hrow (fun b hb => by simp only [Value.ownBlock, Option.some.injEq] at hb; rw [← hb]; exact hGg)
              (fun x hx => by exact (List.mem_append.1 hx).elim (o3 x) (h4 x)) (fun u hu => by exact (List.mem_append.1 hu).elim (o4 u) (h3 u)) hp'
          · refine ⟨rfl, rfl, rfl, by simp [World.setRow], fun _ _ _ => rfl, fun b hb hn => ?_, fun b hb => .inl hb, fun b hb => .inr ?_⟩
            · have hne : b ≠ g := fun h => by subst h; exact hn hGg
              simp [World.setRow, Array.getElem?_modify, Ne.symm hne]
            · exact Classical.byContradiction fun h => by have := hg.lt b h; omega
          · exact ⟨fun b hb => by simpa [World.setRow] using hg.lt b hb, hg.tags, hg.boxes⟩
        · have hcell : ∀ j u, vals[j]? = some u → w.cell? (Addr.add ⟨g, 0, none⟩ j) = some u := by
            intro j u hj
            have : cur.toList[j]? = some u := by
              rw [← hct, List.getElem?_take] at hj
              split at hj
              · exact hj
              · cases hj
            rw [Addr.add_none]
            simp only [World.cell?, hh, Nat.zero_add]
            simpa using this
          obtain ⟨v', w', hrun, ho, hgr⟩ := run_append_arg_grows (P := P) w T' ty E i z' sz by_ hT hi hzz hsz hby hzs h0 ⟨g, 0, none⟩ xs.length cap vals hvl hcell a ys.length c news h1 h2 (by omega) (by simp only [maxLen]; exact hb.2) hb.1
          obtain ⟨G', r1, r2, r3⟩ := grows vals v' w' ho hgr o4 o5
          exact ⟨v', w', G', hrun, r1, r2, r3⟩
    · exact h.elim
  · exact h.elim

/-- append, to a tail of what the call owns: in its place or into a new row -/
def evAppendTl (P : Program) (T T' : TypeId) (x y : AV) (K : Nat → AV → AV → Prop) : Prop :=
  match P.underlying T with
  | some (.slice E) => T' = T ∧ ∃ q, tinfo P E = some q ∧ 0 < q.1 ∧ (∃ z, q.2.2 = some z ∧ z.cells.size = q.1) ∧
    match x, y with
    | .tl t es xs i, .sl t' es' ys => 2 ≤ t ∧ t' ≠ t ∧ es = q.1 ∧ es' = q.1 ∧ 0 < ys.length ∧ roomFor (xs.length + ys.length) q.2.1 ∧ K t (.tl t es (xs ++ ys) i) (.tl t es (xs.drop i ++ ys) 0)
    | _, _ => False
  | _ => False

theorem evAppendTl_sound {T T' : TypeId} {x y : AV} {K : Nat → AV → AV → Prop} (h : evAppendTl P T T' x y K) :
    ∃ t r1 r2, K t r1 r2 ∧ 2 ≤ t ∧ ∀ (ty : TypeId) (G : Nat → Status) (w : World) (v u : Value), Good G w → VRel G w x v → VRel G w y u →
      ∃ v' w' G', (Builtin.append_ #[T, T'] ty #[v, u]).run P w = .ok v' w' ∧ (VRel G' w' r1 v' ∨ VRel G' w' r2 v') ∧ ExtBut t G w G' w' ∧ Good G' w' := by
  unfold evAppendTl at h
  split at h
  · rename_i E hT
    obtain ⟨rfl, ⟨sz, by_, z⟩, hq, h0, ⟨z', hz, hzs⟩, h⟩ := h
    simp only at h0 hz hzs h
    subst hz
    obtain ⟨ti, hi, hsz, hby, hzz⟩ := tinfo_some hq
    split at h
    · rename_i t es xs i t' es' ys
      obtain ⟨ht2, htt, he1, he2, hyl, hb, hK⟩ := h
      have he1 := he1.symm; have he2 := he2.symm; subst he1; subst he2
      refine ⟨_, _, _, hK, ht2, fun ty G w v u hg hv hu => ?_⟩
      obtain ⟨b, off, off', c, hbase, hil, hoff, hlc, rfl⟩ := hv.tl_inv
      rcases hu.news with ⟨hy, _⟩ | ⟨a, cu, news, rfl, h1, h2, h3, h4, h5⟩
      · subst hy; simp at hyl
      have hown : evAppendOwn P T' T' (.sl t sz xs) (.sl t' sz ys) fun t1 r => t1 = t ∧ r = .sl t sz (xs ++ ys) := by
        unfold evAppendOwn
        rw [hT]
        exact ⟨rfl, (sz, by_, some z'), hq, h0, ⟨z', rfl, hzs⟩, ht2, htt, rfl, rfl, hb, rfl, rfl⟩
      obtain ⟨t1, r, ⟨rfl, rfl⟩, _, hrunO⟩ := evAppendOwn_sound hown
      have hbase' := hbase
      cases hbase with
      | froz hv => exfalso; cases hv <;> omega
      | own _ _ _ _ e' vals _ o1 o2 o3 o4 o5 =>
      rcases o1.2 with ⟨hv, hn⟩ | ⟨g, cap, cur, hv, hgb, hh, hnc, hcm, hcs, hct⟩
      · cases hv
      · simp only [Value.slice.injEq, Option.some.injEq, Addr.mk.injEq, true_and, and_true] at hv
        obtain ⟨⟨rfl, rfl⟩, rfl⟩ := hv
        have hvl : vals.length = xs.length * sz := o1.1
        by_cases hroom : xs.length + ys.length ≤ c
        · -- within the capacity
          obtain rfl : off' = 0 + i * sz := by rcases hoff with h | h <;> omega
          have hfit : xs.length * sz + news.length ≤ cur.size := by rw [h1, hcs, ← Nat.add_mul]; exact Nat.mul_le_mul_right _ hroom
          have hrun0 := run_append_room' (P := P) (w := w) T' ty E e' hT hq b xs.length c cur hh a ys.length cu news h1 h2 h3 hroom hfit
          obtain ⟨v', w', G', hr1, hr2, hr3, hr4⟩ := hrunO ty G w _ _ hg hbase' hu
          rw [hrun0] at hr1
          cases hr1
          have hf := run_firstCells_some (P := P) w sz ys.length a ys.length cu news h1 h2
          have hst := run_storeCells_at P b (xs.length * sz) e' news 0 cur w hh (by simpa using hfit) h3
          simp only [Nat.add_zero] at hst
          have hplace : i * sz + (xs.length - i) * sz = xs.length * sz := by rw [← Nat.add_mul]; congr 1; omega
          have hroom2 : xs.length - i + ys.length ≤ c - i := by omega
          refine ⟨.slice (some ⟨b, 0 + i * sz, none⟩) (xs.length - i + ys.length) (c - i), _, G', ?_, .inl ?_, hr3, hr4⟩
          · simp [Builtin.append_, run_underlying hT, run_sizeOf hq, Builtin.lenOf, hroom2, hf, Addr.add_none]
            rw [hplace, hst]
            simp
          · have := VRel.tl t1 sz (xs ++ ys) i b 0 (0 + i * sz) c (by rw [List.length_append]; exact hr2) (by rw [List.length_append]; omega) (.inl rfl)
            rw [List.length_append] at this
            rw [show xs.length - i + ys.length = xs.length + ys.length - i by omega]
            exact this
        · -- a new row
          have hwx : ∀ x ∈ xs.drop i, x.cells.length = sz := fun x hx => o3 x (List.mem_of_mem_drop hx)
          have hdl : (xs.drop i).length = xs.length - i := List.length_drop
          have hcell : ∀ j u, (vals.drop (i * sz))[j]? = some u → w.cell? (Addr.add ⟨b, off', none⟩ j) = some u := by
            intro j u hj
            rw [List.getElem?_drop] at hj
            have hjl := (List.getElem?_eq_some_iff.1 hj).1
            have hi2 : i < xs.length := by
              rcases Nat.lt_or_ge i xs.length with h | h
              · exact h
              · exfalso
                have : xs.length * sz ≤ i * sz := Nat.mul_le_mul_right _ h
                omega
            obtain rfl : off' = 0 + i * sz := by rcases hoff with h | h <;> omega
            have : cur.toList[i * sz + j]? = some u := by
              rw [← hct, List.getElem?_take] at hj
              split at hj
              · exact hj
              · cases hj
            rw [Addr.add_none]
            simp only [World.cell?, hh, Nat.zero_add]
            simpa using this
          have hdv : (vals.drop (i * sz)).length = (xs.length - i) * sz := by rw [List.length_drop, hvl, Nat.sub_mul]
          obtain ⟨v', w', hrun, ho, hgr⟩ := run_append_arg_grows (P := P) w T' ty E ti z' sz by_ hT hi hzz hsz hby hzs h0 ⟨b, off', none⟩ (xs.length - i) (c - i) (vals.drop (i * sz)) hdv hcell a ys.length cu news h1 h2 (by omega) (by simp only [maxLen]; have := hb.2; omega) (by
            refine Nat.le_trans (Nat.mul_le_mul_right _ ?_) hb.1; omega)
          obtain ⟨G', r1, r2, r3⟩ := own_grows (t := t1) (xs := xs.drop i) hg ht2 hwx h3 h4 h5 (by rw [hdl]; exact ho) hgr (fun u hu => o4 u (List.mem_of_mem_drop hu)) (by rw [flat_drop i o3]; exact o5.drop (i * sz))
          refine ⟨v', w', G', hrun, .inr ?_, r2, r3⟩
          obtain ⟨ao, c2, rfl, _, hn2, _, hs⟩ := r1.sl_inv
          have hne : 0 < (xs.drop i ++ ys).length := by rw [List.length_append]; omega
          rcases hs with hs | ⟨b2, off2, vals2, rfl, _⟩
          · rw [hs] at hne; simp at hne
          · have := VRel.tl t1 sz (xs.drop i ++ ys) 0 b2 off2 off2 c2 r1 (Nat.zero_le _) (.inl (by omega))
            simpa using this
    · exact h.elim
  · exact h.elim

end ops
end Go.AM
