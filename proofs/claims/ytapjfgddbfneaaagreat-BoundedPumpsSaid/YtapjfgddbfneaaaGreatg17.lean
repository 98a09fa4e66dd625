/- TZ -/
import Derived.Test.YtapjfgddbfneaaaGreatg16
namespace Go.AM
open Go Go.Proofs Go.RowKit
set_option maxRecDepth 100000
set_option maxHeartbeats 8000000
theorem hasOm_iff {ns np : Nat} {l : List ND} {L : List SV} (hL : LimOk ns np l l.length L) (ho : ∀ i, i < l.length -> okV np l[i]!.vec) : hasOm L = true ↔ ∃ i, i < l.length /\ ¬ noOm l[i]!.vec := by
 rw [<- lim_om hL ho]
 unfold hasOm
 rw [List.any_eq_true]
 constructor
 ·rintro ⟨y, hy, h⟩
  exact ⟨y, hy, fun hn => by rw [noOm_iff.1 hn] at h; cases h⟩
 ·rintro ⟨y, hy, h⟩
  exact ⟨y, hy, by rw [<- Bool.not_eq_false]; exact fun hn => h (noOm_iff.2 hn)⟩
theorem rep_pump {m : MD} {v0 : List Int} (h : PlainM m 0 v0) {b a : List Int} (hp : PumpOk m.rules v0 m.places.length b a) :
  (∀ k ∈ b, 0 <= k /\ k < m.rules.length) /\ (∀ k ∈ a, 0 <= k /\ k < m.rules.length) /\ b.length + a.length <= 64 /\ a ≠ [] /\ ∃ v w : List Int, ∃ st : Int, v.length = m.places.length /\ w.length = m.places.length /\ growsF m.rules (0, v0) b a = (0, growL v w) /\ (growL v w).length ≠ 0 /\
   ∀ n : Nat, n <= 4 -> ((repF m.rules (0, v0) b a n).1 = 1 /\ n ≠ 0) \/ ((repF m.rules (0, v0) b a n).1 = 0 /\ ChainS m.rules 0 v0 (repF m.rules (0, v0) b a n).2 /\ (repF m.rules (0, v0) b a n).2.length <= 64 /\ ∃ u, endS 0 v0 (repF m.rules (0, v0) b a n).2 = (st.toNat, u) /\ u.length = m.places.length /\ ∀ x, x < m.places.length -> u[x]! = v[x]! + n * (w[x]! - v[x]!)) := by
 obtain ⟨st, v, w, kb, ka, rfl, rfl, hl, hka, hk, hrb, hra, hv, hw, hle, hlt⟩ := hp.ex
 have hkb : ∀ k ∈ kb.map Int.ofNat, 0 <= k /\ k < m.rules.length := fun k hk' => by
  obtain ⟨x, hx, rfl⟩ := List.mem_map.1 hk'
  have := hk x (List.mem_append.2 (.inl hx))
  exact ⟨Int.natCast_nonneg _, by show (x : Int) < _; omega⟩
 have hkA : ∀ k ∈ ka.map Int.ofNat, 0 <= k /\ k < m.rules.length := fun k hk' => by
  obtain ⟨x, hx, rfl⟩ := List.mem_map.1 hk'
  have := hk x (List.mem_append.2 (.inr hx))
  exact ⟨Int.natCast_nonneg _, by show (x : Int) < _; omega⟩
 have hgv := grows_pump hrb hra hv hw hle hlt
 have hg : ∀ r ∈ m.rules, ∀ i, i < m.places.length -> 0 <= r.give[i]! := fun r hr i hi => ((plain_slim h r hr).low i hi).2.2.1
 have hd : ∀ r ∈ m.rules, 0 <= r.dst := fun r hr => by
  obtain ⟨f1, f2, f3, f4, f5, f6⟩ := (h.fine r hr).right
  exact f3
 have h0 : finV m.places.length v0 := ⟨h.conf.len, h.conf.low⟩
 refine ⟨hkb, hkA, by simpa using hl, by simpa using hka, v, w, st, hv, hw, hgv.1, hgv.2, fun n hn => ?_⟩
 have hrepI : ∀ i, ∀ k ∈ repI (ka.map Int.ofNat) i, k ∈ ka.map Int.ofNat := fun i => by
  induction i with
  | zero => intro k hk; cases hk
  | succ i ih => intro k hk; rcases List.mem_append.1 hk with hk | hk; exact ih k hk; exact hk
 by_cases hlim : (64 - (kb.map Int.ofNat).length) / (ka.map Int.ofNat).length < n
 ·left
  refine ⟨by unfold repF; rw [if_pos hlim], fun hn0 => by rw [hn0] at hlim; exact Nat.not_lt_zero _ hlim⟩
 have hn64 : (kb.map Int.ofNat).length + n * (ka.map Int.ofNat).length <= 64 := by
  have h1 : n <= (64 - (kb.map Int.ofNat).length) / (ka.map Int.ofNat).length := by omega
  have h2 := Nat.mul_le_mul_right (ka.map Int.ofNat).length h1
  have h3 := Nat.div_mul_le_self (64 - (kb.map Int.ofNat).length) (ka.map Int.ofNat).length
  have h4 : (kb.map Int.ofNat).length <= 64 := by rw [List.length_map]; omega
  omega
 have e : repF m.rules (0, v0) (kb.map Int.ofNat) (ka.map Int.ofNat) n = if (walkF m.rules (0, v0) (kb.map Int.ofNat ++ repI (ka.map Int.ofNat) n)).1 = 0 then (0, (walkF m.rules (0, v0) (kb.map Int.ofNat ++ repI (ka.map Int.ofNat) n)).2.2) else ((walkF m.rules (0, v0) (kb.map Int.ofNat ++ repI (ka.map Int.ofNat) n)).1, []) := by
  unfold repF
  rw [if_neg hlim]
  rfl
 have hfar := pump_far hg h0 hrb hra hle n
 have hlen : (kb.map Int.ofNat ++ repI (ka.map Int.ofNat) n).length = (kb.map Int.ofNat).length + n * (ka.map Int.ofNat).length := firstR_len _ _ n
 have hmem : ∀ k ∈ kb.map Int.ofNat ++ repI (ka.map Int.ofNat) n, 0 <= k /\ k < m.rules.length := fun k hk' => by
  rcases List.mem_append.1 hk' with hk' | hk'
  ·exact hkb k hk'
  ·exact hkA k (hrepI n k hk')
 have hz : n = 0 -> (walkF m.rules (0, v0) (kb.map Int.ofNat ++ repI (ka.map Int.ofNat) n)).1 = 0 := fun hn0 => by
  rw [hn0]
  show (walkF m.rules (0, v0) (kb.map Int.ofNat ++ [])).1 = 0
  rw [List.append_nil]
  exact (walk_runS hrb).1
 rcases hfar with h1 | ⟨h1, u, h2, h3, h4⟩
 ·left
  refine ⟨?_, fun hn0 => by rw [hz hn0] at h1; omega⟩
  rw [e, if_neg (by rw [h1]; decide)]
  exact h1
 ·right
  rw [e, if_pos h1]
  have hch := walk_chain hd (ks := kb.map Int.ofNat ++ repI (ka.map Int.ofNat) n) (x := (0, v0)) (y := (st, u)) (st := (walkF m.rules (0, v0) (kb.map Int.ofNat ++ repI (ka.map Int.ofNat) n)).2.2) hmem (Int.le_refl _) (Prod.ext h1 (Prod.ext h2 rfl))
  refine ⟨rfl, hch.1, ?_, u, hch.2, h3, h4⟩
  exact Nat.le_trans (walk_len _ _ _) (by rw [hlen]; exact hn64)
theorem con_bpumpsLaw (l : List Int) (k : Nat) (hl : l.length <= 9223372036854775807) (hx : ∀ x ∈ l, 0 <= x /\ x < 256) (hk : k < 256) :
  Con Tryz.prog 6 [.sl 0 1 (l.map vu), .sc (.int .u8 k)] [] fun r _ => r = vb true := by
 refine Con.intro Tryz.func6 rfl Tryz.ntmps6 Tryz.results6 (by kernel_rfl) (by simp) 0 (by simp) ?_
 have hs : Seeds (l.take 200) := ⟨by rw [List.length_take]; omega, fun x h => hx x (List.mem_of_mem_take h)⟩
 simp only [go_sem]
 refine CallU.free con_sane29 (by simp only [go_sem]) (by simp only [go_sem]) ?_
 rintro r bx rfl
 simp only [go_sem]
 refine CallU.news (bx0 := []) (con_new l hl) (by simp only [go_sem]) (by simp only [go_sem]) (by simp only [go_sem]) (by simp only [go_sem]) (by simp only [go_sem]) ?_
 rintro r bx ⟨rfl, rfl⟩
 generalize l.take 200 = sd at hs
 simp only [go_sem]
 refine CallU.boxes (i := 0) (is := []) (bx0 := [diceA sd 0]) (con_Counter sd 0 hs (by omega)) (by simp only [go_sem]) (by simp only [go_sem]) (by simp only [go_sem]) (by simp only [go_sem]) (by simp only [go_sem]) ?_
 rintro r bx ⟨ns, np, rules, v0, at1, hd, ha1, rfl, rfl⟩
 have hP := deal_plain hd
 generalize dealM ns np rules v0 = m at hP
 simp only [go_sem, vM, cM, vss]
 refine CallU.boxes (i := 0) (is := []) (bx0 := [diceA sd at1]) (con_tree m v0 sd at1 hP) (by simp only [go_sem]) (by simp only [go_sem]) (by simp only [go_sem]) (by simp only [go_sem, vM, cM, vss]) (by simp only [go_sem]) ?_
 rintro r bx ⟨tn, next, ok, hT, rfl, rfl⟩
 cases ok
 ·simp only [go_sem]
 obtain ⟨hT, h60, hM⟩ := hT rfl
 simp only [go_sem]
 refine CallU.free (con_rdone tn next) (by simp only [go_sem]) (by simp only [go_sem]) ?_
 rintro r bx rfl
 by_cases hdn : next = tn.length
 case neg =>
  have hdn' : ((next : Int) == (tn.length : Int)) = false := beq_eq_false_iff_ne.2 (by omega)
  simp only [go_sem, hdn']
 subst hdn
 have hdn' : ((tn.length : Int) == (tn.length : Int)) = true := beq_iff_eq.2 rfl
 simp only [go_sem, hdn']
 have h6 := hP.good.places
 have hLim := con_rlimits tn tn.length m.states.length m.places.length hT.nodes (by omega)
 have hoks : ∀ i, i < tn.length -> okV m.places.length tn[i]!.vec := fun i hi => (hT.node i hi).vec
 refine CallU.free (con_bfind m v0 tn tn.length hP hT hM h60) (by simp only [go_sem]) (by simp only [go_sem, vM, cM, vss]) ?_
 rintro r bx (⟨rfl, hno⟩ | ⟨b, a, rfl, hp, hno⟩)
 ·simp only [go_sem]
  refine CallU.free hLim (by simp only [go_sem]) (by simp only [go_sem]) ?_
  rintro r bx ⟨L, hL, rfl⟩
  have h256 : L.length <= 256 := by have := hL.few; have := hT.len; omega
  have hAll := con_ball L (fun y hy => by have := (hL.real y hy).2.2.1.1; omega) (by omega)
  have e : hasOm L = false := by
   rw [<- Bool.not_eq_true, hasOm_iff hL hoks]
   rintro ⟨i, hi, h⟩
   exact h (hno i hi)
  rw [e] at hAll
  simp only [go_sem]
  refine CallU.free hAll (by simp only [go_sem]) (by simp only [go_sem]) ?_
  rintro r bx rfl
  simp only [go_sem]
 obtain ⟨hkb, hka, hl64, hane, v, w, st, hv, hw, hgr, hgl, hrep⟩ := rep_pump hP hp
 have hG := con_grows m v0 b a hP hkb hka hl64
 rw [hgr, show growA (0, growL v w) = .tup [vs 2 (growL v w), vi 0] from rfl] at hG
 simp only [go_sem]
 refine CallU.free hLim (by simp only [go_sem]) (by simp only [go_sem]) ?_
 rintro r bx ⟨L, hL, rfl⟩
 have h256 : L.length <= 256 := by have := hL.few; have := hT.len; omega
 have hAll := con_ball L (fun y hy => by have := (hL.real y hy).2.2.1.1; omega) (by omega)
 have e : hasOm L = true := by
  rw [hasOm_iff hL hoks]
  apply Classical.byContradiction
  intro hn
  exact hno fun i hi => Classical.byContradiction fun h => hn ⟨i, hi, h⟩
 rw [e] at hAll
 simp only [go_sem]
 refine CallU.free hAll (by simp only [go_sem]) (by simp only [go_sem]) ?_
 rintro r bx rfl
 simp only [go_sem]
 refine CallU.free hG (by simp only [go_sem]) (by simp only [go_sem, vM, cM, vss]) ?_
 rintro r bx rfl
 have wk : IntKind.i64.wrap (k : Int) = k := wrap_in (by omega) (by omega)
 have wt : (k : Int).tmod 5 = ((k % 5 : Nat) : Int) := rfl
 have hn4 : k % 5 <= 4 := by omega
 generalize k % 5 = n at wt hn4
 have hR1 := con_brepG m v0 b a n _ hP hkb hka hl64 hane hgr hn4
 have hR0 := con_brepG m v0 b a 0 _ hP hkb hka hl64 hane hgr (by omega)
 rcases hrep 0 (by omega) with ⟨_, h0⟩ | ⟨e0, hch0, hlen0, u0, hend0, hul0, hu0⟩
 ·exact absurd rfl h0
 have eA0 : repA (repF m.rules (0, v0) b a 0) = .tup [.sl 2 3 ((repF m.rules (0, v0) b a 0).2.map vStep), vi 0] := by unfold repA; rw [if_pos e0]
 rw [eA0] at hR0
 generalize (repF m.rules (0, v0) b a 0).2 = st0 at hR0 hch0 hlen0 hend0
 rcases hrep n hn4 with ⟨e1, _⟩ | ⟨e1, hch1, hlen1, u, hend1, hul1, hu1⟩
 ·have eA1 : repA (repF m.rules (0, v0) b a n) = .tup [.nil, vi 1] := by unfold repA; rw [e1, if_neg (by decide)]
  rw [eA1] at hR1
  simp only [go_sem, wk, wt]
  refine CallU.free hR1 (by simp only [go_sem]) (by simp only [go_sem, vM, cM, vss]) ?_
  rintro r bx rfl
  simp only [go_sem]
  refine CallU.free hR0 (by simp only [go_sem]) (by simp only [go_sem, vM, cM, vss]) ?_
  rintro r bx rfl
  simp only [go_sem]
 have eA1 : repA (repF m.rules (0, v0) b a n) = .tup [.sl 2 3 ((repF m.rules (0, v0) b a n).2.map vStep), vi 0] := by unfold repA; rw [if_pos e1]
 rw [eA1] at hR1
 generalize (repF m.rules (0, v0) b a n).2 = st1 at hR1 hch1 hlen1 hend1
 have hP1 := con_replay m v0 st1 hP hch1 hlen1
 have hP0 := con_replay m v0 st0 hP hch0 hlen0
 rw [hend1] at hP1
 rw [hend0] at hP0
 simp only at hP1 hP0
 simp only [go_sem, wk, wt]
 refine CallU.free hR1 (by simp only [go_sem]) (by simp only [go_sem, vM, cM, vss]) ?_
 rintro r bx rfl
 simp only [go_sem]
 refine CallU.free hR0 (by simp only [go_sem]) (by simp only [go_sem, vM, cM, vss]) ?_
 rintro r bx rfl
 simp only [go_sem]
 refine CallU.freeze hP1 (by simp only [go_sem]) (by simp only [go_sem, vM, cM, vss]) ?_
 rintro r bx rfl
 simp only [go_sem]
 refine CallU.freeze hP0 (by simp only [go_sem]) (by simp only [go_sem, vM, cM, vss]) ?_
 rintro r bx rfl
 simp only [go_sem]
 have k0 : ∀ w : List Int, (List.map vV (cfgC st.toNat w).kids)[0]? = some (.ag [vi (st.toNat : Int), .sl 0 2 []]) := fun w => by
  show (List.map vV (CV.mk st.toNat [] :: w.map fun n => CV.mk n []))[0]? = _
  rw [List.map_cons, List.getElem?_cons_zero, vV_eq]; rfl
 have kl : ∀ w : List Int, (cfgC st.toNat w).kids.length = w.length + 1 := fun w => by
  show (CV.mk st.toNat [] :: w.map fun n => CV.mk n []).length = _
  simp
 have kp : ∀ w : List Int, 0 < (cfgC st.toNat w).kids.length := fun w => by rw [kl]; omega
 refine DrawK.walk 18 mixed (by kernel_rfl) ?_
 simp only [go_sem, k0, kp, List.length_map]
 have hc1 := chain_good hP hP.conf hch1
 have hc0 := chain_good hP hP.conf hch0
 rw [hend1] at hc1
 rw [hend0] at hc0
 simp only at hc1 hc0
 have hgl2 : (growL v w).length <= 1000 := by
  have h := growN_len v w w.length
  rw [grow_all] at h
  omega
 refine LoopK.intro (fun i : Nat => ⟨152, [(11, .sl 3970 1 ((growL v w).map vi)), (13, vi n), (18, .pb 4 0), (21, .pb 5 0), (125, .sl 3970 1 ((growL v w).map vi)), (126, vi (growL v w).length), (127, vi i)], [diceA sd at1, cM m, [.sl 0 4 (tn.map vND), vi tn.length], [vs 0 b, vs 0 a], [vi 0, .sl 0 2 ((cfgC st.toNat u).kids.map vV)], [vi 0, .sl 0 2 ((cfgC st.toNat u0).kids.map vV)]]⟩) (fun i => (growL v w).length - i) (fun i => i <= (growL v w).length) 0 (by omega) ?_ ?_
 ·simp only [go_sem, cM, vss]
 rintro i hi
 by_cases hlt : i < (growL v w).length
 case neg =>
  have hpos : (0 : Int) < ((growL v w).length : Int) := by omega
  simp only [go_sem, cM, vss, hlt, hpos, List.length_map]
 have hg := getv hlt
 obtain ⟨x, ex, hxn, hxu⟩ := grown_by (n := n) hw hu1 (show (growL v w)[i]! ∈ growL v w by rw [getElem!_pos _ i hlt]; exact List.getElem_mem hlt)
 rw [ex] at hg
 have h0x : u0[x]! = v[x]! := by rw [hu0 x hxn]; simp
 have b1 : 0 <= u[x]! /\ u[x]! <= 1048576 := hc1.low _ (mem_bangI (show x < u.length by omega))
 have b0 : 0 <= u0[x]! /\ u0[x]! <= 1048576 := hc0.low _ (mem_bangI (show x < u0.length by omega))
 have hnot : ¬ u[x]! < u0[x]! + n := by omega
 have w1 : IntKind.i64.wrap ((x : Int) + 1) = (x : Int) + 1 := wrap_in (by omega) (by omega)
 have w2 : IntKind.i64.wrap (u0[x]! + (n : Int)) = u0[x]! + n := wrap_in (by omega) (by omega)
 have w3 : IntKind.i64.wrap ((i : Int) + 1) = i + 1 := wrap_in (by omega) (by omega)
 have ht : ((x : Int) + 1).toNat = x + 1 := by omega
 have hnn : (0 : Int) <= (x : Int) + 1 := by omega
 have q1 : (x : Int) + 1 < ((cfgC st.toNat u).kids.length : Int) := by rw [kl]; omega
 have q0 : (x : Int) + 1 < ((cfgC st.toNat u0).kids.length : Int) := by rw [kl]; omega
 have z1 := cfg_kid (s := st.toNat) (v := u) (i := x) (by omega)
 have z0 := cfg_kid (s := st.toNat) (v := u0) (i := x) (by omega)
 simp only [go_sem, cM, vss, hlt, hg, List.length_map]
 refine DrawK.walk 16 mixed (by kernel_rfl) ?_
 simp only [go_sem, w1, w2, w3, ht, hnn, q1, q0, z1, z0, hnot, List.length_map]
 refine roundK.intro (i + 1) (by omega) (by omega) ?_
 simp only [go_sem]
end Go.AM
