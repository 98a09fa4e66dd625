/- LoU Am3 CmB0 -/
import Derived.Test.YtebcmlhgfmkpnaaGreatg12
import Derived.Test.YtebcmlhgfmkpnaaGreatg17
import Derived.Test.YtebcmlhgfmkpnaaGreatg7
import Derived.SizedLaws
import Derived.Test.YtebcmlhgfmkpnaaGreatRows
import Derived.Test.YtebcmlhgfmkpnaaGreatg8
namespace Go.AM
open Go Go.Proofs Go.RowKit
set_option maxRecDepth 100000
set_option maxHeartbeats 8000000
theorem drawL_ok {l : List Int} {n : Nat} (hn : 1 <= n) : ∀ (k : Nat) {a : Nat}, a <= l.length -> (drawL l n k a).1.length = k /\ (∀ x ∈ (drawL l n k a).1, 0 <= x /\ x < n) /\ (drawL l n k a).2 <= l.length
 | 0, a, ha => ⟨rfl, fun x hx => absurd hx (by simp [drawL]), ha⟩
 | k + 1, a, ha => by
  obtain ⟨h1, h2, h3⟩ := drawL_ok hn k ha
  have hv := pickV_lt (l := l) (at_ := (drawL l n k a).2) (n := n) (by omega)
  have hp := pickA_le h3
  refine ⟨by simp only [drawL, List.length_append, h1, List.length_cons, List.length_nil], fun x hx => ?_, by simp only [drawL]; exact hp⟩
  simp only [drawL, List.mem_append, List.mem_singleton] at hx
  rcases hx with hx | hx
  ·exact h2 x hx
  ·rw [hx]; exact hv
theorem drawWs_ok {l : List Int} {n most : Nat} (hn : 1 <= n) : ∀ (i : Nat) {a : Nat}, a <= l.length -> (drawWs l n most i a).1.length = i /\ (∀ w ∈ (drawWs l n most i a).1, w.length <= most /\ ∀ x ∈ w, 0 <= x /\ x < n) /\ (drawWs l n most i a).2 <= l.length
 | 0, a, ha => ⟨rfl, fun x hx => absurd hx (by simp [drawWs]), ha⟩
 | i + 1, a, ha => by
  obtain ⟨h1, h2, h3⟩ := drawWs_ok (most := most) hn i ha
  have hv := pickV_lt (l := l) (at_ := (drawWs l n most i a).2) (n := most + 1) (by omega)
  have hp := pickA_le h3
  obtain ⟨g1, g2, g3⟩ := drawL_ok hn (pickV l (drawWs l n most i a).2 (most + 1)).toNat hp
  refine ⟨by simp only [drawWs, List.length_append, h1, List.length_cons, List.length_nil], fun w hw => ?_, by simp only [drawWs]; exact g3⟩
  simp only [drawWs, List.mem_append, List.mem_singleton] at hw
  rcases hw with hw | hw
  ·exact h2 w hw
  ·rw [hw]; exact ⟨by rw [g1]; omega, g2⟩
theorem drawP_ok {l : List Int} {nl : Nat} (hn : 1 <= nl) : ∀ (k : Nat) {a : Nat}, a <= l.length -> LawP nl k (drawP l nl k a).1 /\ (drawP l nl k a).2 <= l.length
 | 0, a, ha => ⟨⟨Nat.zero_le _, fun x hx => absurd hx (by simp [drawP])⟩, ha⟩
 | k + 1, a, ha => by
  obtain ⟨h1, h2⟩ := drawP_ok hn k ha
  have hv := pickV_lt (l := l) (at_ := (drawP l nl k a).2) (n := nl) (by omega)
  exact ⟨by simp only [drawP]; exact h1.snoc hv, by simp only [drawP]; exact pickA_le (pickA_le h2)⟩
theorem drawC_ok {l : List Int} {nl : Nat} (hn : 1 <= nl) : ∀ (i : Nat) {a : Nat}, a <= l.length -> (drawC l nl i a).1.length = i /\ (∀ p ∈ (drawC l nl i a).1, LawP nl 3 p) /\ (drawC l nl i a).2 <= l.length
 | 0, a, ha => ⟨rfl, fun x hx => absurd hx (by simp [drawC]), ha⟩
 | i + 1, a, ha => by
  obtain ⟨h1, h2, h3⟩ := drawC_ok hn i ha
  have hv := pickV_lt (l := l) (at_ := (drawC l nl i a).2) (n := 4) (by omega)
  obtain ⟨g1, g2⟩ := drawP_ok hn (pickV l (drawC l nl i a).2 4).toNat (pickA_le h3)
  refine ⟨by simp only [drawC, List.length_append, h1, List.length_cons, List.length_nil], fun p hp => ?_, by simp only [drawC]; exact g2⟩
  simp only [drawC, List.mem_append, List.mem_singleton] at hp
  rcases hp with hp | hp
  ·exact h2 p hp
  ·rw [hp]; exact ⟨by have := g1.few; omega, g1.ls⟩
theorem cloudW_ok {l : List Int} {at_ : Nat} {m : MD} (ha : at_ <= l.length) (h1 : 1 <= m.states.length) (hl : 1 <= m.letters.length) :
  LawC m.states.length m.places.length m.letters.length (pickV l at_ m.states.length) (cloudW l at_ m) /\ cloudA l at_ m <= l.length := by
 obtain ⟨g1, g2, g3⟩ := drawC_ok (l := l) hl m.places.length (pickA_le ha)
 exact ⟨⟨pickV_lt (by omega), g1, g2⟩, g3⟩
theorem con_words1 (l : List Int) (at_ : Nat) (n letters most : Nat) (hs : Seeds l) (ha : at_ <= l.length) (hn : n <= 1000) (hl : 1 <= letters /\ letters <= 1000) (hm : most <= 1000) :
  Con Tryz.prog 43 [.pb 0 0, vi n, vi letters, vi most] [diceA l at_]
  fun r b => r = .sl 0 2 ((drawWs l letters most n at_).1.map wordN) /\ b = [diceA l (drawWs l letters most n at_).2] :=
 ((con_dwordsF l at_ n letters most hs ha hn hl hm).freezeB fun _ => true).mono fun r b ⟨r1, b1, ⟨ws, at', e, _, _, _, h4, h5⟩, h6, h7⟩ => by
  rw [<- e]
  subst h4; subst h5; subst h6; subst h7
  exact ⟨rfl, rfl⟩
theorem con_lConfig0 (l : List Int) (at_ : Nat) (m : MD) (hs : Seeds l) (ha : at_ <= l.length) (hk : m.kind = 2) (h1 : 1 <= m.states.length /\ m.states.length <= 1000) (h2 : 1 <= m.places.length /\ m.places.length <= 1000) (h3 : 1 <= m.letters.length /\ m.letters.length <= 1000) :
  Con Tryz.prog 15 [.pb 0 0, vM m] [diceA l at_]
  fun r b => r = .ag [vi 0, .sl 2 2 (kidN (pickV l at_ m.states.length) :: (drawWs l m.letters.length 2 m.places.length (pickA l at_)).1.map wordN)] /\ b = [diceA l (drawWs l m.letters.length 2 m.places.length (pickA l at_)).2] := by
 refine Con.intro Tryz.func15 rfl Tryz.ntmps15 Tryz.results15 (by kernel_rfl) (by simp) 1 (by simp) ?_
 have ei := con_words1 l (pickA l at_) m.places.length m.letters.length 2 hs (pickA_le ha) h2.2 h3 (by omega)
 have hlw := (drawWs_ok (l := l) (most := 2) h3.1 m.places.length (pickA_le ha)).1
 unfold vM cM
 rw [hk]
 simp only [go_sem, vss]
 refine DrawK.effs0 0 [4, 14] [] 15 (.one 15 (.one 16 (.one 17 .done))) none (diceA l at_) mixed (by kernel_rfl) (by kernel_rfl) (by simp only [go_sem]) (by simp only [go_sem]) ?_
 simp only [go_sem, List.length_map]
 refine EffK.mk (con_pickF l at_ m.states.length hs ha (by omega)) (by simp only [go_sem]) (by simp only [go_sem]) (by simp only [go_sem]) (by simp only [go_sem]) ?_
 simp only [go_sem, List.length_map]
 refine EffK.mk ei (by simp only [go_sem]) (by simp only [go_sem]) (by simp only [go_sem]) (by simp only [go_sem]) ?_
 simp only [go_sem]
 refine ⟨⟨by simp only [hlw]; omega, ?_⟩, trivial⟩
 rw [hlw]; omega
theorem con_lConfig (l : List Int) (at_ : Nat) (m : MD) (hs : Seeds l) (ha : at_ <= l.length) (hk : m.kind = 2) (h1 : 1 <= m.states.length /\ m.states.length <= 1000) (h2 : 1 <= m.places.length /\ m.places.length <= 1000) (h3 : 1 <= m.letters.length /\ m.letters.length <= 1000) :
  Con Tryz.prog 15 [.pb 0 0, vM m] [diceA l at_]
  fun r b => r = vV (chanV (pickV l at_ m.states.length) (drawWs l m.letters.length 2 m.places.length (pickA l at_)).1) /\ b = [diceA l (drawWs l m.letters.length 2 m.places.length (pickA l at_)).2] :=
 ((con_lConfig0 l at_ m hs ha hk h1 h2 h3).freezeB fun _ => true).weak fun r b ⟨r1, b1, ⟨h1, h2⟩, h3, h4⟩ => by
  subst h1; subst h2; subst h3; subst h4
  refine ⟨_, ⟨rfl, rfl⟩, ?_⟩
  rw [vV_eq]
  exact leV_ag ⟨leV_refl _, kids_le _ _, trivial⟩
theorem LawC.ok {m : MD} {s : Int} {W : List (List TmD)} (h : LawC m.states.length m.places.length m.letters.length s W) (hn : 1 <= m.letters.length /\ m.letters.length <= 6) (hf : m.places.length <= 1000) : CloudOk m s W :=
 ⟨h.st, h.len, fun p hp => (h.ws p hp).valid (by omega) (by omega), ⟨hf, by omega⟩⟩
end Go.AM

namespace Go.Proofs.YtebcmlhgfmkpnaaGreat
open Go.ChangeShapes Go.WideShapes Go.ChangeAt Go.RowKit Go.AM
theorem own : ownKnob Tryz.prog.godebug = none := by kernel_rfl
theorem laidOut : laidOutB Tryz.prog = true := by kernel_rfl
theorem read22 : Tryz.prog.readableRec 22 = true /\ 22 < Tryz.prog.types.size := ⟨by kernel_rfl, of_decide_eq_true (by kernel_rfl)⟩
theorem reads22 (n : Nat) : ∀ t ∈ List.replicate n 22, Tryz.prog.readableRec t = true /\ t < Tryz.prog.types.size := fun t ht => by rw [List.eq_of_mem_replicate ht]; exact read22
section
variable {H : Type} {enc : TypeId × Value -> H} {P : Program} {w : World} {base : Nat} {spare : Nat -> Bool} {held : Bool}
def numU (d : DataW H) : Int := IntKind.u8.wrap (numI d)
theorem numU_range (d : DataW H) : 0 <= numU d /\ numU d < 256 := by unfold numU; rw [IntKind.wrap_u8]; omega
theorem stands_u8 {e : TypeId} (he : P.underlying e = some (.int .u8)) : Stands enc P w base spare held e fun d => vu (numU d) := by
 intro n v d ps h
 obtain ⟨x, e0, e1, wx⟩ := DataW.trod_int he h
 simp only [List.cons.injEq, and_true] at e0
 simp only [Prod.mk.injEq] at e1
 obtain ⟨rfl, _⟩ := e1
 subst e0
 have e2 : numU (.lit (.int .u8 x) : DataW H) = x := by
  have : IntKind.u8.wrap x = x := by
   have h1 : 0 <= x /\ x <= 255 := by simpa [Lit.wf, IntKind.min, IntKind.max, IntKind.signed, IntKind.bits] using wx
   rw [IntKind.wrap_u8]; omega
  exact this
 simp only [e2, vu]
 exact ⟨.sc _, rfl, rfl⟩
theorem row_len {α : Type} {t e : TypeId} {f : DataW H -> α} {v : Value} {d : DataW H} {ps : List MemPlace} (ht : P.underlying t = some (.slice e)) (hc : P.cellsOf e = 1) (h1 : v.cells.toList = [v]) (h : DataW.Trod enc P w base spare held t v d ps) : (rowOf f d).length <= 9223372036854775807 := by
 obtain ⟨n, h⟩ := h
 rw [h1] at h
 rcases Go.Deep.open_slice1 ht hc h with ⟨_, h2⟩ | ⟨a, len, cap, m, n', V, D, Pl, _, _, hl, hm, _, h2, _⟩
 ·simp only [Prod.mk.injEq] at h2
  obtain ⟨rfl, _⟩ := h2
  simp [rowOf]
 ·simp only [Prod.mk.injEq] at h2
  obtain ⟨rfl, _⟩ := h2
  simp only [rowOf, List.length_map, List.length_range]
  unfold maxLen at hm; omega
theorem rowU_range (d : DataW H) : ∀ x ∈ rowOf numU d, 0 <= x /\ x < 256 := fun x hx => by
 cases d <;> simp only [rowOf, List.not_mem_nil] at hx
 obtain ⟨y, _, rfl⟩ := List.mem_map.1 hx
 exact numU_range y
end
end Go.Proofs.YtebcmlhgfmkpnaaGreat
