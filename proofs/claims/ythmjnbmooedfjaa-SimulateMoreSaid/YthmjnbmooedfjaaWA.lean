/-
  Walks: SimulateOrder, under the sanity check.
-/
import Derived.Test.YthmjnbmooedfjaaW9
namespace Go.AM
open Go Go.Proofs Go.RowKit

/-- the sanity check holds -/
def Sane : Prop := Con Try.prog 9 [] [] fun r _ => r = .sc (.bool true)

theorem seeds_take {l : List Int} (hx : ∀ x ∈ l, 0 ≤ x ∧ x < 256) : Seeds (l.take 200) := ⟨by rw [List.length_take]; omega, fun x h => hx x (List.mem_of_mem_take h)⟩

theorem order_refl {a : Sys} {o : Bool} (ka : checkS a = 0) (h : Sim00 a a o) : o = true := by
  obtain ⟨R, hR, rfl⟩ := h
  exact great_refl hR (checkS_inside ka) (checkS_ok ka).1
theorem order_trans {a b c : Sys} {p q u : Bool} (ka : checkS a = 0) (kb : checkS b = 0) (kc : checkS c = 0) (hp : Sim00 a b p) (hq : Sim00 b c q) (hu : Sim00 a c u) : p = true → q = true → u = true := by
  obtain ⟨R, hR, rfl⟩ := hp
  obtain ⟨S, hS, rfl⟩ := hq
  obtain ⟨T, hT, rfl⟩ := hu
  exact great_trans hR hS hT (checkS_inside ka) (checkS_inside kb) (checkS_inside kc) (checkS_ok ka).1 (checkS_ok kb).1 (checkS_ok kc).1
theorem order_all {a : Sys} (ka : checkS a = 0) (hd : Dealt a) : simV a allS = true := by
  obtain ⟨R, hR⟩ := exists_greatest a allS
  have h : Sim00 a allS (rel R 0 0) := ⟨R, hR, rfl⟩
  rw [← h.eq (checkS_inside ka) (checkS_inside all_check) (checkS_ok ka).1 (by decide)]
  exact great_all hR (checkS_inside ka) (fun l hl q hq => by have := (hd.2.2 l hl).2 q hq; omega) (checkS_ok ka).1

set_option maxRecDepth 100000 in
set_option maxHeartbeats 2000000 in
theorem con_order (hsane : Sane) (l : List Int) (hl : l.length ≤ 9223372036854775807) (hx : ∀ x ∈ l, 0 ≤ x ∧ x < 256) : Con Try.prog 5 [.sl 0 1 (l.map vu)] [] fun r _ => r = .sc (.bool true) := by
  have hs := seeds_take hx
  refine Con.intro Try.func5 rfl Try.ntmps5 Try.results5 (by kernel_rfl) (by simp) 0 (by simp) ?_
  simp only [go_sem]
  refine CallU.free hsane (by simp only [go_sem]) (by simp only [go_sem]) ?_
  rintro r bx rfl
  simp only [go_sem]
  refine CallU.news (bx0 := []) (con_new l hl) (by simp only [go_sem]) (by simp only [go_sem]) (by simp only [go_sem]) (by simp only [go_sem]) (by simp only [go_sem]) ?_
  rintro r bx ⟨rfl, rfl⟩
  simp only [go_sem]
  refine CallU.boxes (i := 0) (is := []) (bx0 := [diceA (l.take 200) 0]) (con_system (l.take 200) 0 hs (by omega)) (by simp only [go_sem]) (by simp only [go_sem]) (by simp only [go_sem]) (by simp only [go_sem]) (by simp only [go_sem]) ?_
  rintro r bx ⟨a, at1, rfl, hda, ha1, rfl⟩
  simp only [go_sem]
  refine CallU.boxes (i := 0) (is := []) (bx0 := [diceA (l.take 200) at1]) (con_system (l.take 200) at1 hs ha1) (by simp only [go_sem]) (by simp only [go_sem]) (by simp only [go_sem]) (by simp only [go_sem]) (by simp only [go_sem]) ?_
  rintro r bx ⟨b, at2, rfl, hdb, ha2, rfl⟩
  simp only [go_sem]
  refine CallU.boxes (i := 0) (is := []) (bx0 := [diceA (l.take 200) at2]) (con_system (l.take 200) at2 hs ha2) (by simp only [go_sem]) (by simp only [go_sem]) (by simp only [go_sem]) (by simp only [go_sem]) (by simp only [go_sem]) ?_
  rintro r bx ⟨c, at3, rfl, hdc, ha3, rfl⟩
  simp only [go_sem]
  have ka := dealt_check hda
  have kb := dealt_check hdb
  have kc := dealt_check hdc
  have la : a.length ≤ 8 := by have := hda.2.1; omega
  have lb : b.length ≤ 8 := by have := hdb.2.1; omega
  have lc : c.length ≤ 8 := by have := hdc.2.1; omega
  refine CallU.flat (con_simulates a b (dealt_both ka kb) (dealt_len hda) (dealt_len hdb) lb) (by simp only [go_sem]) (by simp only [go_sem]) ?_
  rintro r bx ⟨p, rfl, hp⟩
  simp only [go_sem]
  refine CallU.flat (con_simulates b c (dealt_both kb kc) (dealt_len hdb) (dealt_len hdc) lc) (by simp only [go_sem]) (by simp only [go_sem]) ?_
  rintro r bx ⟨q, rfl, hq⟩
  simp only [go_sem]
  refine CallU.flat (con_simulates a c (dealt_both ka kc) (dealt_len hda) (dealt_len hdc) lc) (by simp only [go_sem]) (by simp only [go_sem]) ?_
  rintro r bx ⟨u, rfl, hu⟩
  simp only [go_sem]
  refine CallU.flat (con_simulates a a (dealt_both ka ka) (dealt_len hda) (dealt_len hda) la) (by simp only [go_sem]) (by simp only [go_sem]) ?_
  rintro r bx ⟨o, rfl, ho⟩
  simp only [go_sem]
  refine DrawK.walk 8 mixed (by kernel_rfl) ?_
  simp only [go_sem]
  refine CallY.mk con_all (by simp only [go_sem]) (by simp only [go_sem]) (.inl rfl) ?_
  simp only [go_sem]
  refine CallY.mk (con_simulatesV a allS ka all_check (dealt_len hda) all_len (by decide)) (by simp only [go_sem, allS, List.map_cons, List.map_nil]) (by simp only [go_sem]) (.inr (by simp only [go_sem])) ?_
  have e1 : o = true := order_refl ka ho
  have e2 : simV a allS = true := order_all ka hda
  have e3 : p = true → q = true → u = true := order_trans ka kb kc hp hq hu
  cases p
  · cases q <;> simp only [go_sem, e1, e2]
  · cases q
    · simp only [go_sem, e1, e2]
    · simp only [go_sem, e1, e2, e3 rfl rfl]
end Go.AM
