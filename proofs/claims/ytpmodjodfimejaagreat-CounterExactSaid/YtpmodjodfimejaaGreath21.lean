/- HZ -/
import Derived.Test.YtpmodjodfimejaaGreath20
namespace Go.AM
open Go Go.Proofs Go.RowKit
set_option maxRecDepth 100000
set_option maxHeartbeats 8000000
theorem con_dModelG (l : List Int) (s s0 : DS) (z k k' : Int) (hz : (z = k /\ s0 = s) \/ (z = 0 /\ k = 1 + nextV l s 5 /\ s0 = nextS l s 5)) (hkk : k' = k) (hd : Dk l s) (hk : 1 <= k /\ k <= 6) : Con Tryz.prog 19 [.pb 0 0, vi z] [deckA l s]
  fun r b => ∃ (ns np nl : Nat) (ra : List Int) (lv ag : Int) (rules : List RD) (st : CV) (s' : DS), DealtG k' ns np nl ra lv ag rules st /\ Dk l s' /\ leV (r.freeze fun _ => true) (vM (dealtG k' ns np nl ra lv ag rules st)) /\ b = [deckA l s'] := by
 refine Con.intro Tryz.func19 rfl Tryz.ntmps19 Tryz.results19 (by kernel_rfl) (by simp) 1 (by simp) ?_
 apply share3 (T := fun τ => ∃ (ns np nl : Nat) (ra : List Int) (lv ag : Int) (K : Nat) (s' : DS), NumOk k' ns np nl ra lv ag /\ K <= 4 /\ Dk l s' /\ τ.le ⟨103, [(0, .pb 0 0), (1, vi k'), (4, .pb 1 0), (5, .pb 2 0), (6, vi ((K - 0 : Nat) : Int))], [deckA l s', [.any, .any, .any, .any, .any, .any, .any, .any, .any, .any],
    [vi k', vss (nmL qB ns), vss (nmL (plB k') np), vss (nmL lB nl), vs 0 ra, vi lv, vi ag, .sl 6080 14 [], vi 0, .nil]]⟩)
 case h =>
  intro hsh
  rcases hz with ⟨hzk, hs0⟩ | ⟨rfl, hk0, hs0⟩
  case' inl =>
   have hzk := hzk.symm
   subst hzk
   subst hs0
   have hd_s0 := hd
  case' inr =>
   have hd_s0 : Dk l s0 := by rw [hs0]; exact nextS_dk hd
   have hwk : IntKind.i64.wrap (1 + nextV l s 5) = k := by rw [<- hk0]; exact wrap_in (by omega) (by omega)
   simp only [go_sem]
   refine CallU.boxes (i := 0) (is := []) (bx0 := [deckA l s]) (con_dNext l s 5 hd) (by simp only [go_sem]) (by simp only [go_sem]) (by simp only [go_sem]) (by simp only [go_sem]) (by simp only [go_sem]) ?_
   rintro r b ⟨rfl, rfl⟩
   rw [<- hs0]
   simp only [go_sem, hwk]
  all_goals
   have hc : k = 1 \/ k = 2 \/ k = 3 \/ k = 4 \/ k = 5 \/ k = 6 := by omega
   rcases hc with hc | hc | hc | hc | hc | hc <;> subst hc
   ·simp only [go_sem]
    have hn_ns := nextV_lt (l := l) (s := s0) (n := 3) (by omega)
    have hd_s1 : Dk l (nextS l s0 3) := nextS_dk hd_s0
    refine CallU.boxes (i := 0) (is := []) (bx0 := [deckA l s0]) (con_dNext l s0 3 hd_s0) (by simp only [go_sem]) (by simp only [go_sem]) (by simp only [go_sem]) (by simp only [go_sem]) (by simp only [go_sem]) ?_
    rintro r b ⟨rfl, rfl⟩
    obtain ⟨ns, ens, hns⟩ : ∃ ns : Nat, 1 + nextV l s0 3 = ns /\ (1 <= ns /\ ns <= 3) := ⟨(1 + nextV l s0 3).toNat, by omega, by omega⟩
    have hw_ns : IntKind.i64.wrap (1 + nextV l s0 3) = ns := by rw [wrap_in (by omega) (by omega), ens]
    clear ens hn_ns
    simp only [go_sem, hw_ns]
    clear hw_ns
    generalize nextS l s0 3 = s1 at hd_s1 ⊢
    refine CallU.free (con_namesF qB ns (by decide) (by omega)) (by simp only [go_sem]) (by simp only [go_sem, qB]) ?_
    rintro r b rfl
    simp only [go_sem]
    have hn_np := nextV_lt (l := l) (s := s1) (n := 3) (by omega)
    have hd_s2 : Dk l (nextS l s1 3) := nextS_dk hd_s1
    refine CallU.boxes (i := 0) (is := []) (bx0 := [deckA l s1]) (con_dNext l s1 3 hd_s1) (by simp only [go_sem]) (by simp only [go_sem]) (by simp only [go_sem]) (by simp only [go_sem]) (by simp only [go_sem]) ?_
    rintro r b ⟨rfl, rfl⟩
    obtain ⟨np, enp, hnp⟩ : ∃ np : Nat, 1 + nextV l s1 3 = np /\ (1 <= np /\ np <= 3) := ⟨(1 + nextV l s1 3).toNat, by omega, by omega⟩
    have hw_np : IntKind.i64.wrap (1 + nextV l s1 3) = np := by rw [wrap_in (by omega) (by omega), enp]
    clear enp hn_np
    simp only [go_sem, hw_np]
    clear hw_np
    generalize nextS l s1 3 = s2 at hd_s2 ⊢
    refine CallU.free (con_namesF pB np (by decide) (by omega)) (by simp only [go_sem]) (by simp only [go_sem, pB]) ?_
    rintro r b rfl
    simp only [go_sem]
    have hn_K := nextV_lt (l := l) (s := s2) (n := 5) (by omega)
    have hd_K : Dk l (nextS l s2 5) := nextS_dk hd_s2
    refine CallU.boxes (i := 0) (is := []) (bx0 := [deckA l s2]) (con_dNext l s2 5 hd_s2) (by simp only [go_sem]) (by simp only [go_sem]) (by simp only [go_sem]) (by simp only [go_sem]) (by simp only [go_sem]) ?_
    rintro r b ⟨rfl, rfl⟩
    obtain ⟨K, eK, hK⟩ : ∃ K : Nat, nextV l s2 5 = K /\ K <= 4 := ⟨(nextV l s2 5).toNat, by omega, by omega⟩
    clear hn_K
    simp only [go_sem, eK]
    refine hsh _ ⟨ns, np, 0, [], 0, 0, K, _, by rw [hkk]; exact num1 hns hnp, hK, hd_K, ?_⟩
    rw [hkk]
    simp only [go_sem, vss, plB_1, nmL_zero, List.map_nil, Nat.sub_zero]
    repeat' (first | exact trivial | exact leV_nil _ _ | exact leV_refl _ | refine ⟨?_, ?_⟩)
   ·simp only [go_sem]
    have hn_ns := nextV_lt (l := l) (s := s0) (n := 3) (by omega)
    have hd_s1 : Dk l (nextS l s0 3) := nextS_dk hd_s0
    refine CallU.boxes (i := 0) (is := []) (bx0 := [deckA l s0]) (con_dNext l s0 3 hd_s0) (by simp only [go_sem]) (by simp only [go_sem]) (by simp only [go_sem]) (by simp only [go_sem]) (by simp only [go_sem]) ?_
    rintro r b ⟨rfl, rfl⟩
    obtain ⟨ns, ens, hns⟩ : ∃ ns : Nat, 1 + nextV l s0 3 = ns /\ (1 <= ns /\ ns <= 3) := ⟨(1 + nextV l s0 3).toNat, by omega, by omega⟩
    have hw_ns : IntKind.i64.wrap (1 + nextV l s0 3) = ns := by rw [wrap_in (by omega) (by omega), ens]
    clear ens hn_ns
    simp only [go_sem, hw_ns]
    clear hw_ns
    generalize nextS l s0 3 = s1 at hd_s1 ⊢
    refine CallU.free (con_namesF qB ns (by decide) (by omega)) (by simp only [go_sem]) (by simp only [go_sem, qB]) ?_
    rintro r b rfl
    simp only [go_sem]
    have hn_np := nextV_lt (l := l) (s := s1) (n := 2) (by omega)
    have hd_s2 : Dk l (nextS l s1 2) := nextS_dk hd_s1
    refine CallU.boxes (i := 0) (is := []) (bx0 := [deckA l s1]) (con_dNext l s1 2 hd_s1) (by simp only [go_sem]) (by simp only [go_sem]) (by simp only [go_sem]) (by simp only [go_sem]) (by simp only [go_sem]) ?_
    rintro r b ⟨rfl, rfl⟩
    obtain ⟨np, enp, hnp⟩ : ∃ np : Nat, 1 + nextV l s1 2 = np /\ (1 <= np /\ np <= 2) := ⟨(1 + nextV l s1 2).toNat, by omega, by omega⟩
    have hw_np : IntKind.i64.wrap (1 + nextV l s1 2) = np := by rw [wrap_in (by omega) (by omega), enp]
    clear enp hn_np
    simp only [go_sem, hw_np]
    clear hw_np
    generalize nextS l s1 2 = s2 at hd_s2 ⊢
    refine CallU.free (con_namesF cB np (by decide) (by omega)) (by simp only [go_sem]) (by simp only [go_sem, cB]) ?_
    rintro r b rfl
    simp only [go_sem]
    have hn_nl := nextV_lt (l := l) (s := s2) (n := 3) (by omega)
    have hd_s3 : Dk l (nextS l s2 3) := nextS_dk hd_s2
    refine CallU.boxes (i := 0) (is := []) (bx0 := [deckA l s2]) (con_dNext l s2 3 hd_s2) (by simp only [go_sem]) (by simp only [go_sem]) (by simp only [go_sem]) (by simp only [go_sem]) (by simp only [go_sem]) ?_
    rintro r b ⟨rfl, rfl⟩
    obtain ⟨nl, enl, hnl⟩ : ∃ nl : Nat, 1 + nextV l s2 3 = nl /\ (1 <= nl /\ nl <= 3) := ⟨(1 + nextV l s2 3).toNat, by omega, by omega⟩
    have hw_nl : IntKind.i64.wrap (1 + nextV l s2 3) = nl := by rw [wrap_in (by omega) (by omega), enl]
    clear enl hn_nl
    simp only [go_sem, hw_nl]
    clear hw_nl
    generalize nextS l s2 3 = s3 at hd_s3 ⊢
    refine CallU.free (con_namesF lB nl (by decide) (by omega)) (by simp only [go_sem]) (by simp only [go_sem, lB]) ?_
    rintro r b rfl
    simp only [go_sem]
    have hn_K := nextV_lt (l := l) (s := s3) (n := 5) (by omega)
    have hd_K : Dk l (nextS l s3 5) := nextS_dk hd_s3
    refine CallU.boxes (i := 0) (is := []) (bx0 := [deckA l s3]) (con_dNext l s3 5 hd_s3) (by simp only [go_sem]) (by simp only [go_sem]) (by simp only [go_sem]) (by simp only [go_sem]) (by simp only [go_sem]) ?_
    rintro r b ⟨rfl, rfl⟩
    obtain ⟨K, eK, hK⟩ : ∃ K : Nat, nextV l s3 5 = K /\ K <= 4 := ⟨(nextV l s3 5).toNat, by omega, by omega⟩
    clear hn_K
    simp only [go_sem, eK]
    refine hsh _ ⟨ns, np, nl, [], 0, 0, K, _, by rw [hkk]; exact num2 hns hnp hnl, hK, hd_K, ?_⟩
    rw [hkk]
    simp only [go_sem, vss, plB_2, List.map_nil, Nat.sub_zero]
    repeat' (first | exact trivial | exact leV_nil _ _ | exact leV_refl _ | refine ⟨?_, ?_⟩)
   ·simp only [go_sem]
    have hn_ns := nextV_lt (l := l) (s := s0) (n := 3) (by omega)
    have hd_s1 : Dk l (nextS l s0 3) := nextS_dk hd_s0
    refine CallU.boxes (i := 0) (is := []) (bx0 := [deckA l s0]) (con_dNext l s0 3 hd_s0) (by simp only [go_sem]) (by simp only [go_sem]) (by simp only [go_sem]) (by simp only [go_sem]) (by simp only [go_sem]) ?_
    rintro r b ⟨rfl, rfl⟩
    obtain ⟨ns, ens, hns⟩ : ∃ ns : Nat, 1 + nextV l s0 3 = ns /\ (1 <= ns /\ ns <= 3) := ⟨(1 + nextV l s0 3).toNat, by omega, by omega⟩
    have hw_ns : IntKind.i64.wrap (1 + nextV l s0 3) = ns := by rw [wrap_in (by omega) (by omega), ens]
    clear ens hn_ns
    simp only [go_sem, hw_ns]
    clear hw_ns
    generalize nextS l s0 3 = s1 at hd_s1 ⊢
    refine CallU.free (con_namesF qB ns (by decide) (by omega)) (by simp only [go_sem]) (by simp only [go_sem, qB]) ?_
    rintro r b rfl
    simp only [go_sem]
    have hn_np := nextV_lt (l := l) (s := s1) (n := 2) (by omega)
    have hd_s2 : Dk l (nextS l s1 2) := nextS_dk hd_s1
    refine CallU.boxes (i := 0) (is := []) (bx0 := [deckA l s1]) (con_dNext l s1 2 hd_s1) (by simp only [go_sem]) (by simp only [go_sem]) (by simp only [go_sem]) (by simp only [go_sem]) (by simp only [go_sem]) ?_
    rintro r b ⟨rfl, rfl⟩
    obtain ⟨np, enp, hnp⟩ : ∃ np : Nat, 1 + nextV l s1 2 = np /\ (1 <= np /\ np <= 2) := ⟨(1 + nextV l s1 2).toNat, by omega, by omega⟩
    have hw_np : IntKind.i64.wrap (1 + nextV l s1 2) = np := by rw [wrap_in (by omega) (by omega), enp]
    clear enp hn_np
    simp only [go_sem, hw_np]
    clear hw_np
    generalize nextS l s1 2 = s2 at hd_s2 ⊢
    refine CallU.free (con_namesF cB np (by decide) (by omega)) (by simp only [go_sem]) (by simp only [go_sem, cB]) ?_
    rintro r b rfl
    simp only [go_sem]
    have hn_nl := nextV_lt (l := l) (s := s2) (n := 3) (by omega)
    have hd_s3 : Dk l (nextS l s2 3) := nextS_dk hd_s2
    refine CallU.boxes (i := 0) (is := []) (bx0 := [deckA l s2]) (con_dNext l s2 3 hd_s2) (by simp only [go_sem]) (by simp only [go_sem]) (by simp only [go_sem]) (by simp only [go_sem]) (by simp only [go_sem]) ?_
    rintro r b ⟨rfl, rfl⟩
    obtain ⟨nl, enl, hnl⟩ : ∃ nl : Nat, 1 + nextV l s2 3 = nl /\ (1 <= nl /\ nl <= 3) := ⟨(1 + nextV l s2 3).toNat, by omega, by omega⟩
    have hw_nl : IntKind.i64.wrap (1 + nextV l s2 3) = nl := by rw [wrap_in (by omega) (by omega), enl]
    clear enl hn_nl
    simp only [go_sem, hw_nl]
    clear hw_nl
    generalize nextS l s2 3 = s3 at hd_s3 ⊢
    refine CallU.free (con_namesF lB nl (by decide) (by omega)) (by simp only [go_sem]) (by simp only [go_sem, lB]) ?_
    rintro r b rfl
    have hlen_l : (nmL lB nl).length = nl := nmL_len _ _
    have hd_s4 : Dk l (smS l s3 2 nl) := smS_dk hd_s3 _
    have hV := smV_low (l := l) (s := s3) (most := 2) (by omega) nl
    have hL := smV_len (l := l) (s := s3) (most := 2) nl
    simp only [go_sem, hlen_l]
    refine CallU.boxes (i := 0) (is := []) (bx0 := [deckA l s3]) (con_dRanksF l s3 nl hd_s3 (by omega)) (by simp only [go_sem]) (by simp only [go_sem]) (by simp only [go_sem]) (by simp only [go_sem]) (by simp only [go_sem]) ?_
    rintro r b ⟨rfl, rfl⟩
    generalize smV l s3 2 nl = ra at hV hL ⊢
    generalize smS l s3 2 nl = s4 at hd_s4 ⊢
    simp only [go_sem]
    have hn_K := nextV_lt (l := l) (s := s4) (n := 5) (by omega)
    have hd_K : Dk l (nextS l s4 5) := nextS_dk hd_s4
    refine CallU.boxes (i := 0) (is := []) (bx0 := [deckA l s4]) (con_dNext l s4 5 hd_s4) (by simp only [go_sem]) (by simp only [go_sem]) (by simp only [go_sem]) (by simp only [go_sem]) (by simp only [go_sem]) ?_
    rintro r b ⟨rfl, rfl⟩
    obtain ⟨K, eK, hK⟩ : ∃ K : Nat, nextV l s4 5 = K /\ K <= 4 := ⟨(nextV l s4 5).toNat, by omega, by omega⟩
    clear hn_K
    simp only [go_sem, eK]
    refine hsh _ ⟨ns, np, nl, ra, 0, 0, K, _, by rw [hkk]; exact num3 hns hnp hnl hL hV, hK, hd_K, ?_⟩
    rw [hkk]
    simp only [go_sem, vss, plB_3, Nat.sub_zero]
    repeat' (first | exact trivial | exact leV_nil _ _ | exact leV_refl _ | refine ⟨?_, ?_⟩)
   ·simp only [go_sem]
    have hn_ns := nextV_lt (l := l) (s := s0) (n := 3) (by omega)
    have hd_s1 : Dk l (nextS l s0 3) := nextS_dk hd_s0
    refine CallU.boxes (i := 0) (is := []) (bx0 := [deckA l s0]) (con_dNext l s0 3 hd_s0) (by simp only [go_sem]) (by simp only [go_sem]) (by simp only [go_sem]) (by simp only [go_sem]) (by simp only [go_sem]) ?_
    rintro r b ⟨rfl, rfl⟩
    obtain ⟨ns, ens, hns⟩ : ∃ ns : Nat, 1 + nextV l s0 3 = ns /\ (1 <= ns /\ ns <= 3) := ⟨(1 + nextV l s0 3).toNat, by omega, by omega⟩
    have hw_ns : IntKind.i64.wrap (1 + nextV l s0 3) = ns := by rw [wrap_in (by omega) (by omega), ens]
    clear ens hn_ns
    simp only [go_sem, hw_ns]
    clear hw_ns
    generalize nextS l s0 3 = s1 at hd_s1 ⊢
    refine CallU.free (con_namesF qB ns (by decide) (by omega)) (by simp only [go_sem]) (by simp only [go_sem, qB]) ?_
    rintro r b rfl
    simp only [go_sem]
    have hn_nl := nextV_lt (l := l) (s := s1) (n := 3) (by omega)
    have hd_s2 : Dk l (nextS l s1 3) := nextS_dk hd_s1
    refine CallU.boxes (i := 0) (is := []) (bx0 := [deckA l s1]) (con_dNext l s1 3 hd_s1) (by simp only [go_sem]) (by simp only [go_sem]) (by simp only [go_sem]) (by simp only [go_sem]) (by simp only [go_sem]) ?_
    rintro r b ⟨rfl, rfl⟩
    obtain ⟨nl, enl, hnl⟩ : ∃ nl : Nat, 1 + nextV l s1 3 = nl /\ (1 <= nl /\ nl <= 3) := ⟨(1 + nextV l s1 3).toNat, by omega, by omega⟩
    have hw_nl : IntKind.i64.wrap (1 + nextV l s1 3) = nl := by rw [wrap_in (by omega) (by omega), enl]
    clear enl hn_nl
    simp only [go_sem, hw_nl]
    clear hw_nl
    generalize nextS l s1 3 = s2 at hd_s2 ⊢
    refine CallU.free (con_namesF lB nl (by decide) (by omega)) (by simp only [go_sem]) (by simp only [go_sem, lB]) ?_
    rintro r b rfl
    simp only [go_sem]
    have hn_lv := nextV_lt (l := l) (s := s2) (n := 2) (by omega)
    have hd_s3 : Dk l (nextS l s2 2) := nextS_dk hd_s2
    refine CallU.boxes (i := 0) (is := []) (bx0 := [deckA l s2]) (con_dNext l s2 2 hd_s2) (by simp only [go_sem]) (by simp only [go_sem]) (by simp only [go_sem]) (by simp only [go_sem]) (by simp only [go_sem]) ?_
    rintro r b ⟨rfl, rfl⟩
    obtain ⟨lv, elv, hlv⟩ : ∃ lv : Int, 1 + nextV l s2 2 = lv /\ (1 <= lv /\ lv <= 2) := ⟨1 + nextV l s2 2, rfl, by omega⟩
    have hw_lv : IntKind.i64.wrap (1 + nextV l s2 2) = lv := by rw [wrap_in (by omega) (by omega), elv]
    clear elv hn_lv
    simp only [go_sem, hw_lv]
    clear hw_lv
    generalize nextS l s2 2 = s3 at hd_s3 ⊢
    simp only [go_sem]
    have hn_K := nextV_lt (l := l) (s := s3) (n := 5) (by omega)
    have hd_K : Dk l (nextS l s3 5) := nextS_dk hd_s3
    refine CallU.boxes (i := 0) (is := []) (bx0 := [deckA l s3]) (con_dNext l s3 5 hd_s3) (by simp only [go_sem]) (by simp only [go_sem]) (by simp only [go_sem]) (by simp only [go_sem]) (by simp only [go_sem]) ?_
    rintro r b ⟨rfl, rfl⟩
    obtain ⟨K, eK, hK⟩ : ∃ K : Nat, nextV l s3 5 = K /\ K <= 4 := ⟨(nextV l s3 5).toNat, by omega, by omega⟩
    clear hn_K
    simp only [go_sem, eK]
    refine hsh _ ⟨ns, 0, nl, [], lv, 0, K, _, by rw [hkk]; exact num4 hns hnl hlv, hK, hd_K, ?_⟩
    rw [hkk]
    simp only [go_sem, vss, nmL_zero, List.map_nil, Nat.sub_zero]
    repeat' (first | exact trivial | exact leV_nil _ _ | exact leV_refl _ | refine ⟨?_, ?_⟩)
   ·simp only [go_sem]
    have hn_ns := nextV_lt (l := l) (s := s0) (n := 3) (by omega)
    have hd_s1 : Dk l (nextS l s0 3) := nextS_dk hd_s0
    refine CallU.boxes (i := 0) (is := []) (bx0 := [deckA l s0]) (con_dNext l s0 3 hd_s0) (by simp only [go_sem]) (by simp only [go_sem]) (by simp only [go_sem]) (by simp only [go_sem]) (by simp only [go_sem]) ?_
    rintro r b ⟨rfl, rfl⟩
    obtain ⟨ns, ens, hns⟩ : ∃ ns : Nat, 1 + nextV l s0 3 = ns /\ (1 <= ns /\ ns <= 3) := ⟨(1 + nextV l s0 3).toNat, by omega, by omega⟩
    have hw_ns : IntKind.i64.wrap (1 + nextV l s0 3) = ns := by rw [wrap_in (by omega) (by omega), ens]
    clear ens hn_ns
    simp only [go_sem, hw_ns]
    clear hw_ns
    generalize nextS l s0 3 = s1 at hd_s1 ⊢
    refine CallU.free (con_namesF qB ns (by decide) (by omega)) (by simp only [go_sem]) (by simp only [go_sem, qB]) ?_
    rintro r b rfl
    simp only [go_sem]
    have hn_np := nextV_lt (l := l) (s := s1) (n := 3) (by omega)
    have hd_s2 : Dk l (nextS l s1 3) := nextS_dk hd_s1
    refine CallU.boxes (i := 0) (is := []) (bx0 := [deckA l s1]) (con_dNext l s1 3 hd_s1) (by simp only [go_sem]) (by simp only [go_sem]) (by simp only [go_sem]) (by simp only [go_sem]) (by simp only [go_sem]) ?_
    rintro r b ⟨rfl, rfl⟩
    obtain ⟨np, enp, hnp⟩ : ∃ np : Nat, 1 + nextV l s1 3 = np /\ (1 <= np /\ np <= 3) := ⟨(1 + nextV l s1 3).toNat, by omega, by omega⟩
    have hw_np : IntKind.i64.wrap (1 + nextV l s1 3) = np := by rw [wrap_in (by omega) (by omega), enp]
    clear enp hn_np
    simp only [go_sem, hw_np]
    clear hw_np
    generalize nextS l s1 3 = s2 at hd_s2 ⊢
    refine CallU.free (con_namesF pB np (by decide) (by omega)) (by simp only [go_sem]) (by simp only [go_sem, pB]) ?_
    rintro r b rfl
    simp only [go_sem]
    have hn_ag := nextV_lt (l := l) (s := s2) (n := 2) (by omega)
    have hd_s3 : Dk l (nextS l s2 2) := nextS_dk hd_s2
    refine CallU.boxes (i := 0) (is := []) (bx0 := [deckA l s2]) (con_dNext l s2 2 hd_s2) (by simp only [go_sem]) (by simp only [go_sem]) (by simp only [go_sem]) (by simp only [go_sem]) (by simp only [go_sem]) ?_
    rintro r b ⟨rfl, rfl⟩
    generalize nextV l s2 2 = ag at hn_ag ⊢
    generalize nextS l s2 2 = s3 at hd_s3 ⊢
    simp only [go_sem]
    have hd_s4 : Dk l (nextS l s3 6) := nextS_dk hd_s3
    refine CallU.boxes (i := 0) (is := []) (bx0 := [deckA l s3]) (con_dOne l s3 6 hd_s3) (by simp only [go_sem]) (by simp only [go_sem]) (by simp only [go_sem]) (by simp only [go_sem]) (by simp only [go_sem]) ?_
    rintro r b ⟨rfl, rfl⟩
    generalize nextS l s3 6 = s4 at hd_s4 ⊢
    cases ho : oneV l s3 6
    ·simp only [go_sem]
     have hn_K := nextV_lt (l := l) (s := s4) (n := 5) (by omega)
     have hd_K : Dk l (nextS l s4 5) := nextS_dk hd_s4
     refine CallU.boxes (i := 0) (is := []) (bx0 := [deckA l s4]) (con_dNext l s4 5 hd_s4) (by simp only [go_sem]) (by simp only [go_sem]) (by simp only [go_sem]) (by simp only [go_sem]) (by simp only [go_sem]) ?_
     rintro r b ⟨rfl, rfl⟩
     obtain ⟨K, eK, hK⟩ : ∃ K : Nat, nextV l s4 5 = K /\ K <= 4 := ⟨(nextV l s4 5).toNat, by omega, by omega⟩
     clear hn_K
     simp only [go_sem, eK]
     refine hsh _ ⟨ns, np, 0, [], 0, ag, K, _, by rw [hkk]; exact num5 hns hnp (by omega), hK, hd_K, ?_⟩
     rw [hkk]
     simp only [go_sem, vss, plB_5, nmL_zero, List.map_nil, Nat.sub_zero]
     repeat' (first | exact trivial | exact leV_nil _ _ | exact leV_refl _ | refine ⟨?_, ?_⟩)
    ·simp only [go_sem]
     have hn_K := nextV_lt (l := l) (s := s4) (n := 5) (by omega)
     have hd_K : Dk l (nextS l s4 5) := nextS_dk hd_s4
     refine CallU.boxes (i := 0) (is := []) (bx0 := [deckA l s4]) (con_dNext l s4 5 hd_s4) (by simp only [go_sem]) (by simp only [go_sem]) (by simp only [go_sem]) (by simp only [go_sem]) (by simp only [go_sem]) ?_
     rintro r b ⟨rfl, rfl⟩
     obtain ⟨K, eK, hK⟩ : ∃ K : Nat, nextV l s4 5 = K /\ K <= 4 := ⟨(nextV l s4 5).toNat, by omega, by omega⟩
     clear hn_K
     simp only [go_sem, eK]
     refine hsh _ ⟨ns, np, 0, [], 0, 2, K, _, by rw [hkk]; exact num5 hns hnp (by omega), hK, hd_K, ?_⟩
     rw [hkk]
     simp only [go_sem, vss, plB_5, nmL_zero, List.map_nil, Nat.sub_zero]
     repeat' (first | exact trivial | exact leV_nil _ _ | exact leV_refl _ | refine ⟨?_, ?_⟩)
   ·simp only [go_sem]
    have hn_ns := nextV_lt (l := l) (s := s0) (n := 3) (by omega)
    have hd_s1 : Dk l (nextS l s0 3) := nextS_dk hd_s0
    refine CallU.boxes (i := 0) (is := []) (bx0 := [deckA l s0]) (con_dNext l s0 3 hd_s0) (by simp only [go_sem]) (by simp only [go_sem]) (by simp only [go_sem]) (by simp only [go_sem]) (by simp only [go_sem]) ?_
    rintro r b ⟨rfl, rfl⟩
    obtain ⟨ns, ens, hns⟩ : ∃ ns : Nat, 1 + nextV l s0 3 = ns /\ (1 <= ns /\ ns <= 3) := ⟨(1 + nextV l s0 3).toNat, by omega, by omega⟩
    have hw_ns : IntKind.i64.wrap (1 + nextV l s0 3) = ns := by rw [wrap_in (by omega) (by omega), ens]
    clear ens hn_ns
    simp only [go_sem, hw_ns]
    clear hw_ns
    generalize nextS l s0 3 = s1 at hd_s1 ⊢
    refine CallU.free (con_namesF qB ns (by decide) (by omega)) (by simp only [go_sem]) (by simp only [go_sem, qB]) ?_
    rintro r b rfl
    simp only [go_sem]
    have hn_np := nextV_lt (l := l) (s := s1) (n := 3) (by omega)
    have hd_s2 : Dk l (nextS l s1 3) := nextS_dk hd_s1
    refine CallU.boxes (i := 0) (is := []) (bx0 := [deckA l s1]) (con_dNext l s1 3 hd_s1) (by simp only [go_sem]) (by simp only [go_sem]) (by simp only [go_sem]) (by simp only [go_sem]) (by simp only [go_sem]) ?_
    rintro r b ⟨rfl, rfl⟩
    obtain ⟨np, enp, hnp⟩ : ∃ np : Nat, 1 + nextV l s1 3 = np /\ (1 <= np /\ np <= 3) := ⟨(1 + nextV l s1 3).toNat, by omega, by omega⟩
    have hw_np : IntKind.i64.wrap (1 + nextV l s1 3) = np := by rw [wrap_in (by omega) (by omega), enp]
    clear enp hn_np
    simp only [go_sem, hw_np]
    clear hw_np
    generalize nextS l s1 3 = s2 at hd_s2 ⊢
    refine CallU.free (con_namesF pB np (by decide) (by omega)) (by simp only [go_sem]) (by simp only [go_sem, pB]) ?_
    rintro r b rfl
    simp only [go_sem]
    have hn_K := nextV_lt (l := l) (s := s2) (n := 5) (by omega)
    have hd_K : Dk l (nextS l s2 5) := nextS_dk hd_s2
    refine CallU.boxes (i := 0) (is := []) (bx0 := [deckA l s2]) (con_dNext l s2 5 hd_s2) (by simp only [go_sem]) (by simp only [go_sem]) (by simp only [go_sem]) (by simp only [go_sem]) (by simp only [go_sem]) ?_
    rintro r b ⟨rfl, rfl⟩
    obtain ⟨K, eK, hK⟩ : ∃ K : Nat, nextV l s2 5 = K /\ K <= 4 := ⟨(nextV l s2 5).toNat, by omega, by omega⟩
    clear hn_K
    simp only [go_sem, eK]
    refine hsh _ ⟨ns, np, 0, [], 0, 0, K, _, by rw [hkk]; exact num6 hns hnp, hK, hd_K, ?_⟩
    rw [hkk]
    simp only [go_sem, vss, plB_6, nmL_zero, List.map_nil, Nat.sub_zero]
    repeat' (first | exact trivial | exact leV_nil _ _ | exact leV_refl _ | refine ⟨?_, ?_⟩)
 case key =>
  rintro τ ⟨ns, np, nl, ra, lv, ag, K, s0, hN, hK, hd0, hle⟩
  refine LoopK.intro (fun p : List RD × DS => ⟨103, [(0, .pb 0 0), (1, vi k'), (4, .pb 1 0), (5, .pb 2 0), (6, vi ((K - p.1.length : Nat) : Int))], deckA l p.2 :: [.any, .any, .any, .any, .any, .any, .any, .any, .any, .any] ::
    [vi k', vss (nmL qB ns), vss (nmL (plB k') np), vss (nmL lB nl), vs 0 ra, vi lv, vi ag, .sl 6080 14 (p.1.map vRule), vi 0, .nil] :: Rk 14 p.1.length⟩)
   (fun p => K - p.1.length) (fun p => p.1.length <= K /\ Dk l p.2 /\ p.1.map RD.name = rkL K p.1.length /\ ∀ r ∈ p.1, rightR (dealtG k' ns np nl ra lv ag [] zeroV) r = true /\ LenR r) ([], s0) ⟨by simp, hd0, rfl, fun r hr => by cases hr⟩ hle ?_
  clear hle
  rintro ⟨rules, s4⟩ ⟨h1, h2, h3, h4⟩
  simp only at h1 h2 h3 h4
  have hB := Rk_len 14 rules.length
  have n0 := fun L : List (List AV) => app_at0 (L := L) hB
  have s0' := fun (L : List (List AV)) z => app_set0 (L := L) (z := z) hB
  by_cases h : rules.length < K
  ·have hgt : (0 : Int) < ((K - rules.length : Nat) : Int) := by omega
   have hru : Con Tryz.prog 61 [.pb 0 0, hidA (dealtG k' ns np nl ra lv ag [] zeroV)] [deckA l s4] _ := con_dRuleX l s4 h2 hN
   simp only [go_sem, hgt, vss]
   refine CallU.hide [] [.pb 0 0, hidA (dealtG k' ns np nl ra lv ag [] zeroV)] (i := 0) (is := []) (bx0 := [deckA l s4]) hru (by simp only [go_sem]) ?_ (by simp only [go_sem]) (by simp only [go_sem]) (by simp only [go_sem]) (by simp only [go_sem]) (by simp only [go_sem]) ?_
   ·simp only [go_sem]
    exact leV_ag ⟨leV_refl _, leV_refl _, leV_refl _, leV_refl _, leV_refl _, leV_refl _, leV_refl _, leV_any _, leV_any _, leV_any _, trivial⟩
   rintro r b ⟨x, s5, ⟨g1, g1n, g1l⟩, g3, rfl, rfl⟩
   obtain ⟨q, hq⟩ : ∃ q, q = K - rules.length := ⟨_, rfl⟩
   rw [<- hq]
   have hw3 : IntKind.i64.wrap (48 + (q : Int)) = 48 + q := wrap_in (by omega) (by omega)
   have hw4 : IntKind.u8.wrap (48 + (q : Int)) = 48 + q := by rw [IntKind.wrap_u8]; omega
   have hb : bytesOf [.sc (.int .u8 (48 + (q : Int)))] = some [48 + (q : Int)] := rfl
   have e1 : (strOf [48 + (q : Int)]).size = 1 := rfl
   have hw5 : IntKind.i64.wrap ((q : Int) - 1) = ((K - (rules.length + 1) : Nat) : Int) := by rw [wrap_in (by omega) (by omega)]; omega
   simp only [go_sem, hB, n0, s0', hw3, hw4, hb, hw5]
   refine ⟨by rw [e1]; omega, by simp only [roomFor]; omega, roundK.intro (rules ++ [{ x with name := nm1 rB q }], s5) ⟨by rw [List.length_append]; show rules.length + 1 <= K; omega, g3, ?_, fun r hr => ?_⟩ (by show K - (rules ++ [_]).length < K - rules.length; rw [List.length_append]; show K - (rules.length + 1) < _; omega) ?_⟩
   ·show (rules ++ [{ x with name := nm1 rB q }]).map RD.name = rkL K (rules ++ [_]).length
    rw [List.length_append, List.map_append, h3]
    show rkL K rules.length ++ [nm1 rB q] = rkL K (rules.length + 1)
    rw [rk_succ, hq]
   ·rcases List.mem_append.1 hr with hr | hr
    ·exact h4 r hr
    ·rw [List.mem_singleton] at hr; subst hr
     exact ⟨by rw [right_name]; exact g1, ⟨⟨g1l.len.need, g1l.len.give, g1l.len.move, g1l.len.path, g1l.len.next, g1l.len.takes, g1l.len.makes⟩, g1l.path, g1l.next⟩⟩
   ·simp only [go_sem, Rk_succ, List.length_append, List.length_cons, List.length_nil, List.map_append, List.map_cons, List.map_nil, nm1, rB]
    exact leB_RkA ⟨leC_any _ 14 rfl, trivial⟩
  ·have ek2 : rules.length = K := by omega
   have hgt : ¬ (0 : Int) < ((K - rules.length : Nat) : Int) := by omega
   by_cases k6 : k' = 6
   ·have b6 : (k' != 6) = false := by rw [k6]; rfl
    simp only [go_sem, hgt, b6, vss]
    refine ⟨ns, np, nl, ra, lv, ag, rules, zeroV, s4, ⟨hN, by omega, by rw [h3, ek2], h4, by rw [if_pos k6], .leaf 0⟩, h2, ?_, rfl⟩
    exact leV_ag ⟨leV_refl _, leV_refl _, leV_refl _, leV_refl _, leV_refl _, leV_refl _, leV_refl _, leV_refl _, leV_refl _, leV_nil 0 2, trivial⟩
   ·have b6 : (k' != 6) = true := bne_iff_ne.2 k6
    have hO : OwnX (dealtG k' ns np nl ra lv ag [] zeroV) := hN.own
    have hcf := con_dConfigX l s4 (dealtG k' ns np nl ra lv ag [] zeroV) hO h2
    have hva := config_valid (l := l) (s := s4) hO
    have hsz := hO.size
    have hsl := valF_slim (l := l) (s := s4) (type_ok hsz.1 hsz.2)
    have hd5 := valF_dk (l := l) (s := s4) (t := typeM (dealtG k' ns np nl ra lv ag [] zeroV)) h2
    generalize valF l s4 (typeM (dealtG k' ns np nl ra lv ag [] zeroV)) = q at hcf hva hsl hd5
    simp only [go_sem, hgt, b6, vss]
    refine CallU.hide [] [.pb 0 0, hidA (dealtG k' ns np nl ra lv ag [] zeroV)] (i := 0) (is := []) (bx0 := [deckA l s4]) hcf (by simp only [go_sem]) ?_ (by simp only [go_sem]) (by simp only [go_sem]) (by simp only [go_sem]) (by simp only [go_sem]) (by simp only [go_sem]) ?_
    ·simp only [go_sem]
     exact leV_ag ⟨leV_refl _, leV_refl _, leV_refl _, leV_refl _, leV_refl _, leV_refl _, leV_refl _, leV_any _, leV_any _, leV_any _, trivial⟩
    rintro r b ⟨rfl, rfl⟩
    simp only [go_sem]
    refine ⟨ns, np, nl, ra, lv, ag, rules, q.1, q.2, ⟨hN, by omega, by rw [h3, ek2], h4, by rw [if_neg k6]; exact hva, hsl⟩, hd5, ?_, rfl⟩
    exact leV_refl _
theorem con_dModelX (l : List Int) (s : DS) (k : Int) (hd : Dk l s) (hk : 1 <= k /\ k <= 6) : Con Tryz.prog 19 [.pb 0 0, vi k] [deckA l s]
  fun r b => ∃ (ns np nl : Nat) (ra : List Int) (lv ag : Int) (rules : List RD) (st : CV) (s' : DS), DealtG k ns np nl ra lv ag rules st /\ Dk l s' /\ r = vM (dealtG k ns np nl ra lv ag rules st) /\ b = [deckA l s'] :=
 ((con_dModelG l s s k k k (.inl ⟨rfl, rfl⟩) rfl hd hk).freezeB fun _ => true).weak fun r b ⟨r1, b1, ⟨ns, np, nl, ra, lv, ag, rules, st, s', h1, h2, h3, h4⟩, h7, h8⟩ => by
  subst h4; subst h7; subst h8
  exact ⟨_, ⟨ns, np, nl, ra, lv, ag, rules, st, s', h1, h2, rfl, rfl⟩, h3⟩
theorem con_dModel0 (l : List Int) (s : DS) (hd : Dk l s) : Con Tryz.prog 19 [.pb 0 0, vi 0] [deckA l s]
  fun r b => ∃ (k : Int) (ns np nl : Nat) (ra : List Int) (lv ag : Int) (rules : List RD) (st : CV) (s' : DS), DealtG k ns np nl ra lv ag rules st /\ Dk l s' /\ r = vM (dealtG k ns np nl ra lv ag rules st) /\ b = [deckA l s'] := by
 have hn := nextV_lt (l := l) (s := s) (n := 5) (by omega)
 exact ((con_dModelG l s (nextS l s 5) 0 (1 + nextV l s 5) _ (.inr ⟨rfl, rfl, rfl⟩) rfl hd (by omega)).freezeB fun _ => true).weak fun r b ⟨r1, b1, ⟨ns, np, nl, ra, lv, ag, rules, st, s', h1, h2, h3, h4⟩, h7, h8⟩ => by
  subst h4; subst h7; subst h8
  exact ⟨_, ⟨_, ns, np, nl, ra, lv, ag, rules, st, s', h1, h2, rfl, rfl⟩, h3⟩
end Go.AM
