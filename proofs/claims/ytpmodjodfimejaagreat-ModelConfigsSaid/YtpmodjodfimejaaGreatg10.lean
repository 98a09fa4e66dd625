/-
  The abstract machine: its steps as rules for 'simp only [go_sem]': what follows is looked at only when the frame behind the step is written out.
-/
import Derived.Test.YtpmodjodfimejaaGreatg9
/-! ## AmO -/
namespace Go.AM
open Go.RowKit
def mkd {α : Type} (x : α) : α := x
@[go_sem, simp] theorem mkd_eq {α : Type} (x : α) : mkd x = x := congrFun (funext fun y => (Eq.refl (mkd y) : mkd y = y)) x
def caseO {α : Type} (o : Option α) (k : α → Prop) : Prop := ∃ a, o = some a ∧ k a
@[congr] theorem caseO_congr {α : Type} {o o' : Option α} {k : α → Prop} (h : mkd o = o') : caseO o k = caseO o' k := by subst_vars; rfl
@[go_sem] theorem caseO_some {α : Type} (a : α) (k : α → Prop) : caseO (some a) k = k a := by simp [caseO]
def onSlice (d : Option TypeDesc) (k : TypeId → Prop) : Prop := ∃ E, d = some (.slice E) ∧ k E
@[congr] theorem onSlice_congr {d d' : Option TypeDesc} {k : TypeId → Prop} (h : mkd d = d') : onSlice d k = onSlice d' k := by subst_vars; rfl
@[go_sem] theorem onSlice_some (E : TypeId) (k : TypeId → Prop) : onSlice (some (.slice E)) k = k E := by simp [onSlice]
def onArray (d : Option TypeDesc) (k : Nat → TypeId → Prop) : Prop := ∃ n E, d = some (.array n E) ∧ k n E
@[congr] theorem onArray_congr {d d' : Option TypeDesc} {k : Nat → TypeId → Prop} (h : mkd d = d') : onArray d k = onArray d' k := by subst_vars; rfl
@[go_sem] theorem onArray_some (n : Nat) (E : TypeId) (k : Nat → TypeId → Prop) : onArray (some (.array n E)) k = k n E := by
 unfold onArray
 apply propext
 constructor
 ·rintro ⟨n', E', h, hk⟩; cases h; exact hk
 ·intro h; exact ⟨n, E, rfl, h⟩
def onB (b : Bool) (p q : Prop) : Prop := if b = true then p else q
@[congr] theorem onB_congr {b b' : Bool} {p q : Prop} (h : mkd b = b') : onB b p q = onB b' p q := by subst_vars; rfl
@[go_sem] theorem onB_true (p q : Prop) : onB true p q = p := rfl
@[go_sem] theorem onB_false (p q : Prop) : onB false p q = q := rfl
def onBool (x : AV) (k : Bool → Prop) : Prop := ∃ b, x = .sc (.bool b) ∧ k b
@[congr] theorem onBool_congr {x x' : AV} {k : Bool → Prop} (h : mkd x = x') : onBool x k = onBool x' k := by subst_vars; rfl
@[go_sem] theorem onBool_sc (b : Bool) (k : Bool → Prop) : onBool (.sc (.bool b)) k = k b := by
 unfold onBool
 apply propext
 constructor
 ·rintro ⟨b', h, hk⟩; cases h; exact hk
 ·intro h; exact ⟨b, rfl, h⟩
def onGuard (x : AV) (k : Bool → Prop) (q : Prop) : Prop := (∃ b, x = .sc (.bool b) ∧ k b) ∨ ∃ vs, x = .sc (.tuple vs) ∧ q
@[congr] theorem onGuard_congr {x x' : AV} {k : Bool → Prop} {q : Prop} (h : mkd x = x') : onGuard x k q = onGuard x' k q := by subst_vars; rfl
@[go_sem] theorem onGuard_sc (b : Bool) (k : Bool → Prop) (q : Prop) : onGuard (.sc (.bool b)) k q = k b := by
 unfold onGuard
 apply propext
 constructor
 ·rintro (⟨b', h, hk⟩ | ⟨vs, h, _⟩)
  ·cases h; exact hk
  ·cases h
 ·intro h; exact .inl ⟨b, rfl, h⟩
@[go_sem] theorem onGuard_un (k : Bool → Prop) (q : Prop) : onGuard (.sc undef) k q = q := by
 unfold onGuard
 apply propext
 constructor
 ·rintro (⟨b', h, hk⟩ | ⟨vs, h, hq⟩)
  ·cases h
  ·exact hq
 ·intro h; exact .inr ⟨_, rfl, h⟩
def both (b : Bool) (p q : Prop) : Prop := (b = true → p) ∧ (b = false → q)
@[congr] theorem both_congr {b b' : Bool} {p q : Prop} (h : mkd b = b') : both b p q = both b' p q := by subst_vars; rfl
@[go_sem] theorem both_true (p q : Prop) : both true p q = p := by simp [both]
@[go_sem] theorem both_false (p q : Prop) : both false p q = q := by simp [both]
def andK (p q : Prop) : Prop := p ∧ q
@[congr] theorem andK_congr {p p' q : Prop} (h : mkd p = p') : andK p q = andK p' q := by subst_vars; rfl
@[go_sem] theorem andK_true (q : Prop) : andK True q = q := by simp [andK]
section
variable {P : Program}
@[congr] theorem wpA_congr {c : Code} {Q : Exit → St → Prop} {σ σ' : St} (h : mkd σ = σ') : wpA P c Q σ = wpA P c Q σ' := by subst_vars; rfl
@[congr] theorem opsA_congr {ops : Array Oper} {l : List Oper} {K : St → Prop} {σ σ' : St} (h : mkd σ = σ') : opsA P ops l σ K = opsA P ops l σ' K := by subst_vars; rfl
@[congr] theorem wpOp_congr {o : Oper} {K : St → Prop} {σ σ' : St} (h : mkd σ = σ') : wpOp P o σ K = wpOp P o σ' K := by subst_vars; rfl
@[congr] theorem LoopK_congr {body : (Exit → St → Prop) → St → Prop} {Q : Exit → St → Prop} {σ σ' : St} (h : mkd σ = σ') : LoopK body Q σ = LoopK body Q σ' := by subst_vars; rfl
@[congr] theorem roundK_congr {α : Type} {st : α → St} {m : α → Nat} {inv : α → Prop} {x : α} {σ σ' : St} (h : mkd σ = σ') : roundK st m inv x σ = roundK st m inv x σ' := by subst_vars; rfl
@[congr] theorem DrawK_congr {ops : Array Oper} {K : St → Prop} {σ σ' : St} (h : mkd σ = σ') : DrawK P ops σ K = DrawK P ops σ' K := by subst_vars; rfl
@[congr] theorem CallU_congr {f : FuncId} {args args' : List AV} {d : Nat} {K : St → Prop} {σ σ' : St} (h1 : mkd args = args') (h : σ = σ') : CallU P f args d σ K = CallU P f args' d σ' K := by subst_vars; rfl
@[congr] theorem thenA_congr {next : St → Prop} {Q : Exit → St → Prop} {e e' : Exit} {σ σ' : St} (h1 : mkd e = e') (h : σ = σ') : thenA next Q e σ = thenA next Q e' σ' := by subst_vars; rfl
@[congr] theorem blockA_congr {id : Nat} {Q : Exit → St → Prop} {e e' : Exit} {σ σ' : St} (h1 : mkd e = e') (h : σ = σ') : blockA id Q e σ = blockA id Q e' σ' := by subst_vars; rfl
@[congr] theorem evLoad_congr {bx bx' : List (List AV)} {T : TypeId} {x x' : AV} {K : AV → Prop} (h1 : mkd bx = bx') (h : x = x') : evLoad P bx T x K = evLoad P bx' T x' K := by subst_vars; rfl
@[congr] theorem evPart_congr {T : TypeId} {cs cs' : List AV} {o o' : Nat} {K : AV → Prop} (h1 : mkd cs = cs') (h : o = o') : evPart P T cs o K = evPart P T cs' o' K := by subst_vars; rfl
@[congr] theorem evBinOp_congr {op : BinOp} {T : TypeId} {x x' y y' : AV} {K : AV → Prop} (h1 : mkd x = x') (h : y = y') : evBinOp P op T x y K = evBinOp P op T x' y' K := by subst_vars; rfl
@[congr] theorem evBin_congr {op : BinOp} {T : TypeId} {x x' y y' : Value} {K : Value → Prop} (h1 : mkd x = x') (h : y = y') : evBin P op T x y K = evBin P op T x' y' K := by subst_vars; rfl
@[congr] theorem evUn_congr {op : UnOp} {x x' : AV} {K : AV → Prop} (h : mkd x = x') : evUn op x K = evUn op x' K := by subst_vars; rfl
@[congr] theorem evConv_congr {s t : TypeId} {x x' : AV} {K : AV → Prop} (h : mkd x = x') : evConv P s t x K = evConv P s t x' K := by subst_vars; rfl
@[congr] theorem evSlice_congr {T : TypeId} {x x' : AV} {lo lo' hi hi' mx mx' : Option AV} {K : AV → Prop} (h : mkd x = x') (h1 : lo = lo') (h2 : hi = hi') (h3 : mx = mx') : evSlice P T x lo hi mx K = evSlice P T x' lo' hi' mx' K := by subst_vars; rfl
@[congr] theorem evBound_congr {x x' : Option AV} {d d' : Nat} {K : Nat → Prop} (h : mkd x = x') (h1 : d = d') : evBound x d K = evBound x' d' K := by subst_vars; rfl
@[congr] theorem evFieldAddr_congr {T : TypeId} {x x' : AV} {f : Nat} {K : AV → Prop} (h : mkd x = x') : evFieldAddr P T x f K = evFieldAddr P T x' f K := by subst_vars; rfl
@[congr] theorem evField_congr {T : TypeId} {x x' : AV} {f : Nat} {K : AV → Prop} (h : mkd x = x') : evField P T x f K = evField P T x' f K := by subst_vars; rfl
@[congr] theorem evIndexAddr_congr {T : TypeId} {x x' i i' : AV} {K : AV → Prop} (h : mkd x = x') (h1 : i = i') : evIndexAddr P T x i K = evIndexAddr P T x' i' K := by subst_vars; rfl
@[congr] theorem evIndex_congr {T : TypeId} {x x' i i' : AV} {K : AV → Prop} (h : mkd x = x') (h1 : i = i') : evIndex P T x i K = evIndex P T x' i' K := by subst_vars; rfl
@[congr] theorem evExtract_congr {x x' : AV} {i : Nat} {K : AV → Prop} (h : mkd x = x') : evExtract x i K = evExtract x' i K := by subst_vars; rfl
@[congr] theorem evBuild_congr {T : TypeId} {ps ps' : List (Nat × AV)} {K : AV → Prop} (h : mkd ps = ps') : evBuild P T ps K = evBuild P T ps' K := by subst_vars; rfl
@[congr] theorem evBuildSlice_congr {d : Nat} {T : TypeId} {n : Nat} {ps ps' : List (Nat × AV)} {K : AV → Prop} (h : mkd ps = ps') : evBuildSlice P d T n ps K = evBuildSlice P d T n ps' K := by subst_vars; rfl
@[congr] theorem evMake_congr {d : Nat} {T : TypeId} {x x' i i' : AV} {K : AV → Prop} (h : mkd x = x') (h1 : i = i') : evMake P d T x i K = evMake P d T x' i' K := by subst_vars; rfl
@[congr] theorem evLen_congr {T : TypeId} {x x' : AV} {K : AV → Prop} (h : mkd x = x') : evLen P T x K = evLen P T x' K := by subst_vars; rfl
@[congr] theorem evLenM_congr {T : TypeId} {x x' : AV} {K : AV → Prop} (h : mkd x = x') : evLenM P T x K = evLenM P T x' K := by subst_vars; rfl
@[congr] theorem evLookup_congr {T : TypeId} {x x' i i' : AV} {K : AV → Prop} (h : mkd x = x') (h1 : i = i') : evLookup P T x i K = evLookup P T x' i' K := by subst_vars; rfl
@[congr] theorem evMapPut_congr {T : TypeId} {σ σ' : St} {m m' x x' y y' : AV} {K : St → Prop} (h : mkd σ = σ') (h0 : m = m') (h1 : x = x') (h2 : y = y') : evMapPut P T σ m x y K = evMapPut P T σ' m' x' y' K := by subst_vars; rfl
@[congr] theorem evCap_congr {T : TypeId} {x x' : AV} {K : AV → Prop} (h : mkd x = x') : evCap P T x K = evCap P T x' K := by subst_vars; rfl
@[congr] theorem evAppendX_congr {T T' : TypeId} {d : Nat} {x x' y y' : AV} {K : AV → Prop} (h1 : mkd x = x') (h2 : y = y') : evAppendX P d T T' x y K = evAppendX P d T T' x' y' K := by subst_vars; rfl
@[congr] theorem evAppendZ_congr {T T' : TypeId} {d : Nat} {x x' : AV} {y y' : Int} {K : AV → Prop} (h1 : mkd x = x') (h2 : y = y') : evAppendZ P d T T' x y K = evAppendZ P d T T' x' y' K := by subst_vars; rfl
@[congr] theorem evMax_congr {x x' i i' : AV} {K : AV → Prop} (h : mkd x = x') (h1 : i = i') : evMax x i K = evMax x' i' K := by subst_vars; rfl
@[congr] theorem evMin_congr {x x' i i' : AV} {K : AV → Prop} (h : mkd x = x') (h1 : i = i') : evMin x i K = evMin x' i' K := by subst_vars; rfl
@[congr] theorem evAppend_congr {T T' : TypeId} {d : Nat} {σ σ' : St} {x x' y y' : AV} {K : St → Prop} (h : mkd σ = σ') (h1 : x = x') (h2 : y = y') : evAppend P T T' d σ x y K = evAppend P T T' d σ' x' y' K := by subst_vars; rfl
@[congr] theorem evAppendNew_congr {T T' : TypeId} {d : Nat} {x x' y y' : AV} {K : AV → Prop} (h1 : mkd x = x') (h2 : y = y') : evAppendNew P d T T' x y K = evAppendNew P d T T' x' y' K := by subst_vars; rfl
@[congr] theorem evAppendOwn_congr {T T' : TypeId} {x x' y y' : AV} {K : Nat → AV → Prop} (h1 : mkd x = x') (h2 : y = y') : evAppendOwn P T T' x y K = evAppendOwn P T T' x' y' K := by subst_vars; rfl
@[congr] theorem evStore_congr {T : TypeId} {σ σ' : St} {x x' y y' : AV} {K : St → Prop} (h : mkd σ = σ') (h1 : x = x') (h2 : y = y') : evStore P T σ x y K = evStore P T σ' x' y' K := by subst_vars; rfl
@[congr] theorem resK_congr {σ σ' : St} {rs : List ResultVar} {K : List AV → Prop} (h : mkd σ = σ') : resK P σ rs K = resK P σ' rs K := by subst_vars; rfl
variable {n : Nat} {t : List (Nat × AV)} {b : List (List AV)}
@[go_sem] theorem wpA_skip {Q : Exit → St → Prop} : wpA P .skip Q ⟨n, t, b⟩ = Q .normal ⟨n, t, b⟩ := rfl
@[go_sem] theorem wpA_label {l : Nat} {Q : Exit → St → Prop} : wpA P (.label l) Q ⟨n, t, b⟩ = Q .normal ⟨n, t, b⟩ := rfl
@[go_sem] theorem wpA_region {id : Nat} {l : List Oper} {Q : Exit → St → Prop} : wpA P (.region id l.toArray false) Q ⟨n, t, b⟩ = opsA P l.toArray l ⟨n, t, b⟩ (Q .normal) := by simp [wpA]
@[go_sem] theorem wpA_draw {id : Nat} {ops : Array Oper} {Q : Exit → St → Prop} : wpA P (.region id ops true) Q ⟨n, t, b⟩ = DrawK P ops ⟨n, t, b⟩ (Q .normal) := by simp [wpA]
@[go_sem] theorem wpA_seq {x y : Code} {Q : Exit → St → Prop} : wpA P (.seq x y) Q ⟨n, t, b⟩ = wpA P x (thenA (wpA P y Q) Q) ⟨n, t, b⟩ := rfl
@[go_sem] theorem wpA_block {id : Nat} {c : Code} {Q : Exit → St → Prop} : wpA P (.block id c) Q ⟨n, t, b⟩ = wpA P c (blockA id Q) ⟨n, t, b⟩ := rfl
@[go_sem] theorem wpA_loop {c : Code} {Q : Exit → St → Prop} : wpA P (.loop c) Q ⟨n, t, b⟩ = LoopK (wpA P c) Q ⟨n, t, b⟩ := rfl
@[go_sem] theorem wpA_exit {id : Nat} {Q : Exit → St → Prop} : wpA P (.exit id) Q ⟨n, t, b⟩ = Q (.exit id) ⟨n, t, b⟩ := rfl
@[go_sem] theorem wpA_ret {Q : Exit → St → Prop} : wpA P .ret Q ⟨n, t, b⟩ = Q .ret ⟨n, t, b⟩ := rfl
def condK (x : AV) (p q : Prop) : Prop := match x with
 | .sc (.bool b) => (b = true → p) ∧ (b = false → q)
 | .ub => p ∧ q
 | _ => False
@[congr] theorem condK_congr {x x' : AV} {p q : Prop} (h : mkd x = x') : condK x p q = condK x' p q := by subst_vars; rfl
@[go_sem] theorem condK_sc {c : Bool} {p q : Prop} : condK (.sc (.bool c)) p q = both c p q := rfl
@[go_sem] theorem condK_ub {p q : Prop} : condK .ub p q = (p ∧ q) := rfl
@[go_sem] theorem wpA_cond {c : Operand} {x y : Code} {Q : Exit → St → Prop} : wpA P (.cond c x y) Q ⟨n, t, b⟩ = condK (St.ev ⟨n, t, b⟩ c) (wpA P x Q ⟨n, t, b⟩) (wpA P y Q ⟨n, t, b⟩) := rfl
@[go_sem] theorem thenA_normal {next : St → Prop} {Q : Exit → St → Prop} {σ : St} : thenA next Q .normal σ = next σ := rfl
@[go_sem] theorem thenA_exit {next : St → Prop} {Q : Exit → St → Prop} {σ : St} {id : Nat} : thenA next Q (.exit id) σ = Q (.exit id) σ := rfl
@[go_sem] theorem thenA_ret {next : St → Prop} {Q : Exit → St → Prop} {σ : St} : thenA next Q .ret σ = Q .ret σ := rfl
@[go_sem] theorem blockA_normal {id : Nat} {Q : Exit → St → Prop} {σ : St} : blockA id Q .normal σ = Q .normal σ := rfl
@[go_sem] theorem blockA_ret {id : Nat} {Q : Exit → St → Prop} {σ : St} : blockA id Q .ret σ = Q .ret σ := rfl
@[go_sem] theorem blockA_exit {id id' : Nat} {Q : Exit → St → Prop} {σ : St} : blockA id Q (.exit id') σ = onB (decide (id' = id)) (Q .normal σ) (Q (.exit id') σ) := by simp [blockA, onB]
@[go_sem] theorem endQ_normal {rs : List ResultVar} {m : Nat} {post : AV → List (List AV) → Prop} {σ : St} : endQ P rs m post .normal σ = endK P rs m post σ := rfl
@[go_sem] theorem endQ_ret {rs : List ResultVar} {m : Nat} {post : AV → List (List AV) → Prop} {σ : St} : endQ P rs m post .ret σ = endK P rs m post σ := rfl
@[go_sem] theorem opsA_nil {ops : Array Oper} {K : St → Prop} : opsA P ops [] ⟨n, t, b⟩ K = K ⟨n, t, b⟩ := rfl
@[go_sem] theorem opsA_cons {ops : Array Oper} {r : List Oper} {K : St → Prop} {dst : Option Tmp} {op : Op} {T : TypeId} {pos : String} {af : Array Edge} :
  opsA P ops (⟨dst, op, T, pos, af, none⟩ :: r) ⟨n, t, b⟩ K = wpOp P ⟨dst, op, T, pos, af, none⟩ ⟨n, t, b⟩ fun σ' => opsA P ops r σ' K := rfl
@[go_sem] theorem opsA_guard {ops : Array Oper} {r : List Oper} {K : St → Prop} {dst : Option Tmp} {op : Op} {T : TypeId} {pos : String} {af : Array Edge} {j : Nat} {want : Bool} :
  opsA P ops (⟨dst, op, T, pos, af, some (j, want)⟩ :: r) ⟨n, t, b⟩ K = caseO (guardSlot ops j) fun g => onGuard (lookT t g) (fun c =>
   both (c == want) (wpOp P ⟨dst, op, T, pos, af, some (j, want)⟩ (St.put ⟨n, t, b⟩ (some g) (.sc (.bool want))) fun σ' => opsA P ops r σ' K)
    (andK (dstOk n dst = true) (opsA P ops r (St.put (St.put ⟨n, t, b⟩ (some g) (.sc (.bool (!want)))) dst (.sc undef)) K)))
   (andK (dstOk n dst = true) (opsA P ops r (St.put ⟨n, t, b⟩ dst (.sc undef)) K)) := by
 apply propext
 simp only [opsA, caseO, onGuard, both, andK, St.get]
 cases hg : guardSlot ops j with
 | none => simp
 | some g =>
  simp only [Option.some.injEq]
  constructor
  ·intro h
   refine ⟨g, rfl, ?_⟩
   split at h
   ·rename_i c hc
    exact .inl ⟨c, hc, fun h1 => h.1 (by simpa using h1), fun h1 => h.2 (by cases c <;> cases want <;> first | rfl | cases h1)⟩
   ·rename_i vs hc
    exact .inr ⟨vs, hc, h⟩
   ·exact h.elim
  ·rintro ⟨_, rfl, ⟨c, hc, h1, h2⟩ | ⟨vs, hc, h⟩⟩
   ·rw [hc]
    exact ⟨fun h => h1 (by simpa using h), fun h => h2 (by rw [h]; cases want <;> rfl)⟩
   ·rw [hc]; exact h
variable {d : Nat} {T : TypeId} {pos : String} {af : Array Edge} {g : Option (Nat × Bool)} {K : St → Prop}
@[go_sem] theorem wpOp_move {x : Operand} : wpOp P ⟨some d, .move x, T, pos, af, g⟩ ⟨n, t, b⟩ K = andK (d < n) (K (St.put ⟨n, t, b⟩ (some d) (typed P d T (St.ev ⟨n, t, b⟩ x)))) := propext ⟨fun h => ⟨h.1, h.2.2⟩, fun h => ⟨h.1, (fun h' => by simp [needsFresh] at h'), h.2⟩⟩
@[go_sem] theorem wpOp_assign {x : Operand} : wpOp P ⟨some d, .assign x, T, pos, af, g⟩ ⟨n, t, b⟩ K = andK (d < n) (K (St.put ⟨n, t, b⟩ (some d) (typed P d T (St.ev ⟨n, t, b⟩ x)))) := propext ⟨fun h => ⟨h.1, h.2.2⟩, fun h => ⟨h.1, (fun h' => by simp [needsFresh] at h'), h.2⟩⟩
@[go_sem] theorem wpOp_pick {c x y : Operand} : wpOp P ⟨some d, .pick c x y, T, pos, af, g⟩ ⟨n, t, b⟩ K = andK (d < n) (onBool (St.ev ⟨n, t, b⟩ c) fun v => both v (K (St.put ⟨n, t, b⟩ (some d) (St.ev ⟨n, t, b⟩ x))) (K (St.put ⟨n, t, b⟩ (some d) (St.ev ⟨n, t, b⟩ y)))) := by
 simp only [wpOp, wpAt, evOp, needsFresh, andK, onBool, both, Bool.false_eq_true, false_implies, true_and]
 cases St.ev ⟨n, t, b⟩ c <;> simp
 rename_i v; cases v <;> simp
 rename_i v; intro _; cases v <;> simp
@[go_sem] theorem wpOp_load {T' : TypeId} {x : Operand} : wpOp P ⟨some d, .load T' x, T, pos, af, g⟩ ⟨n, t, b⟩ K = andK (d < n) (evLoad P b T' (St.ev ⟨n, t, b⟩ x) fun r => K (St.put ⟨n, t, b⟩ (some d) r)) := by simp [wpOp, wpAt, evOp, needsFresh, andK]
@[go_sem] theorem wpOp_nilCheck {x : Operand} : wpOp P ⟨some d, .nilCheck x, T, pos, af, g⟩ ⟨n, t, b⟩ K = andK (d < n) (andK ((isPtr (St.ev ⟨n, t, b⟩ x) || isFn (St.ev ⟨n, t, b⟩ x)) = true) (K (St.put ⟨n, t, b⟩ (some d) (St.ev ⟨n, t, b⟩ x)))) := by simp [wpOp, wpAt, evOp, needsFresh, andK]
@[go_sem] theorem wpOp_binOp {op : BinOp} {T' T'' : TypeId} {x y : Operand} : wpOp P ⟨some d, .binOp op T' x y T'', T, pos, af, g⟩ ⟨n, t, b⟩ K = andK (d < n) (evBinOp P op T' (St.ev ⟨n, t, b⟩ x) (St.ev ⟨n, t, b⟩ y) fun r => K (St.put ⟨n, t, b⟩ (some d) r)) := by simp [wpOp, wpAt, evOp, needsFresh, andK]
@[go_sem] theorem wpOp_unOp {op : UnOp} {T' : TypeId} {x : Operand} : wpOp P ⟨some d, .unOp op T' x, T, pos, af, g⟩ ⟨n, t, b⟩ K = andK (d < n) (evUn op (St.ev ⟨n, t, b⟩ x) fun r => K (St.put ⟨n, t, b⟩ (some d) r)) := by simp [wpOp, wpAt, evOp, needsFresh, andK]
@[go_sem] theorem wpOp_convert {T' T'' : TypeId} {x : Operand} : wpOp P ⟨some d, .convert T' T'' x, T, pos, af, g⟩ ⟨n, t, b⟩ K = andK (d < n) (evConv P T' T'' (St.ev ⟨n, t, b⟩ x) fun r => K (St.put ⟨n, t, b⟩ (some d) r)) := by simp [wpOp, wpAt, evOp, needsFresh, andK]
@[go_sem] theorem wpOp_slice {T' : TypeId} {x : Operand} {lo hi mx : Option Operand} : wpOp P ⟨some d, .slice T' x lo hi mx, T, pos, af, g⟩ ⟨n, t, b⟩ K = andK (d < n) (evSlice P T' (St.ev ⟨n, t, b⟩ x) (lo.map (St.ev ⟨n, t, b⟩)) (hi.map (St.ev ⟨n, t, b⟩)) (mx.map (St.ev ⟨n, t, b⟩)) fun r => K (St.put ⟨n, t, b⟩ (some d) r)) := by simp [wpOp, wpAt, evOp, needsFresh, andK]
@[go_sem] theorem wpOp_fieldAddr {T' : TypeId} {x : Operand} {f : Nat} : wpOp P ⟨some d, .fieldAddr T' x f, T, pos, af, g⟩ ⟨n, t, b⟩ K = andK (d < n) (evFieldAddr P T' (St.ev ⟨n, t, b⟩ x) f fun r => K (St.put ⟨n, t, b⟩ (some d) r)) := by simp [wpOp, wpAt, evOp, needsFresh, andK]
@[go_sem] theorem wpOp_indexAddr {T' : TypeId} {x i : Operand} : wpOp P ⟨some d, .indexAddr T' x i, T, pos, af, g⟩ ⟨n, t, b⟩ K = andK (d < n) (evIndexAddr P T' (St.ev ⟨n, t, b⟩ x) (St.ev ⟨n, t, b⟩ i) fun r => K (St.put ⟨n, t, b⟩ (some d) r)) := by simp [wpOp, wpAt, evOp, needsFresh, andK]
@[go_sem] theorem wpOp_index {T' : TypeId} {x i : Operand} : wpOp P ⟨some d, .index T' x i, T, pos, af, g⟩ ⟨n, t, b⟩ K = andK (d < n) (evIndex P T' (St.ev ⟨n, t, b⟩ x) (St.ev ⟨n, t, b⟩ i) fun r => K (St.put ⟨n, t, b⟩ (some d) r)) := by simp [wpOp, wpAt, evOp, needsFresh, andK]
@[go_sem] theorem wpOp_extract {x : Operand} {i : Nat} : wpOp P ⟨some d, .extract x i, T, pos, af, g⟩ ⟨n, t, b⟩ K = andK (d < n) (evExtract (St.ev ⟨n, t, b⟩ x) i fun r => K (St.put ⟨n, t, b⟩ (some d) r)) := by simp [wpOp, wpAt, evOp, needsFresh, andK]
def evParts (σ : St) : List (Nat × Operand) → List (Nat × AV)
 | [] => []
 | (i, x) :: r => (i, σ.ev x) :: evParts σ r
theorem evParts_eq (σ : St) : ∀ l, evParts σ l = l.map fun p => (p.1, σ.ev p.2)
 | [] => rfl
 | (i, x) :: r => by simp [evParts, evParts_eq σ r]
def evAll (σ : St) : List Operand → List AV
 | [] => []
 | x :: r => σ.ev x :: evAll σ r
theorem evAll_eq (σ : St) : ∀ l, evAll σ l = l.map σ.ev
 | [] => rfl
 | x :: r => by simp [evAll, evAll_eq σ r]
@[go_sem] theorem wpOp_build {T' : TypeId} {ps : List (Nat × Operand)} : wpOp P ⟨some d, .build T' ps.toArray, T, pos, af, g⟩ ⟨n, t, b⟩ K = andK (d < n) (evBuild P T' (evParts ⟨n, t, b⟩ ps) fun r => K (St.put ⟨n, t, b⟩ (some d) r)) := by simp [wpOp, wpAt, evOp, needsFresh, andK, evParts_eq]
@[go_sem] theorem frz_nil {σ : St} : St.frz σ [] = σ := rfl
@[go_sem] theorem frz_cons {t : Nat} {ts : List Nat} {σ : St} : St.frz σ (t :: ts) = σ.map (freezeLeaf fun u => (t :: ts).contains u) := rfl
def buildK (P : Program) (d : Nat) (T : TypeId) (len : Nat) (ps : List (Nat × Operand)) (σ : St) (K : St → Prop) : Prop :=
 σ.free d = true ∧ evBuildSlice P d T len (evParts σ ps) fun r => K (σ.put (some d) r)
@[congr] theorem buildK_congr {d : Nat} {T : TypeId} {len : Nat} {ps : List (Nat × Operand)} {σ σ' : St} {K : St → Prop} (h : mkd σ = σ') : buildK P d T len ps σ K = buildK P d T len ps σ' K := by subst_vars; rfl
@[go_sem] theorem buildK_mk {d : Nat} {T : TypeId} {len : Nat} {ps : List (Nat × Operand)} {K : St → Prop} : buildK P d T len ps ⟨n, t, b⟩ K = andK (St.free ⟨n, t, b⟩ d = true) (evBuildSlice P d T len (evParts ⟨n, t, b⟩ ps) fun r => K (St.put ⟨n, t, b⟩ (some d) r)) := rfl
def evVals (σ : St) : List (Nat × Operand) → List AV
 | [] => []
 | (_, x) :: r => σ.ev x :: evVals σ r
theorem evVals_eq (σ : St) : ∀ l, evVals σ l = l.map fun p => σ.ev p.2
 | [] => rfl
 | (i, x) :: r => by simp [evVals, evVals_eq σ r]
attribute [go_sem] evVals
@[congr] theorem keepSel_congr {l l' : List AV} {k1 : Nat → Nat → List AV → Prop} {k2 : Prop} (h : mkd l = l') : keepSel l k1 k2 = keepSel l' k1 k2 := by subst_vars; rfl
@[go_sem] theorem keepSel_nil {k1 : Nat → Nat → List AV → Prop} {k2 : Prop} : keepSel [] k1 k2 = k2 := rfl
@[go_sem] theorem keepSel_two {x y : AV} {l : List AV} {k1 : Nat → Nat → List AV → Prop} {k2 : Prop} : keepSel (x :: y :: l) k1 k2 = k2 := by cases x <;> rfl
attribute [go_sem] keepHints
@[go_sem] theorem keepSel_sc {v : Value} {k1 : Nat → Nat → List AV → Prop} {k2 : Prop} : keepSel [.sc v] k1 k2 = k2 := rfl
@[go_sem] theorem keepSel_ub {k1 : Nat → Nat → List AV → Prop} {k2 : Prop} : keepSel [.ub] k1 k2 = k2 := rfl
@[go_sem] theorem keepSel_nil1 {k1 : Nat → Nat → List AV → Prop} {k2 : Prop} : keepSel [.nil] k1 k2 = k2 := rfl
@[go_sem] theorem keepSel_ag {cs : List AV} {k1 : Nat → Nat → List AV → Prop} {k2 : Prop} : keepSel [.ag cs] k1 k2 = k2 := rfl
@[go_sem] theorem keepSel_fn {f : FuncId} {cs : List AV} {k1 : Nat → Nat → List AV → Prop} {k2 : Prop} : keepSel [.fn f cs] k1 k2 = k2 := rfl
@[go_sem] theorem keepSel_so {t0 : Nat} {cs : List AV} {k1 : Nat → Nat → List AV → Prop} {k2 : Prop} : keepSel [.so t0 cs] k1 k2 = k2 := rfl
@[go_sem] theorem keepSel_pb {i o : Nat} {k1 : Nat → Nat → List AV → Prop} {k2 : Prop} : keepSel [.pb i o] k1 k2 = k2 := rfl
@[go_sem] theorem keepSel_any {k1 : Nat → Nat → List AV → Prop} {k2 : Prop} : keepSel [.any] k1 k2 = k2 := rfl
@[go_sem] theorem wpOp_buildSlice {T' : TypeId} {len : Nat} {ps : List (Nat × Operand)} : wpOp P ⟨some d, .buildSlice T' len ps.toArray, T, pos, af, g⟩ ⟨n, t, b⟩ K = andK (d < n) (keepSel (evVals ⟨n, t, b⟩ ps) (keepK P d T' len ps ⟨n, t, b⟩ K) (buildK P d T' len ps (St.frz ⟨n, t, b⟩ (tagss (evVals ⟨n, t, b⟩ ps))) K)) := by rw [evVals_eq]; unfold buildK; rw [evParts_eq]; rfl
@[go_sem] theorem wpOp_makeSlice {T' : TypeId} {l c : Operand} : wpOp P ⟨some d, .makeSlice T' l c, T, pos, af, g⟩ ⟨n, t, b⟩ K = andK (d < n) (andK (St.free ⟨n, t, b⟩ d = true) (evMake P d T' (St.ev ⟨n, t, b⟩ l) (St.ev ⟨n, t, b⟩ c) fun r => K (St.put ⟨n, t, b⟩ (some d) r))) := by simp [wpOp, wpAt, evOp, needsFresh, andK]
def allFz : List AV → Bool
 | [] => true
 | x :: r => fzLeaf x && allFz r
theorem allFz_eq : ∀ l, allFz l = l.all fzLeaf
 | [] => rfl
 | x :: r => by simp [allFz, allFz_eq r]
def allCap : List AV → Bool
 | [] => true
 | x :: r => capOk x && allCap r
theorem allCap_eq : ∀ l, allCap l = l.all capOk
 | [] => rfl
 | x :: r => by simp [allCap, allCap_eq r]
attribute [go_sem] allCap capOk
@[go_sem] theorem wpOp_makeFunc {f : FuncId} {caps : List Operand} : wpOp P ⟨some d, .makeFunc (.func f) (List.toArray []) caps.toArray, T, pos, af, g⟩ ⟨n, t, b⟩ K = andK (d < n) (onB (allFz (evAll ⟨n, t, b⟩ caps)) (K (St.put ⟨n, t, b⟩ (some d) (.fn f (evAll ⟨n, t, b⟩ caps)))) (andK (allCap (evAll ⟨n, t, b⟩ caps) = true) (K (St.put ⟨n, t, b⟩ (some d) (.cl f (evAll ⟨n, t, b⟩ caps)))))) := by
 simp [wpOp, wpAt, evOp, needsFresh, andK, onB, allFz_eq, allCap_eq, evAll_eq, List.all_map, Function.comp_def]
@[go_sem] theorem wpOp_makeMap {T' : TypeId} : wpOp P ⟨some d, .makeMap T' none, T, pos, af, g⟩ ⟨n, t, b⟩ K = andK (d < n) (andK (St.free ⟨n, t, b⟩ d = true) (evMakeMap P d T' fun r => K (St.put ⟨n, t, b⟩ (some d) r))) := by simp [wpOp, wpAt, evOp, needsFresh, andK]
@[go_sem] theorem wpOp_lookup {T' : TypeId} {x y : Operand} : wpOp P ⟨some d, .lookup T' x y false, T, pos, af, g⟩ ⟨n, t, b⟩ K = andK (d < n) (evLookup P T' (St.ev ⟨n, t, b⟩ x) (St.ev ⟨n, t, b⟩ y) fun r => K (St.put ⟨n, t, b⟩ (some d) r)) := by simp [wpOp, wpAt, evOp, needsFresh, andK]
@[go_sem] theorem wpOp_mapUpdate {T' : TypeId} {m x y : Operand} : wpOp P ⟨none, .mapUpdate T' m x y, T, pos, af, g⟩ ⟨n, t, b⟩ K = evMapPut P T' ⟨n, t, b⟩ (St.ev ⟨n, t, b⟩ m) (St.ev ⟨n, t, b⟩ x) (St.ev ⟨n, t, b⟩ y) K := rfl
@[go_sem] theorem wpOp_clear {x : Operand} {T' : TypeId} : wpOp P ⟨none, .call ⟨.builtin .clear, [x].toArray, [T'].toArray⟩, T, pos, af, g⟩ ⟨n, t, b⟩ K = evClear P T' ⟨n, t, b⟩ (St.ev ⟨n, t, b⟩ x) K := rfl
@[congr] theorem evClear_congr {T : TypeId} {σ σ' : St} {x x' : AV} {K : St → Prop} (h : mkd σ = σ') (h0 : x = x') : evClear P T σ x K = evClear P T σ' x' K := by subst_vars; rfl
@[go_sem] theorem wpOp_insert {T' : TypeId} {m x y : Operand} : wpOp P ⟨none, .insert T' m x y, T, pos, af, g⟩ ⟨n, t, b⟩ K = evMapPut P T' ⟨n, t, b⟩ (St.ev ⟨n, t, b⟩ m) (St.ev ⟨n, t, b⟩ x) (St.ev ⟨n, t, b⟩ y) K := rfl
def onMap (d : Option TypeDesc) (k : TypeId → TypeId → Prop) : Prop := ∃ a b, d = some (.map a b) ∧ k a b
@[congr] theorem onMap_congr {d d' : Option TypeDesc} {k : TypeId → TypeId → Prop} (h : mkd d = d') : onMap d k = onMap d' k := by subst_vars; rfl
@[go_sem] theorem onMap_some (a b : TypeId) (k : TypeId → TypeId → Prop) : onMap (some (.map a b)) k = k a b := by
 unfold onMap
 apply propext
 constructor
 ·rintro ⟨a', b', h, hk⟩; cases h; exact hk
 ·intro h; exact ⟨a, b, rfl, h⟩
@[go_sem] theorem evMakeMap_eq {T' : TypeId} {K : AV → Prop} : evMakeMap P d T' K = onMap (P.underlying T') fun k e => K (.mp (64 * (d + 1)) P k e (.map [])) := by
 unfold evMakeMap onMap
 apply propext
 constructor
 ·intro h
  split at h
  ·rename_i k e hT; exact ⟨k, e, hT, h⟩
  ·exact h.elim
 ·rintro ⟨k, e, hT, h⟩
  rw [hT]; exact h
@[go_sem] theorem evLenM_sl {T' : TypeId} {K : AV → Prop} {t' es : Nat} {xs : List AV} : evLenM P T' (.sl t' es xs) K = evLen P T' (.sl t' es xs) K := rfl
@[go_sem] theorem evLenM_tl {T' : TypeId} {K : AV → Prop} {t' es i : Nat} {xs : List AV} : evLenM P T' (.tl t' es xs i) K = evLen P T' (.tl t' es xs i) K := rfl
@[go_sem] theorem evLenM_so {T' : TypeId} {K : AV → Prop} {t' : Nat} {xs : List AV} : evLenM P T' (.so t' xs) K = evLen P T' (.so t' xs) K := rfl
@[go_sem] theorem evLenM_nil {T' : TypeId} {K : AV → Prop} : evLenM P T' .nil K = evLen P T' .nil K := rfl
@[go_sem] theorem evLenM_sc {T' : TypeId} {K : AV → Prop} {v : Value} : evLenM P T' (.sc v) K = evLen P T' (.sc v) K := rfl
@[go_sem] theorem evLenM_ag {T' : TypeId} {K : AV → Prop} {cs : List AV} : evLenM P T' (.ag cs) K = evLen P T' (.ag cs) K := rfl
@[go_sem] theorem evLenM_mp {T' : TypeId} {K : AV → Prop} {t' : Nat} {P' : Program} {k e : TypeId} {D : DataW Unit} : evLenM P T' (.mp t' P' k e D) K = andK (isMap (P.underlying T') = true) (K (.sc (.int .i64 (mapLen D)))) := rfl
attribute [go_sem] isMap
theorem evLookup_str {T' : TypeId} {K : AV → Prop} {t' : Nat} {k e : TypeId} {D : DataW Unit} {s : ByteArray} {q : Nat × Nat × Option Value} (hT : P.underlying T' = some (.map k e)) (hk : P.underlying k = some .string) (he : P.underlying e = some .bool)
  (hq : tinfo P e = some q) (hz : q.2.2 = some (.bool false)) (hs : s.size ≤ 9223372036854775807) (h : K (.sc (.bool (boolAt D (.string s.data.toList))))) : evLookup P T' (.mp t' P k e D) (.sc (.string s)) K := by
 unfold evLookup
 refine ⟨rfl, hT, by rw [hk]; rfl, _, Go.WideMaps.keyOf_string_mk hk (by unfold maxLen; omega), q, hq, ?_⟩
 rw [he]; exact ⟨hz, h⟩
theorem evMapPut_str {T' : TypeId} {σ : St} {K : St → Prop} {t' : Nat} {k e : TypeId} {D : DataW Unit} {s : ByteArray} {x : Bool} (hT : P.underlying T' = some (.map k e)) (hk : P.underlying k = some .string) (he : P.underlying e = some .bool)
  (hs : s.size ≤ 9223372036854775807) (hl : mapLen D < 9223372036854775807) (h : K (σ.map (putMap t' P k e (D.put (.string s.data.toList) (.lit (.bool x)))))) : evMapPut P T' σ (.mp t' P k e D) (.sc (.string s)) (.sc (.bool x)) K := by
 unfold evMapPut
 exact ⟨rfl, hT, by rw [hk]; rfl, hl, _, _, Go.WideMaps.keyOf_string_mk hk (by unfold maxLen; omega), plainElem_bool he x, h⟩
@[go_sem] theorem wpOp_len {x : Operand} {T' : TypeId} : wpOp P ⟨some d, .call ⟨.builtin .len, [x].toArray, [T'].toArray⟩, T, pos, af, g⟩ ⟨n, t, b⟩ K = andK (d < n) (evLenM P T' (St.ev ⟨n, t, b⟩ x) fun r => K (St.put ⟨n, t, b⟩ (some d) r)) := by simp [wpOp, wpAt, evOp, needsFresh, andK]
@[go_sem] theorem wpOp_cap {x : Operand} {T' : TypeId} : wpOp P ⟨some d, .call ⟨.builtin .cap, [x].toArray, [T'].toArray⟩, T, pos, af, g⟩ ⟨n, t, b⟩ K = andK (d < n) (evCap P T' (St.ev ⟨n, t, b⟩ x) fun r => K (St.put ⟨n, t, b⟩ (some d) r)) := by simp [wpOp, wpAt, evOp, needsFresh, andK]
@[go_sem] theorem wpOp_min {x y : Operand} {As : Array TypeId} : wpOp P ⟨some d, .call ⟨.builtin .min, [x, y].toArray, As⟩, T, pos, af, g⟩ ⟨n, t, b⟩ K = andK (d < n) (evMin (St.ev ⟨n, t, b⟩ x) (St.ev ⟨n, t, b⟩ y) fun r => K (St.put ⟨n, t, b⟩ (some d) r)) := by simp [wpOp, wpAt, evOp, needsFresh, andK]
@[go_sem] theorem wpOp_append {x y : Operand} {T' T'' : TypeId} : wpOp P ⟨some d, .call ⟨.builtin .append, [x, y].toArray, [T', T''].toArray⟩, T, pos, af, g⟩ ⟨n, t, b⟩ K = andK (d < n) (evAppend P T' T'' d ⟨n, t, b⟩ (St.ev ⟨n, t, b⟩ x) (St.ev ⟨n, t, b⟩ y) K) := by simp [wpOp, wpAt, andK]
@[go_sem] theorem wpOp_call {f : FuncId} {args : List Operand} {As : Array TypeId} : wpOp P ⟨some d, .call ⟨.value (.func f), args.toArray, As⟩, T, pos, af, g⟩ ⟨n, t, b⟩ K = andK (d < n) (CallU P f (evAll ⟨n, t, b⟩ args) d ⟨n, t, b⟩ K) := by simp [wpOp, wpAt, andK, St.ev, evAll_eq]
def CallF (P : Program) (f : AV) (args : List AV) (d : Nat) (σ : St) (K : St → Prop) : Prop :=
 match f with
 | .fn fid caps => CallU P fid (args ++ caps) d σ K
 | _ => False
@[congr] theorem CallF_congr {f f' : AV} {args args' : List AV} {d : Nat} {K : St → Prop} {σ σ' : St} (h0 : mkd f = f') (h1 : args = args') (h : σ = σ') : CallF P f args d σ K = CallF P f' args' d σ' K := by subst_vars; rfl
@[go_sem] theorem CallF_fn {f : FuncId} {caps args : List AV} {d : Nat} {σ : St} {K : St → Prop} : CallF P (.fn f caps) args d σ K = CallU P f (args ++ caps) d σ K := rfl
@[go_sem] theorem wpOp_callF {f : Tmp} {args : List Operand} {As : Array TypeId} : wpOp P ⟨some d, .call ⟨.value (.tmp f), args.toArray, As⟩, T, pos, af, g⟩ ⟨n, t, b⟩ K = andK (d < n) (CallF P (lookT t f) (evAll ⟨n, t, b⟩ args) d ⟨n, t, b⟩ K) := by
 simp only [wpOp, wpAt, andK, St.ev, St.get, evAll_eq, CallF]; rfl
@[go_sem] theorem wpOp_box {T' : TypeId} {x : Operand} : wpOp P ⟨some d, .box T' x, T, pos, af, g⟩ ⟨n, t, b⟩ K = andK (d < n) (andK ((St.ev ⟨n, t, b⟩ x).one = true) (K (St.put ⟨n, t, b ++ [(St.ev ⟨n, t, b⟩ x).cells]⟩ (some d) (.pb b.length 0)))) := by simp [wpOp, wpAt, andK]
def evAlloc (P : Program) (T : TypeId) (K : List AV → Prop) : Prop := caseO (tinfo P T) fun q => caseO q.2.2 fun z => andK ((z.cells.toList.all fun u => u.oneCell') = true) (K (ofConst z).cells)
@[go_sem] theorem wpOp_alloc {T' : TypeId} : wpOp P ⟨some d, .alloc T', T, pos, af, g⟩ ⟨n, t, b⟩ K = andK (d < n) (evAlloc P T' fun cs => K (St.put ⟨n, t, b ++ [cs]⟩ (some d) (.pb b.length 0))) := by
 apply propext
 simp only [wpOp, wpAt, andK, evAlloc, caseO]
 constructor
 ·rintro ⟨h1, q, z, h2, h3, h4, h5⟩; exact ⟨h1, q, h2, z, h3, h4, h5⟩
 ·rintro ⟨h1, q, h2, z, h3, h4, h5⟩; exact ⟨h1, q, z, h2, h3, h4, h5⟩
def storeK (P : Program) (T : TypeId) (x y : Operand) (σ : St) (K : St → Prop) : Prop := evStore P T σ (σ.ev x) (σ.ev y) K
@[congr] theorem storeK_congr {T : TypeId} {x y : Operand} {σ σ' : St} {K : St → Prop} (h : mkd σ = σ') : storeK P T x y σ K = storeK P T x y σ' K := by subst_vars; rfl
@[go_sem] theorem storeK_mk {T : TypeId} {x y : Operand} {K : St → Prop} : storeK P T x y ⟨n, t, b⟩ K = evStore P T ⟨n, t, b⟩ (St.ev ⟨n, t, b⟩ x) (St.ev ⟨n, t, b⟩ y) K := rfl
@[go_sem] theorem stFrz_pe {t es i o : Nat} {xs : List AV} {x : AV} {σ : St} : stFrz σ (.pe t es xs i o) x = σ.frz x.tags := rfl
@[go_sem] theorem stFrz_pb {i o : Nat} {x : AV} {σ : St} : stFrz σ (.pb i o) x = σ := rfl
@[go_sem] theorem stFrz_po_sl {t i t' es : Nat} {xs ys : List AV} {σ : St} : stFrz σ (.po t xs i) (.sl t' es ys) = if 2 ≤ t' ∧ root t' ≠ root t then σ.map (retagLeaf t' (subT t i)) else σ := rfl
@[go_sem] theorem stFrz_po_sc {t i : Nat} {xs : List AV} {v : Value} {σ : St} : stFrz σ (.po t xs i) (.sc v) = σ := rfl
@[go_sem] theorem stFrz_po_nil {t i : Nat} {xs : List AV} {σ : St} : stFrz σ (.po t xs i) .nil = σ := rfl
@[go_sem] theorem stFrz_po_ub {t i : Nat} {xs : List AV} {σ : St} : stFrz σ (.po t xs i) .ub = σ := rfl
@[go_sem] theorem wpOp_store {T' : TypeId} {x y : Operand} : wpOp P ⟨none, .store T' x y, T, pos, af, g⟩ ⟨n, t, b⟩ K = storeK P T' x y (stFrz ⟨n, t, b⟩ (St.ev ⟨n, t, b⟩ x) (St.ev ⟨n, t, b⟩ y)) K := by simp [wpOp, storeK]
end
end Go.AM
