/- AmO AmP AmQ AmS AmT Am3 -/
import Derived.Test.YtapjfgddbfneaaaGreatg4
import Derived.Orders
import Derived.ProofKit
import Derived.Deep.Slices
import Derived.OpenShut
import Derived.SizedLaws
namespace Go.AM
open Go.RowKit
def mkd {α : Type} (x : α) : α := x
@[go_sem, simp] theorem mkd_eq {α : Type} (x : α) : mkd x = x := congrFun (funext fun y => (Eq.refl (mkd y) : mkd y = y)) x
def caseO {α : Type} (o : Option α) (k : α -> Prop) : Prop := ∃ a, o = some a /\ k a
@[congr] theorem caseO_congr {α : Type} {o o' : Option α} {k : α -> Prop} (h : mkd o = o') : caseO o k = caseO o' k := by subst_vars; rfl
@[go_sem] theorem caseO_some {α : Type} (a : α) (k : α -> Prop) : caseO (some a) k = k a := by simp [caseO]
def onSlice (d : Option TypeDesc) (k : TypeId -> Prop) : Prop := ∃ E, d = some (.slice E) /\ k E
@[congr] theorem onSlice_congr {d d' : Option TypeDesc} {k : TypeId -> Prop} (h : mkd d = d') : onSlice d k = onSlice d' k := by subst_vars; rfl
@[go_sem] theorem onSlice_some (E : TypeId) (k : TypeId -> Prop) : onSlice (some (.slice E)) k = k E := by simp [onSlice]
def onArray (d : Option TypeDesc) (k : Nat -> TypeId -> Prop) : Prop := ∃ n E, d = some (.array n E) /\ k n E
@[congr] theorem onArray_congr {d d' : Option TypeDesc} {k : Nat -> TypeId -> Prop} (h : mkd d = d') : onArray d k = onArray d' k := by subst_vars; rfl
@[go_sem] theorem onArray_some (n : Nat) (E : TypeId) (k : Nat -> TypeId -> Prop) : onArray (some (.array n E)) k = k n E := by
 unfold onArray
 apply propext
 constructor
 ·rintro ⟨n', E', h, hk⟩; cases h; exact hk
 ·intro h; exact ⟨n, E, rfl, h⟩
def onB (b : Bool) (p q : Prop) : Prop := if b = true then p else q
@[congr] theorem onB_congr {b b' : Bool} {p q : Prop} (h : mkd b = b') : onB b p q = onB b' p q := by subst_vars; rfl
@[go_sem] theorem onB_true (p q : Prop) : onB true p q = p := rfl
@[go_sem] theorem onB_false (p q : Prop) : onB false p q = q := rfl
def onBool (x : AV) (k : Bool -> Prop) : Prop := ∃ b, x = .sc (.bool b) /\ k b
@[congr] theorem onBool_congr {x x' : AV} {k : Bool -> Prop} (h : mkd x = x') : onBool x k = onBool x' k := by subst_vars; rfl
@[go_sem] theorem onBool_sc (b : Bool) (k : Bool -> Prop) : onBool (.sc (.bool b)) k = k b := by
 unfold onBool
 apply propext
 constructor
 ·rintro ⟨b', h, hk⟩; cases h; exact hk
 ·intro h; exact ⟨b, rfl, h⟩
def onGuard (x : AV) (k : Bool -> Prop) (q : Prop) : Prop := (∃ b, x = .sc (.bool b) /\ k b) \/ ∃ vs, x = .sc (.tuple vs) /\ q
@[congr] theorem onGuard_congr {x x' : AV} {k : Bool -> Prop} {q : Prop} (h : mkd x = x') : onGuard x k q = onGuard x' k q := by subst_vars; rfl
@[go_sem] theorem onGuard_sc (b : Bool) (k : Bool -> Prop) (q : Prop) : onGuard (.sc (.bool b)) k q = k b := by
 unfold onGuard
 apply propext
 constructor
 ·rintro (⟨b', h, hk⟩ | ⟨vs, h, _⟩)
  ·cases h; exact hk
  ·cases h
 ·intro h; exact .inl ⟨b, rfl, h⟩
@[go_sem] theorem onGuard_un (k : Bool -> Prop) (q : Prop) : onGuard (.sc undef) k q = q := by
 unfold onGuard
 apply propext
 constructor
 ·rintro (⟨b', h, hk⟩ | ⟨vs, h, hq⟩)
  ·cases h
  ·exact hq
 ·intro h; exact .inr ⟨_, rfl, h⟩
def both (b : Bool) (p q : Prop) : Prop := (b = true -> p) /\ (b = false -> q)
@[congr] theorem both_congr {b b' : Bool} {p q : Prop} (h : mkd b = b') : both b p q = both b' p q := by subst_vars; rfl
@[go_sem] theorem both_true (p q : Prop) : both true p q = p := by simp [both]
@[go_sem] theorem both_false (p q : Prop) : both false p q = q := by simp [both]
def andK (p q : Prop) : Prop := p /\ q
@[congr] theorem andK_congr {p p' q : Prop} (h : mkd p = p') : andK p q = andK p' q := by subst_vars; rfl
@[go_sem] theorem andK_true (q : Prop) : andK True q = q := by simp [andK]
section
variable {P : Program}
@[congr] theorem wpA_congr {c : Code} {Q : Exit -> St -> Prop} {σ σ' : St} (h : mkd σ = σ') : wpA P c Q σ = wpA P c Q σ' := by subst_vars; rfl
@[congr] theorem opsA_congr {ops : Array Oper} {l : List Oper} {K : St -> Prop} {σ σ' : St} (h : mkd σ = σ') : opsA P ops l σ K = opsA P ops l σ' K := by subst_vars; rfl
@[congr] theorem wpOp_congr {o : Oper} {K : St -> Prop} {σ σ' : St} (h : mkd σ = σ') : wpOp P o σ K = wpOp P o σ' K := by subst_vars; rfl
@[congr] theorem LoopK_congr {body : (Exit -> St -> Prop) -> St -> Prop} {Q : Exit -> St -> Prop} {σ σ' : St} (h : mkd σ = σ') : LoopK body Q σ = LoopK body Q σ' := by subst_vars; rfl
@[congr] theorem roundK_congr {α : Type} {st : α -> St} {m : α -> Nat} {inv : α -> Prop} {x : α} {σ σ' : St} (h : mkd σ = σ') : roundK st m inv x σ = roundK st m inv x σ' := by subst_vars; rfl
@[congr] theorem ScopeK_congr {c : Code} {Q : Exit -> St -> Prop} {σ σ' : St} (h : mkd σ = σ') : ScopeK P c Q σ = ScopeK P c Q σ' := by subst_vars; rfl
@[congr] theorem RangeK_congr {g : Operand} {ps : Array Tmp} {x y : Code} {Q : Exit -> St -> Prop} {σ σ' : St} (h : mkd σ = σ') : RangeK P g ps x y Q σ = RangeK P g ps x y Q σ' := by subst_vars; rfl
@[congr] theorem jumpK_congr {α : Type} {st : α -> St} {m : α -> Nat} {inv : α -> Prop} {x : α} {σ σ' : St} (h : mkd σ = σ') : jumpK st m inv x σ = jumpK st m inv x σ' := by subst_vars; rfl
@[congr] theorem fromK_congr {α : Type} {st : α -> St} {inv : α -> Prop} {σ σ' : St} (h : mkd σ = σ') : fromK st inv σ = fromK st inv σ' := by subst_vars; rfl
@[congr] theorem DrawK_congr {ops : Array Oper} {K : St -> Prop} {σ σ' : St} (h : mkd σ = σ') : DrawK P ops σ K = DrawK P ops σ' K := by subst_vars; rfl
@[congr] theorem CallU_congr {f : FuncId} {args args' : List AV} {d : Nat} {K : St -> Prop} {σ σ' : St} (h1 : mkd args = args') (h : σ = σ') : CallU P f args d σ K = CallU P f args' d σ' K := by subst_vars; rfl
@[congr] theorem thenA_congr {next : St -> Prop} {Q : Exit -> St -> Prop} {e e' : Exit} {σ σ' : St} (h1 : mkd e = e') (h : σ = σ') : thenA next Q e σ = thenA next Q e' σ' := by subst_vars; rfl
@[congr] theorem jumpA_congr {l : Nat} {J : St -> Prop} {Q : Exit -> St -> Prop} {e e' : Exit} {σ σ' : St} (h1 : mkd e = e') (h : σ = σ') : jumpA l J Q e σ = jumpA l J Q e' σ' := by subst_vars; rfl
@[congr] theorem upA_congr {J : St -> Prop} {Q : Exit -> St -> Prop} {e e' : Exit} {σ σ' : St} (h1 : mkd e = e') (h : σ = σ') : upA J Q e σ = upA J Q e' σ' := by subst_vars; rfl
@[congr] theorem blockA_congr {id : Nat} {Q : Exit -> St -> Prop} {e e' : Exit} {σ σ' : St} (h1 : mkd e = e') (h : σ = σ') : blockA id Q e σ = blockA id Q e' σ' := by subst_vars; rfl
@[congr] theorem evLoad_congr {bx bx' : List (List AV)} {T : TypeId} {x x' : AV} {K : AV -> Prop} (h1 : mkd bx = bx') (h : x = x') : evLoad P bx T x K = evLoad P bx' T x' K := by subst_vars; rfl
@[congr] theorem evPart_congr {T : TypeId} {cs cs' : List AV} {o o' : Nat} {K : AV -> Prop} (h1 : mkd cs = cs') (h : o = o') : evPart P T cs o K = evPart P T cs' o' K := by subst_vars; rfl
@[congr] theorem evBinOp_congr {op : BinOp} {T : TypeId} {x x' y y' : AV} {K : AV -> Prop} (h1 : mkd x = x') (h : y = y') : evBinOp P op T x y K = evBinOp P op T x' y' K := by subst_vars; rfl
@[congr] theorem evBin_congr {op : BinOp} {T : TypeId} {x x' y y' : Value} {K : Value -> Prop} (h1 : mkd x = x') (h : y = y') : evBin P op T x y K = evBin P op T x' y' K := by subst_vars; rfl
@[congr] theorem evUn_congr {op : UnOp} {x x' : AV} {K : AV -> Prop} (h : mkd x = x') : evUn op x K = evUn op x' K := by subst_vars; rfl
@[congr] theorem evConv_congr {s t : TypeId} {x x' : AV} {K : AV -> Prop} (h : mkd x = x') : evConv P s t x K = evConv P s t x' K := by subst_vars; rfl
@[congr] theorem evSlice_congr {T : TypeId} {x x' : AV} {lo lo' hi hi' mx mx' : Option AV} {K : AV -> Prop} (h : mkd x = x') (h1 : lo = lo') (h2 : hi = hi') (h3 : mx = mx') : evSlice P T x lo hi mx K = evSlice P T x' lo' hi' mx' K := by subst_vars; rfl
@[congr] theorem evBound_congr {x x' : Option AV} {d d' : Nat} {K : Nat -> Prop} (h : mkd x = x') (h1 : d = d') : evBound x d K = evBound x' d' K := by subst_vars; rfl
@[congr] theorem evFieldAddr_congr {T : TypeId} {x x' : AV} {f : Nat} {K : AV -> Prop} (h : mkd x = x') : evFieldAddr P T x f K = evFieldAddr P T x' f K := by subst_vars; rfl
@[congr] theorem evField_congr {T : TypeId} {x x' : AV} {f : Nat} {K : AV -> Prop} (h : mkd x = x') : evField P T x f K = evField P T x' f K := by subst_vars; rfl
@[congr] theorem evIndexAddr_congr {T : TypeId} {x x' i i' : AV} {K : AV -> Prop} (h : mkd x = x') (h1 : i = i') : evIndexAddr P T x i K = evIndexAddr P T x' i' K := by subst_vars; rfl
@[congr] theorem evIndex_congr {T : TypeId} {x x' i i' : AV} {K : AV -> Prop} (h : mkd x = x') (h1 : i = i') : evIndex P T x i K = evIndex P T x' i' K := by subst_vars; rfl
@[congr] theorem evExtract_congr {x x' : AV} {i : Nat} {K : AV -> Prop} (h : mkd x = x') : evExtract x i K = evExtract x' i K := by subst_vars; rfl
@[congr] theorem evBuild_congr {T : TypeId} {ps ps' : List (Nat × AV)} {K : AV -> Prop} (h : mkd ps = ps') : evBuild P T ps K = evBuild P T ps' K := by subst_vars; rfl
@[congr] theorem evBuildSlice_congr {d : Nat} {T : TypeId} {n : Nat} {ps ps' : List (Nat × AV)} {K : AV -> Prop} (h : mkd ps = ps') : evBuildSlice P d T n ps K = evBuildSlice P d T n ps' K := by subst_vars; rfl
@[congr] theorem evMake_congr {d : Nat} {T : TypeId} {x x' i i' : AV} {K : AV -> Prop} (h : mkd x = x') (h1 : i = i') : evMake P d T x i K = evMake P d T x' i' K := by subst_vars; rfl
@[congr] theorem evLen_congr {T : TypeId} {x x' : AV} {K : AV -> Prop} (h : mkd x = x') : evLen P T x K = evLen P T x' K := by subst_vars; rfl
@[congr] theorem evLenM_congr {T : TypeId} {x x' : AV} {K : AV -> Prop} (h : mkd x = x') : evLenM P T x K = evLenM P T x' K := by subst_vars; rfl
@[congr] theorem evLookup_congr {T : TypeId} {x x' i i' : AV} {K : AV -> Prop} (h : mkd x = x') (h1 : i = i') : evLookup P T x i K = evLookup P T x' i' K := by subst_vars; rfl
@[congr] theorem evMapPut_congr {T : TypeId} {σ σ' : St} {m m' x x' y y' : AV} {K : St -> Prop} (h : mkd σ = σ') (h0 : m = m') (h1 : x = x') (h2 : y = y') : evMapPut P T σ m x y K = evMapPut P T σ' m' x' y' K := by subst_vars; rfl
@[congr] theorem evCap_congr {T : TypeId} {x x' : AV} {K : AV -> Prop} (h : mkd x = x') : evCap P T x K = evCap P T x' K := by subst_vars; rfl
@[congr] theorem evAppendX_congr {T T' : TypeId} {d : Nat} {x x' y y' : AV} {K : AV -> Prop} (h1 : mkd x = x') (h2 : y = y') : evAppendX P d T T' x y K = evAppendX P d T T' x' y' K := by subst_vars; rfl
@[congr] theorem evAppendZ_congr {T T' : TypeId} {d : Nat} {x x' : AV} {y y' : Int} {K : AV -> Prop} (h1 : mkd x = x') (h2 : y = y') : evAppendZ P d T T' x y K = evAppendZ P d T T' x' y' K := by subst_vars; rfl
@[congr] theorem evMax_congr {x x' i i' : AV} {K : AV -> Prop} (h : mkd x = x') (h1 : i = i') : evMax x i K = evMax x' i' K := by subst_vars; rfl
@[congr] theorem evMin_congr {x x' i i' : AV} {K : AV -> Prop} (h : mkd x = x') (h1 : i = i') : evMin x i K = evMin x' i' K := by subst_vars; rfl
@[congr] theorem evAppend_congr {T T' : TypeId} {d : Nat} {σ σ' : St} {x x' y y' : AV} {K : St -> Prop} (h : mkd σ = σ') (h1 : x = x') (h2 : y = y') : evAppend P T T' d σ x y K = evAppend P T T' d σ' x' y' K := by subst_vars; rfl
@[congr] theorem evAppendNew_congr {T T' : TypeId} {d : Nat} {x x' y y' : AV} {K : AV -> Prop} (h1 : mkd x = x') (h2 : y = y') : evAppendNew P d T T' x y K = evAppendNew P d T T' x' y' K := by subst_vars; rfl
@[congr] theorem evAppendOwn_congr {T T' : TypeId} {x x' y y' : AV} {K : Nat -> AV -> Prop} (h1 : mkd x = x') (h2 : y = y') : evAppendOwn P T T' x y K = evAppendOwn P T T' x' y' K := by subst_vars; rfl
@[congr] theorem evStore_congr {T : TypeId} {σ σ' : St} {x x' y y' : AV} {K : St -> Prop} (h : mkd σ = σ') (h1 : x = x') (h2 : y = y') : evStore P T σ x y K = evStore P T σ' x' y' K := by subst_vars; rfl
@[congr] theorem resK_congr {σ σ' : St} {rs : List ResultVar} {K : List AV -> Prop} (h : mkd σ = σ') : resK P σ rs K = resK P σ' rs K := by subst_vars; rfl
variable {n : Nat} {t : List (Nat × AV)} {b : List (List AV)}
@[go_sem] theorem wpA_skip {Q : Exit -> St -> Prop} : wpA P .skip Q ⟨n, t, b⟩ = Q .normal ⟨n, t, b⟩ := rfl
@[go_sem] theorem wpA_label {l : Nat} {Q : Exit -> St -> Prop} : wpA P (.label l) Q ⟨n, t, b⟩ = Q .normal ⟨n, t, b⟩ := rfl
@[go_sem] theorem wpA_region {id : Nat} {l : List Oper} {Q : Exit -> St -> Prop} : wpA P (.region id l.toArray false) Q ⟨n, t, b⟩ = opsA P l.toArray l ⟨n, t, b⟩ (Q .normal) := by simp [wpA]
@[go_sem] theorem wpA_draw {id : Nat} {ops : Array Oper} {Q : Exit -> St -> Prop} : wpA P (.region id ops true) Q ⟨n, t, b⟩ = DrawK P ops ⟨n, t, b⟩ (Q .normal) := by simp [wpA]
@[go_sem] theorem wpA_seq {x y : Code} {Q : Exit -> St -> Prop} : wpA P (.seq x y) Q ⟨n, t, b⟩ = wpA P x (thenA (wpA P y Q) Q) ⟨n, t, b⟩ := rfl
@[go_sem] theorem wpA_block {id : Nat} {c : Code} {Q : Exit -> St -> Prop} : wpA P (.block id c) Q ⟨n, t, b⟩ = wpA P c (blockA id Q) ⟨n, t, b⟩ := rfl
@[go_sem] theorem wpA_loop {c : Code} {Q : Exit -> St -> Prop} : wpA P (.loop c) Q ⟨n, t, b⟩ = LoopK (wpA P c) Q ⟨n, t, b⟩ := rfl
@[go_sem] theorem wpA_scope {c : Code} {Q : Exit -> St -> Prop} : wpA P (.scope c) Q ⟨n, t, b⟩ = ScopeK P c Q ⟨n, t, b⟩ := rfl
@[go_sem] theorem wpA_rangeFunc {g : Operand} {ps : Array Tmp} {x y : Code} {Q : Exit -> St -> Prop} : wpA P (.rangeFunc g ps x y) Q ⟨n, t, b⟩ = RangeK P g ps x y Q ⟨n, t, b⟩ := rfl
@[go_sem] theorem wpA_goto {l : Nat} {Q : Exit -> St -> Prop} : wpA P (.goto l) Q ⟨n, t, b⟩ = Q (.goto l) ⟨n, t, b⟩ := rfl
@[go_sem] theorem wpA_exit {id : Nat} {Q : Exit -> St -> Prop} : wpA P (.exit id) Q ⟨n, t, b⟩ = Q (.exit id) ⟨n, t, b⟩ := rfl
@[go_sem] theorem wpA_ret {Q : Exit -> St -> Prop} : wpA P .ret Q ⟨n, t, b⟩ = Q .ret ⟨n, t, b⟩ := rfl
def condK (x : AV) (p q : Prop) : Prop := match x with
 | .sc (.bool b) => (b = true -> p) /\ (b = false -> q)
 | .ub => p /\ q
 | _ => False
@[congr] theorem condK_congr {x x' : AV} {p q : Prop} (h : mkd x = x') : condK x p q = condK x' p q := by subst_vars; rfl
@[go_sem] theorem condK_sc {c : Bool} {p q : Prop} : condK (.sc (.bool c)) p q = both c p q := rfl
@[go_sem] theorem condK_ub {p q : Prop} : condK .ub p q = (p /\ q) := rfl
@[go_sem] theorem wpA_cond {c : Operand} {x y : Code} {Q : Exit -> St -> Prop} : wpA P (.cond c x y) Q ⟨n, t, b⟩ = condK (St.ev ⟨n, t, b⟩ c) (wpA P x Q ⟨n, t, b⟩) (wpA P y Q ⟨n, t, b⟩) := rfl
@[go_sem] theorem thenA_normal {next : St -> Prop} {Q : Exit -> St -> Prop} {σ : St} : thenA next Q .normal σ = next σ := rfl
@[go_sem] theorem thenA_exit {next : St -> Prop} {Q : Exit -> St -> Prop} {σ : St} {id : Nat} : thenA next Q (.exit id) σ = Q (.exit id) σ := rfl
@[go_sem] theorem thenA_ret {next : St -> Prop} {Q : Exit -> St -> Prop} {σ : St} : thenA next Q .ret σ = Q .ret σ := rfl
@[go_sem] theorem thenA_goto {next : St -> Prop} {Q : Exit -> St -> Prop} {σ : St} {l : Nat} : thenA next Q (.goto l) σ = Q (.goto l) σ := rfl
@[go_sem] theorem blockA_goto {id l : Nat} {Q : Exit -> St -> Prop} {σ : St} : blockA id Q (.goto l) σ = Q (.goto l) σ := rfl
@[go_sem] theorem jumpA_normal {l : Nat} {J : St -> Prop} {Q : Exit -> St -> Prop} {σ : St} : jumpA l J Q .normal σ = Q .normal σ := rfl
@[go_sem] theorem jumpA_exit {l id : Nat} {J : St -> Prop} {Q : Exit -> St -> Prop} {σ : St} : jumpA l J Q (.exit id) σ = Q (.exit id) σ := rfl
@[go_sem] theorem jumpA_ret {l : Nat} {J : St -> Prop} {Q : Exit -> St -> Prop} {σ : St} : jumpA l J Q .ret σ = Q .ret σ := rfl
@[go_sem] theorem jumpA_goto {l l' : Nat} {J : St -> Prop} {Q : Exit -> St -> Prop} {σ : St} : jumpA l J Q (.goto l') σ = andK (l' = l) (J σ) := rfl
@[go_sem] theorem upA_normal {J : St -> Prop} {Q : Exit -> St -> Prop} {σ : St} : upA J Q .normal σ = J σ := rfl
@[go_sem] theorem upA_ret {J : St -> Prop} {Q : Exit -> St -> Prop} {σ : St} : upA J Q .ret σ = Q .ret σ := rfl
@[go_sem] theorem upA_exit {id : Nat} {J : St -> Prop} {Q : Exit -> St -> Prop} {σ : St} : upA J Q (.exit id) σ = Q (.exit id) σ := rfl
@[go_sem] theorem blockA_normal {id : Nat} {Q : Exit -> St -> Prop} {σ : St} : blockA id Q .normal σ = Q .normal σ := rfl
@[go_sem] theorem blockA_ret {id : Nat} {Q : Exit -> St -> Prop} {σ : St} : blockA id Q .ret σ = Q .ret σ := rfl
@[go_sem] theorem blockA_exit {id id' : Nat} {Q : Exit -> St -> Prop} {σ : St} : blockA id Q (.exit id') σ = onB (decide (id' = id)) (Q .normal σ) (Q (.exit id') σ) := by simp [blockA, onB]
@[go_sem] theorem endQ_normal {rs : List ResultVar} {m : Nat} {post : AV -> List (List AV) -> Prop} {σ : St} : endQ P rs m post .normal σ = endK P rs m post σ := rfl
@[go_sem] theorem endQ_ret {rs : List ResultVar} {m : Nat} {post : AV -> List (List AV) -> Prop} {σ : St} : endQ P rs m post .ret σ = endK P rs m post σ := rfl
@[go_sem] theorem opsA_nil {ops : Array Oper} {K : St -> Prop} : opsA P ops [] ⟨n, t, b⟩ K = K ⟨n, t, b⟩ := rfl
@[go_sem] theorem opsA_cons {ops : Array Oper} {r : List Oper} {K : St -> Prop} {dst : Option Tmp} {op : Op} {T : TypeId} {pos : String} {af : Array Edge} :
  opsA P ops (⟨dst, op, T, pos, af, none⟩ :: r) ⟨n, t, b⟩ K = wpOp P ⟨dst, op, T, pos, af, none⟩ ⟨n, t, b⟩ fun σ' => opsA P ops r σ' K := rfl
@[go_sem] theorem opsA_guard {ops : Array Oper} {r : List Oper} {K : St -> Prop} {dst : Option Tmp} {op : Op} {T : TypeId} {pos : String} {af : Array Edge} {j : Nat} {want : Bool} :
  opsA P ops (⟨dst, op, T, pos, af, some (j, want)⟩ :: r) ⟨n, t, b⟩ K = caseO (guardSlot ops j) fun g => onGuard (lookT t g) (fun c =>
   both (c == want) (wpOp P ⟨dst, op, T, pos, af, some (j, want)⟩ (St.put ⟨n, t, b⟩ (some g) (.sc (.bool want))) fun σ' => opsA P ops r σ' K)
    (andK (dstOk n dst = true) (opsA P ops r (St.put (St.put ⟨n, t, b⟩ (some g) (.sc (.bool (!want)))) dst (.sc undef)) K)))
   (andK (dstOk n dst = true) (opsA P ops r (St.put ⟨n, t, b⟩ dst (.sc undef)) K)) := by
 apply propext
 simp only [opsA, caseO, onGuard, both, andK, St.get]
 cases hg : guardSlot ops j with
 | none => simp
 | some g =>
  simp only [Option.some.injEq]
  constructor
  ·intro h
   refine ⟨g, rfl, ?_⟩
   split at h
   ·rename_i c hc
    exact .inl ⟨c, hc, fun h1 => h.1 (by simpa using h1), fun h1 => h.2 (by cases c <;> cases want <;> first | rfl | cases h1)⟩
   ·rename_i vs hc
    exact .inr ⟨vs, hc, h⟩
   ·exact h.elim
  ·rintro ⟨_, rfl, ⟨c, hc, h1, h2⟩ | ⟨vs, hc, h⟩⟩
   ·rw [hc]
    exact ⟨fun h => h1 (by simpa using h), fun h => h2 (by rw [h]; cases want <;> rfl)⟩
   ·rw [hc]; exact h
variable {d : Nat} {T : TypeId} {pos : String} {af : Array Edge} {g : Option (Nat × Bool)} {K : St -> Prop}
@[go_sem] theorem wpOp_move {x : Operand} : wpOp P ⟨some d, .move x, T, pos, af, g⟩ ⟨n, t, b⟩ K = andK (d < n) (K (St.put ⟨n, t, b⟩ (some d) (typed P d T (St.ev ⟨n, t, b⟩ x)))) := propext ⟨fun h => ⟨h.1, h.2.2⟩, fun h => ⟨h.1, (fun h' => by simp [needsFresh] at h'), h.2⟩⟩
@[go_sem] theorem wpOp_assign {x : Operand} : wpOp P ⟨some d, .assign x, T, pos, af, g⟩ ⟨n, t, b⟩ K = andK (d < n) (K (St.put ⟨n, t, b⟩ (some d) (typed P d T (St.ev ⟨n, t, b⟩ x)))) := propext ⟨fun h => ⟨h.1, h.2.2⟩, fun h => ⟨h.1, (fun h' => by simp [needsFresh] at h'), h.2⟩⟩
@[go_sem] theorem wpOp_pick {c x y : Operand} : wpOp P ⟨some d, .pick c x y, T, pos, af, g⟩ ⟨n, t, b⟩ K = andK (d < n) (onBool (St.ev ⟨n, t, b⟩ c) fun v => both v (K (St.put ⟨n, t, b⟩ (some d) (St.ev ⟨n, t, b⟩ x))) (K (St.put ⟨n, t, b⟩ (some d) (St.ev ⟨n, t, b⟩ y)))) := by
 simp only [wpOp, wpAt, evOp, needsFresh, andK, onBool, both, Bool.false_eq_true, false_implies, true_and]
 cases St.ev ⟨n, t, b⟩ c <;> simp
 rename_i v; cases v <;> simp
 rename_i v; intro _; cases v <;> simp
@[go_sem] theorem wpOp_load {T' : TypeId} {x : Operand} : wpOp P ⟨some d, .load T' x, T, pos, af, g⟩ ⟨n, t, b⟩ K = andK (d < n) (evLoad P b T' (St.ev ⟨n, t, b⟩ x) fun r => K (St.put ⟨n, t, b⟩ (some d) r)) := by simp [wpOp, wpAt, evOp, needsFresh, andK]
@[go_sem] theorem wpOp_nilCheck {x : Operand} : wpOp P ⟨some d, .nilCheck x, T, pos, af, g⟩ ⟨n, t, b⟩ K = andK (d < n) (andK ((isPtr (St.ev ⟨n, t, b⟩ x) || isFn (St.ev ⟨n, t, b⟩ x)) = true) (K (St.put ⟨n, t, b⟩ (some d) (St.ev ⟨n, t, b⟩ x)))) := by simp [wpOp, wpAt, evOp, needsFresh, andK]
@[go_sem] theorem wpOp_binOp {op : BinOp} {T' T'' : TypeId} {x y : Operand} : wpOp P ⟨some d, .binOp op T' x y T'', T, pos, af, g⟩ ⟨n, t, b⟩ K = andK (d < n) (evBinOp P op T' (St.ev ⟨n, t, b⟩ x) (St.ev ⟨n, t, b⟩ y) fun r => K (St.put ⟨n, t, b⟩ (some d) r)) := by simp [wpOp, wpAt, evOp, needsFresh, andK]
@[go_sem] theorem wpOp_unOp {op : UnOp} {T' : TypeId} {x : Operand} : wpOp P ⟨some d, .unOp op T' x, T, pos, af, g⟩ ⟨n, t, b⟩ K = andK (d < n) (evUn op (St.ev ⟨n, t, b⟩ x) fun r => K (St.put ⟨n, t, b⟩ (some d) r)) := by simp [wpOp, wpAt, evOp, needsFresh, andK]
@[go_sem] theorem wpOp_convert {T' T'' : TypeId} {x : Operand} : wpOp P ⟨some d, .convert T' T'' x, T, pos, af, g⟩ ⟨n, t, b⟩ K = andK (d < n) (evConv P T' T'' (St.ev ⟨n, t, b⟩ x) fun r => K (St.put ⟨n, t, b⟩ (some d) r)) := by simp [wpOp, wpAt, evOp, needsFresh, andK]
@[go_sem] theorem wpOp_slice {T' : TypeId} {x : Operand} {lo hi mx : Option Operand} : wpOp P ⟨some d, .slice T' x lo hi mx, T, pos, af, g⟩ ⟨n, t, b⟩ K = andK (d < n) (evSlice P T' (St.ev ⟨n, t, b⟩ x) (lo.map (St.ev ⟨n, t, b⟩)) (hi.map (St.ev ⟨n, t, b⟩)) (mx.map (St.ev ⟨n, t, b⟩)) fun r => K (St.put ⟨n, t, b⟩ (some d) r)) := by simp [wpOp, wpAt, evOp, needsFresh, andK]
@[go_sem] theorem wpOp_fieldAddr {T' : TypeId} {x : Operand} {f : Nat} : wpOp P ⟨some d, .fieldAddr T' x f, T, pos, af, g⟩ ⟨n, t, b⟩ K = andK (d < n) (evFieldAddr P T' (St.ev ⟨n, t, b⟩ x) f fun r => K (St.put ⟨n, t, b⟩ (some d) r)) := by simp [wpOp, wpAt, evOp, needsFresh, andK]
@[go_sem] theorem wpOp_indexAddr {T' : TypeId} {x i : Operand} : wpOp P ⟨some d, .indexAddr T' x i, T, pos, af, g⟩ ⟨n, t, b⟩ K = andK (d < n) (evIndexAddr P T' (St.ev ⟨n, t, b⟩ x) (St.ev ⟨n, t, b⟩ i) fun r => K (St.put ⟨n, t, b⟩ (some d) r)) := by simp [wpOp, wpAt, evOp, needsFresh, andK]
@[go_sem] theorem wpOp_index {T' : TypeId} {x i : Operand} : wpOp P ⟨some d, .index T' x i, T, pos, af, g⟩ ⟨n, t, b⟩ K = andK (d < n) (evIndex P T' (St.ev ⟨n, t, b⟩ x) (St.ev ⟨n, t, b⟩ i) fun r => K (St.put ⟨n, t, b⟩ (some d) r)) := by simp [wpOp, wpAt, evOp, needsFresh, andK]
@[go_sem] theorem wpOp_extract {x : Operand} {i : Nat} : wpOp P ⟨some d, .extract x i, T, pos, af, g⟩ ⟨n, t, b⟩ K = andK (d < n) (evExtract (St.ev ⟨n, t, b⟩ x) i fun r => K (St.put ⟨n, t, b⟩ (some d) r)) := by simp [wpOp, wpAt, evOp, needsFresh, andK]
def evParts (σ : St) : List (Nat × Operand) -> List (Nat × AV)
 | [] => []
 | (i, x) :: r => (i, σ.ev x) :: evParts σ r
theorem evParts_eq (σ : St) : ∀ l, evParts σ l = l.map fun p => (p.1, σ.ev p.2)
 | [] => rfl
 | (i, x) :: r => by simp [evParts, evParts_eq σ r]
def evAll (σ : St) : List Operand -> List AV
 | [] => []
 | x :: r => σ.ev x :: evAll σ r
theorem evAll_eq (σ : St) : ∀ l, evAll σ l = l.map σ.ev
 | [] => rfl
 | x :: r => by simp [evAll, evAll_eq σ r]
@[go_sem] theorem wpOp_build {T' : TypeId} {ps : List (Nat × Operand)} : wpOp P ⟨some d, .build T' ps.toArray, T, pos, af, g⟩ ⟨n, t, b⟩ K = andK (d < n) (evBuild P T' (evParts ⟨n, t, b⟩ ps) fun r => K (St.put ⟨n, t, b⟩ (some d) r)) := by simp [wpOp, wpAt, evOp, needsFresh, andK, evParts_eq]
@[go_sem] theorem frz_nil {σ : St} : St.frz σ [] = σ := rfl
@[go_sem] theorem frz_cons {t : Nat} {ts : List Nat} {σ : St} : St.frz σ (t :: ts) = σ.map (freezeLeaf fun u => (t :: ts).contains u) := rfl
def buildK (P : Program) (d : Nat) (T : TypeId) (len : Nat) (ps : List (Nat × Operand)) (σ : St) (K : St -> Prop) : Prop :=
 σ.free d = true /\ evBuildSlice P d T len (evParts σ ps) fun r => K (σ.put (some d) r)
@[congr] theorem buildK_congr {d : Nat} {T : TypeId} {len : Nat} {ps : List (Nat × Operand)} {σ σ' : St} {K : St -> Prop} (h : mkd σ = σ') : buildK P d T len ps σ K = buildK P d T len ps σ' K := by subst_vars; rfl
@[go_sem] theorem buildK_mk {d : Nat} {T : TypeId} {len : Nat} {ps : List (Nat × Operand)} {K : St -> Prop} : buildK P d T len ps ⟨n, t, b⟩ K = andK (St.free ⟨n, t, b⟩ d = true) (evBuildSlice P d T len (evParts ⟨n, t, b⟩ ps) fun r => K (St.put ⟨n, t, b⟩ (some d) r)) := rfl
def evVals (σ : St) : List (Nat × Operand) -> List AV
 | [] => []
 | (_, x) :: r => σ.ev x :: evVals σ r
theorem evVals_eq (σ : St) : ∀ l, evVals σ l = l.map fun p => σ.ev p.2
 | [] => rfl
 | (i, x) :: r => by simp [evVals, evVals_eq σ r]
attribute [go_sem] evVals
@[congr] theorem keepSel_congr {l l' : List AV} {k1 : Nat -> Nat -> List AV -> Prop} {k2 : Prop} (h : mkd l = l') : keepSel l k1 k2 = keepSel l' k1 k2 := by subst_vars; rfl
@[go_sem] theorem keepSel_nil {k1 : Nat -> Nat -> List AV -> Prop} {k2 : Prop} : keepSel [] k1 k2 = k2 := rfl
@[go_sem] theorem keepSel_two {x y : AV} {l : List AV} {k1 : Nat -> Nat -> List AV -> Prop} {k2 : Prop} : keepSel (x :: y :: l) k1 k2 = k2 := by cases x <;> rfl
@[go_sem] theorem keepSel_sl {t0 es : Nat} {zs : List AV} {k1 : Nat -> Nat -> List AV -> Prop} {k2 : Prop} : keepSel [.sl t0 es zs] k1 k2 = onB (decide (1048576 <= t0) || decide (2 <= t0) && keepHints.contains t0) (k1 t0 es zs) k2 := by simp [keepSel, onB, keepTag]
attribute [go_sem] keepHints
@[go_sem] theorem keepSel_sc {v : Value} {k1 : Nat -> Nat -> List AV -> Prop} {k2 : Prop} : keepSel [.sc v] k1 k2 = k2 := rfl
@[go_sem] theorem keepSel_ub {k1 : Nat -> Nat -> List AV -> Prop} {k2 : Prop} : keepSel [.ub] k1 k2 = k2 := rfl
@[go_sem] theorem keepSel_nil1 {k1 : Nat -> Nat -> List AV -> Prop} {k2 : Prop} : keepSel [.nil] k1 k2 = k2 := rfl
@[go_sem] theorem keepSel_ag {cs : List AV} {k1 : Nat -> Nat -> List AV -> Prop} {k2 : Prop} : keepSel [.ag cs] k1 k2 = k2 := rfl
@[go_sem] theorem keepSel_fn {f : FuncId} {cs : List AV} {k1 : Nat -> Nat -> List AV -> Prop} {k2 : Prop} : keepSel [.fn f cs] k1 k2 = k2 := rfl
@[go_sem] theorem keepSel_so {t0 : Nat} {cs : List AV} {k1 : Nat -> Nat -> List AV -> Prop} {k2 : Prop} : keepSel [.so t0 cs] k1 k2 = k2 := rfl
@[go_sem] theorem keepSel_pb {i o : Nat} {k1 : Nat -> Nat -> List AV -> Prop} {k2 : Prop} : keepSel [.pb i o] k1 k2 = k2 := rfl
@[go_sem] theorem keepSel_any {k1 : Nat -> Nat -> List AV -> Prop} {k2 : Prop} : keepSel [.any] k1 k2 = k2 := rfl
@[go_sem] theorem wpOp_buildSlice {T' : TypeId} {len : Nat} {ps : List (Nat × Operand)} : wpOp P ⟨some d, .buildSlice T' len ps.toArray, T, pos, af, g⟩ ⟨n, t, b⟩ K = andK (d < n) (keepSel (evVals ⟨n, t, b⟩ ps) (keepK P d T' len ps ⟨n, t, b⟩ K) (buildK P d T' len ps (St.frz ⟨n, t, b⟩ (tagss (evVals ⟨n, t, b⟩ ps))) K)) := by rw [evVals_eq]; unfold buildK; rw [evParts_eq]; rfl
@[go_sem] theorem wpOp_makeSlice {T' : TypeId} {l c : Operand} : wpOp P ⟨some d, .makeSlice T' l c, T, pos, af, g⟩ ⟨n, t, b⟩ K = andK (d < n) (andK (St.free ⟨n, t, b⟩ d = true) (evMake P d T' (St.ev ⟨n, t, b⟩ l) (St.ev ⟨n, t, b⟩ c) fun r => K (St.put ⟨n, t, b⟩ (some d) r))) := by simp [wpOp, wpAt, evOp, needsFresh, andK]
def allFz : List AV -> Bool
 | [] => true
 | x :: r => fzLeaf x && allFz r
theorem allFz_eq : ∀ l, allFz l = l.all fzLeaf
 | [] => rfl
 | x :: r => by simp [allFz, allFz_eq r]
def allCap : List AV -> Bool
 | [] => true
 | x :: r => capOk x && allCap r
theorem allCap_eq : ∀ l, allCap l = l.all capOk
 | [] => rfl
 | x :: r => by simp [allCap, allCap_eq r]
attribute [go_sem] allCap capOk
@[go_sem] theorem wpOp_makeFunc {f : FuncId} {caps : List Operand} : wpOp P ⟨some d, .makeFunc (.func f) (List.toArray []) caps.toArray, T, pos, af, g⟩ ⟨n, t, b⟩ K = andK (d < n) (onB (allFz (evAll ⟨n, t, b⟩ caps)) (K (St.put ⟨n, t, b⟩ (some d) (.fn f (evAll ⟨n, t, b⟩ caps)))) (andK (allCap (evAll ⟨n, t, b⟩ caps) = true) (K (St.put ⟨n, t, b⟩ (some d) (.cl f (evAll ⟨n, t, b⟩ caps)))))) := by
 simp [wpOp, wpAt, evOp, needsFresh, andK, onB, allFz_eq, allCap_eq, evAll_eq, List.all_map, Function.comp_def]
@[go_sem] theorem wpOp_makeMap {T' : TypeId} : wpOp P ⟨some d, .makeMap T' none, T, pos, af, g⟩ ⟨n, t, b⟩ K = andK (d < n) (andK (St.free ⟨n, t, b⟩ d = true) (evMakeMap P d T' fun r => K (St.put ⟨n, t, b⟩ (some d) r))) := by simp [wpOp, wpAt, evOp, needsFresh, andK]
@[go_sem] theorem wpOp_lookup {T' : TypeId} {x y : Operand} : wpOp P ⟨some d, .lookup T' x y false, T, pos, af, g⟩ ⟨n, t, b⟩ K = andK (d < n) (evLookup P T' (St.ev ⟨n, t, b⟩ x) (St.ev ⟨n, t, b⟩ y) fun r => K (St.put ⟨n, t, b⟩ (some d) r)) := by simp [wpOp, wpAt, evOp, needsFresh, andK]
@[go_sem] theorem wpOp_mapUpdate {T' : TypeId} {m x y : Operand} : wpOp P ⟨none, .mapUpdate T' m x y, T, pos, af, g⟩ ⟨n, t, b⟩ K = evMapPut P T' ⟨n, t, b⟩ (St.ev ⟨n, t, b⟩ m) (St.ev ⟨n, t, b⟩ x) (St.ev ⟨n, t, b⟩ y) K := rfl
@[go_sem] theorem wpOp_clear {x : Operand} {T' : TypeId} : wpOp P ⟨none, .call ⟨.builtin .clear, [x].toArray, [T'].toArray⟩, T, pos, af, g⟩ ⟨n, t, b⟩ K = evClear P T' ⟨n, t, b⟩ (St.ev ⟨n, t, b⟩ x) K := rfl
@[congr] theorem evClear_congr {T : TypeId} {σ σ' : St} {x x' : AV} {K : St -> Prop} (h : mkd σ = σ') (h0 : x = x') : evClear P T σ x K = evClear P T σ' x' K := by subst_vars; rfl
@[go_sem] theorem wpOp_insert {T' : TypeId} {m x y : Operand} : wpOp P ⟨none, .insert T' m x y, T, pos, af, g⟩ ⟨n, t, b⟩ K = evMapPut P T' ⟨n, t, b⟩ (St.ev ⟨n, t, b⟩ m) (St.ev ⟨n, t, b⟩ x) (St.ev ⟨n, t, b⟩ y) K := rfl
def onMap (d : Option TypeDesc) (k : TypeId -> TypeId -> Prop) : Prop := ∃ a b, d = some (.map a b) /\ k a b
@[congr] theorem onMap_congr {d d' : Option TypeDesc} {k : TypeId -> TypeId -> Prop} (h : mkd d = d') : onMap d k = onMap d' k := by subst_vars; rfl
@[go_sem] theorem onMap_some (a b : TypeId) (k : TypeId -> TypeId -> Prop) : onMap (some (.map a b)) k = k a b := by
 unfold onMap
 apply propext
 constructor
 ·rintro ⟨a', b', h, hk⟩; cases h; exact hk
 ·intro h; exact ⟨a, b, rfl, h⟩
@[go_sem] theorem evMakeMap_eq {T' : TypeId} {K : AV -> Prop} : evMakeMap P d T' K = onMap (P.underlying T') fun k e => K (.mp (64 * (d + 1)) P k e (.map [])) := by
 unfold evMakeMap onMap
 apply propext
 constructor
 ·intro h
  split at h
  ·rename_i k e hT; exact ⟨k, e, hT, h⟩
  ·exact h.elim
 ·rintro ⟨k, e, hT, h⟩
  rw [hT]; exact h
@[go_sem] theorem evLenM_sl {T' : TypeId} {K : AV -> Prop} {t' es : Nat} {xs : List AV} : evLenM P T' (.sl t' es xs) K = evLen P T' (.sl t' es xs) K := rfl
@[go_sem] theorem evLenM_tl {T' : TypeId} {K : AV -> Prop} {t' es i : Nat} {xs : List AV} : evLenM P T' (.tl t' es xs i) K = evLen P T' (.tl t' es xs i) K := rfl
@[go_sem] theorem evLenM_so {T' : TypeId} {K : AV -> Prop} {t' : Nat} {xs : List AV} : evLenM P T' (.so t' xs) K = evLen P T' (.so t' xs) K := rfl
@[go_sem] theorem evLenM_nil {T' : TypeId} {K : AV -> Prop} : evLenM P T' .nil K = evLen P T' .nil K := rfl
@[go_sem] theorem evLenM_sc {T' : TypeId} {K : AV -> Prop} {v : Value} : evLenM P T' (.sc v) K = evLen P T' (.sc v) K := rfl
@[go_sem] theorem evLenM_ag {T' : TypeId} {K : AV -> Prop} {cs : List AV} : evLenM P T' (.ag cs) K = evLen P T' (.ag cs) K := rfl
@[go_sem] theorem evLenM_mp {T' : TypeId} {K : AV -> Prop} {t' : Nat} {P' : Program} {k e : TypeId} {D : DataW Unit} : evLenM P T' (.mp t' P' k e D) K = andK (isMap (P.underlying T') = true) (K (.sc (.int .i64 (mapLen D)))) := rfl
attribute [go_sem] isMap
theorem evLookup_str {T' : TypeId} {K : AV -> Prop} {t' : Nat} {k e : TypeId} {D : DataW Unit} {s : ByteArray} {q : Nat × Nat × Option Value} (hT : P.underlying T' = some (.map k e)) (hk : P.underlying k = some .string) (he : P.underlying e = some .bool)
  (hq : tinfo P e = some q) (hz : q.2.2 = some (.bool false)) (hs : s.size <= 9223372036854775807) (h : K (.sc (.bool (boolAt D (.string s.data.toList))))) : evLookup P T' (.mp t' P k e D) (.sc (.string s)) K := by
 unfold evLookup
 refine ⟨rfl, hT, by rw [hk]; rfl, _, Go.WideMaps.keyOf_string_mk hk (by unfold maxLen; omega), q, hq, ?_⟩
 rw [he]; exact ⟨hz, h⟩
theorem evMapPut_str {T' : TypeId} {σ : St} {K : St -> Prop} {t' : Nat} {k e : TypeId} {D : DataW Unit} {s : ByteArray} {x : Bool} (hT : P.underlying T' = some (.map k e)) (hk : P.underlying k = some .string) (he : P.underlying e = some .bool)
  (hs : s.size <= 9223372036854775807) (hl : mapLen D < 9223372036854775807) (h : K (σ.map (putMap t' P k e (D.put (.string s.data.toList) (.lit (.bool x)))))) : evMapPut P T' σ (.mp t' P k e D) (.sc (.string s)) (.sc (.bool x)) K := by
 unfold evMapPut
 exact ⟨rfl, hT, by rw [hk]; rfl, hl, _, _, Go.WideMaps.keyOf_string_mk hk (by unfold maxLen; omega), plainElem_bool he x, h⟩
@[go_sem] theorem wpOp_len {x : Operand} {T' : TypeId} : wpOp P ⟨some d, .call ⟨.builtin .len, [x].toArray, [T'].toArray⟩, T, pos, af, g⟩ ⟨n, t, b⟩ K = andK (d < n) (evLenM P T' (St.ev ⟨n, t, b⟩ x) fun r => K (St.put ⟨n, t, b⟩ (some d) r)) := by simp [wpOp, wpAt, evOp, needsFresh, andK]
@[go_sem] theorem wpOp_cap {x : Operand} {T' : TypeId} : wpOp P ⟨some d, .call ⟨.builtin .cap, [x].toArray, [T'].toArray⟩, T, pos, af, g⟩ ⟨n, t, b⟩ K = andK (d < n) (evCap P T' (St.ev ⟨n, t, b⟩ x) fun r => K (St.put ⟨n, t, b⟩ (some d) r)) := by simp [wpOp, wpAt, evOp, needsFresh, andK]
@[go_sem] theorem wpOp_max {x y : Operand} {As : Array TypeId} : wpOp P ⟨some d, .call ⟨.builtin .max, [x, y].toArray, As⟩, T, pos, af, g⟩ ⟨n, t, b⟩ K = andK (d < n) (evMax (St.ev ⟨n, t, b⟩ x) (St.ev ⟨n, t, b⟩ y) fun r => K (St.put ⟨n, t, b⟩ (some d) r)) := by simp [wpOp, wpAt, evOp, needsFresh, andK]
@[go_sem] theorem wpOp_min {x y : Operand} {As : Array TypeId} : wpOp P ⟨some d, .call ⟨.builtin .min, [x, y].toArray, As⟩, T, pos, af, g⟩ ⟨n, t, b⟩ K = andK (d < n) (evMin (St.ev ⟨n, t, b⟩ x) (St.ev ⟨n, t, b⟩ y) fun r => K (St.put ⟨n, t, b⟩ (some d) r)) := by simp [wpOp, wpAt, evOp, needsFresh, andK]
@[go_sem] theorem wpOp_copy {x y : Operand} {T' T'' : TypeId} : wpOp P ⟨some d, .call ⟨.builtin .copy, [x, y].toArray, [T', T''].toArray⟩, T, pos, af, g⟩ ⟨n, t, b⟩ K = andK (d < n) (evCopy P T' d ⟨n, t, b⟩ (St.ev ⟨n, t, b⟩ x) (St.ev ⟨n, t, b⟩ y) K) := by simp [wpOp, wpAt, andK]
@[go_sem] theorem wpOp_append {x y : Operand} {T' T'' : TypeId} : wpOp P ⟨some d, .call ⟨.builtin .append, [x, y].toArray, [T', T''].toArray⟩, T, pos, af, g⟩ ⟨n, t, b⟩ K = andK (d < n) (evAppend P T' T'' d ⟨n, t, b⟩ (St.ev ⟨n, t, b⟩ x) (St.ev ⟨n, t, b⟩ y) K) := by simp [wpOp, wpAt, andK]
@[go_sem] theorem wpOp_call {f : FuncId} {args : List Operand} {As : Array TypeId} : wpOp P ⟨some d, .call ⟨.value (.func f), args.toArray, As⟩, T, pos, af, g⟩ ⟨n, t, b⟩ K = andK (d < n) (CallU P f (evAll ⟨n, t, b⟩ args) d ⟨n, t, b⟩ K) := by simp [wpOp, wpAt, andK, St.ev, evAll_eq]
def CallF (P : Program) (f : AV) (args : List AV) (d : Nat) (σ : St) (K : St -> Prop) : Prop :=
 match f with
 | .fn fid caps => CallU P fid (args ++ caps) d σ K
 | .cl fid caps => CallU P fid (args ++ caps) d σ K
 | _ => False
@[congr] theorem CallF_congr {f f' : AV} {args args' : List AV} {d : Nat} {K : St -> Prop} {σ σ' : St} (h0 : mkd f = f') (h1 : args = args') (h : σ = σ') : CallF P f args d σ K = CallF P f' args' d σ' K := by subst_vars; rfl
@[go_sem] theorem CallF_fn {f : FuncId} {caps args : List AV} {d : Nat} {σ : St} {K : St -> Prop} : CallF P (.fn f caps) args d σ K = CallU P f (args ++ caps) d σ K := rfl
@[go_sem] theorem CallF_cl {f : FuncId} {caps args : List AV} {d : Nat} {σ : St} {K : St -> Prop} : CallF P (.cl f caps) args d σ K = CallU P f (args ++ caps) d σ K := rfl
@[go_sem] theorem wpOp_callF {f : Tmp} {args : List Operand} {As : Array TypeId} : wpOp P ⟨some d, .call ⟨.value (.tmp f), args.toArray, As⟩, T, pos, af, g⟩ ⟨n, t, b⟩ K = andK (d < n) (CallF P (lookT t f) (evAll ⟨n, t, b⟩ args) d ⟨n, t, b⟩ K) := by
 simp only [wpOp, wpAt, andK, St.ev, St.get, evAll_eq, CallF]; rfl
@[go_sem] theorem wpOp_box {T' : TypeId} {x : Operand} : wpOp P ⟨some d, .box T' x, T, pos, af, g⟩ ⟨n, t, b⟩ K = andK (d < n) (andK ((St.ev ⟨n, t, b⟩ x).one = true) (K (St.put ⟨n, t, b ++ [(St.ev ⟨n, t, b⟩ x).cells]⟩ (some d) (.pb b.length 0)))) := by simp [wpOp, wpAt, andK]
def evAlloc (P : Program) (T : TypeId) (K : List AV -> Prop) : Prop := caseO (tinfo P T) fun q => caseO q.2.2 fun z => andK ((z.cells.toList.all fun u => u.oneCell') = true) (K (ofConst z).cells)
@[go_sem] theorem wpOp_alloc {T' : TypeId} : wpOp P ⟨some d, .alloc T', T, pos, af, g⟩ ⟨n, t, b⟩ K = andK (d < n) (evAlloc P T' fun cs => K (St.put ⟨n, t, b ++ [cs]⟩ (some d) (.pb b.length 0))) := by
 apply propext
 simp only [wpOp, wpAt, andK, evAlloc, caseO]
 constructor
 ·rintro ⟨h1, q, z, h2, h3, h4, h5⟩; exact ⟨h1, q, h2, z, h3, h4, h5⟩
 ·rintro ⟨h1, q, h2, z, h3, h4, h5⟩; exact ⟨h1, q, z, h2, h3, h4, h5⟩
def storeK (P : Program) (T : TypeId) (x y : Operand) (σ : St) (K : St -> Prop) : Prop := evStore P T σ (σ.ev x) (σ.ev y) K
@[congr] theorem storeK_congr {T : TypeId} {x y : Operand} {σ σ' : St} {K : St -> Prop} (h : mkd σ = σ') : storeK P T x y σ K = storeK P T x y σ' K := by subst_vars; rfl
@[go_sem] theorem storeK_mk {T : TypeId} {x y : Operand} {K : St -> Prop} : storeK P T x y ⟨n, t, b⟩ K = evStore P T ⟨n, t, b⟩ (St.ev ⟨n, t, b⟩ x) (St.ev ⟨n, t, b⟩ y) K := rfl
@[go_sem] theorem stFrz_pe {t es i o : Nat} {xs : List AV} {x : AV} {σ : St} : stFrz σ (.pe t es xs i o) x = σ.frz x.tags := rfl
@[go_sem] theorem stFrz_pb {i o : Nat} {x : AV} {σ : St} : stFrz σ (.pb i o) x = σ := rfl
@[go_sem] theorem stFrz_po_sl {t i t' es : Nat} {xs ys : List AV} {σ : St} : stFrz σ (.po t xs i) (.sl t' es ys) = if 2 <= t' /\ root t' ≠ root t then σ.map (retagLeaf t' (subT t i)) else σ := rfl
@[go_sem] theorem stFrz_po_sc {t i : Nat} {xs : List AV} {v : Value} {σ : St} : stFrz σ (.po t xs i) (.sc v) = σ := rfl
@[go_sem] theorem stFrz_po_nil {t i : Nat} {xs : List AV} {σ : St} : stFrz σ (.po t xs i) .nil = σ := rfl
@[go_sem] theorem stFrz_po_ub {t i : Nat} {xs : List AV} {σ : St} : stFrz σ (.po t xs i) .ub = σ := rfl
@[go_sem] theorem wpOp_store {T' : TypeId} {x y : Operand} : wpOp P ⟨none, .store T' x y, T, pos, af, g⟩ ⟨n, t, b⟩ K = storeK P T' x y (stFrz ⟨n, t, b⟩ (St.ev ⟨n, t, b⟩ x) (St.ev ⟨n, t, b⟩ y)) K := by simp [wpOp, storeK]
end
theorem beqTF : (true == false) = false := rfl
theorem beqFT : (false == true) = false := rfl
theorem beqTT : (true == true) = true := rfl
theorem beqFF : (false == false) = true := rfl
attribute [go_sem] beqTF beqFT beqTT beqFF
theorem cast0 : ((0 : Nat) : Int) = 0 := rfl
theorem cast1 : ((1 : Nat) : Int) = 1 := rfl
attribute [go_sem] cast0 cast1 Int.cast_ofNat_Int
@[go_sem] theorem cast_lt_lit {a n : Nat} : ((a : Int) < (no_index (OfNat.ofNat n : Int))) = (a < (OfNat.ofNat n : Nat)) := propext Int.ofNat_lt
@[go_sem] theorem lit_lt_cast {a n : Nat} : ((no_index (OfNat.ofNat n : Int)) < (a : Int)) = ((OfNat.ofNat n : Nat) < a) := propext Int.ofNat_lt
@[go_sem] theorem cast_le_lit {a n : Nat} : ((a : Int) <= (no_index (OfNat.ofNat n : Int))) = (a <= (OfNat.ofNat n : Nat)) := propext Int.ofNat_le
@[go_sem] theorem lit_le_cast {a n : Nat} : ((no_index (OfNat.ofNat n : Int)) <= (a : Int)) = ((OfNat.ofNat n : Nat) <= a) := propext Int.ofNat_le
theorem cast_bne {a b : Nat} : ((a : Int) != (b : Int)) = decide (a ≠ b) := by
 by_cases h : a = b
 ·subst h; simp
 ·have : (a : Int) ≠ b := by omega
  rw [decide_eq_true h]; exact bne_iff_ne.2 this
theorem cast_beq {a b : Nat} : ((a : Int) == (b : Int)) = decide (a = b) := by
 by_cases h : a = b
 ·subst h; simp
 ·have : (a : Int) ≠ b := by omega
  rw [decide_eq_false h]; exact beq_eq_false_iff_ne.2 this
attribute [go_sem] cast_bne cast_beq
attribute [go_sem] Nat.reduceAdd Nat.reduceMul Nat.reduceEqDiff Nat.reduceLeDiff Nat.reduceLT Nat.reduceSub Nat.reduceDiv Nat.reduceBEq Int.reduceToNat Int.reduceLE Int.reduceLT Int.reduceAdd Int.reduceSub Int.reduceMul Int.reduceNeg if_true if_false Bool.false_eq_true decide_true decide_false Bool.and_true Bool.true_and Bool.and_false Bool.false_and Bool.or_true Bool.true_or Bool.or_false Bool.false_or Bool.not_true Bool.not_false and_true true_and not_true_eq_false not_false_eq_true ne_eq Option.isSome_some List.length_map List.length_cons List.length_nil List.getElem?_cons_zero List.getElem?_cons_succ List.map_cons List.map_nil Int.toNat_natCast Int.natCast_add List.append_nil Option.map_some Option.map_none List.size_toArray Int.natCast_nonneg Int.ofNat_lt Int.ofNat_le List.getElem?_map List.reverse_cons List.idxOf_cons beq_self_eq_true cond_true cond_false Nat.zero_le List.getElem?_toArray Option.bind_some Option.getD_some reduceCtorEq eq_self and_self false_and and_false List.all_cons List.all_nil bne_self_eq_false Int.reduceEq Int.reduceNe Int.reduceBNe Int.reduceBEq Nat.reduceBNe
section
variable {P : Program} {n : Nat} {t : List (Nat × AV)} {b : List (List AV)}
theorem root_small {t : Nat} (h : t < 1048576) : root t = t := Nat.mod_eq_of_lt h
theorem renT_small {ts : List Nat} {t : Nat} (h : t < 1048576) : renT ts t = 2 + ts.idxOf t := by unfold renT; rw [root_small h, Nat.div_eq_of_lt h]; rfl
attribute [go_sem] root_small root_sub renT_small
@[go_sem] theorem ev_tmp {s : Nat} : St.ev ⟨n, t, b⟩ (.tmp s) = lookT t s := rfl
@[go_sem] theorem ev_const {v : Value} : St.ev ⟨n, t, b⟩ (.const v) = ofLit v := rfl
@[go_sem] theorem ev_func {f : FuncId} : St.ev ⟨n, t, b⟩ (.func f) = .fn f [] := rfl
@[go_sem] theorem put_some {d : Nat} {x : AV} : St.put ⟨n, t, b⟩ (some d) x = ⟨n, putT t d x, b⟩ := rfl
@[go_sem] theorem put_none {x : AV} : St.put ⟨n, t, b⟩ none x = ⟨n, t, b⟩ := rfl
@[go_sem] theorem st_map {f : AV -> AV} : St.map ⟨n, t, b⟩ f = ⟨n, mapT f t, mapB f b⟩ := rfl
@[go_sem] theorem st_free {d : Nat} : St.free ⟨n, t, b⟩ d = (decide (d < 16383) && (freeT d t && freeB d b)) := rfl
attribute [go_sem] putMap lookT putT mapT mapB mapTops AV.mapTop freeT freeB AV.allLeaf allLeafs freeLeaf killLeaf freezeLeaf viewLeaf AV.view shiftLeaf shiftTag AV.shift dstOk evAll evParts allFz fzLeaf AV.fz AV.one AV.cells AV.leafy isPtr isFn ptrAdd idxOk partOk leafAll storeLeaf updAt updElem setSeg fillA zeroOk lt64 flatLeaf memless AV.tags tagss argT tupA AV.canon renLeaf pbLt noTag guardSlot leT leC leB leafConst renRow killRow killS lt64c shiftRow viewRow freezeRow retagRow retagLeaf putLeaf storeRow rowOk AV.rowLike flatRow Nat.reduceMod Nat.mul_zero Nat.add_zero
@[go_sem] theorem ofLit_int {k : IntKind} {i : Int} : ofLit (.int k i) = .sc (.int k i) := rfl
@[go_sem] theorem ofLit_bool {v : Bool} : ofLit (.bool v) = .sc (.bool v) := rfl
@[go_sem] theorem ofLit_string {s : ByteArray} : ofLit (.string s) = .sc (.string s) := rfl
@[go_sem] theorem ofLit_nil : ofLit (.slice none 0 0) = .nil := rfl
@[go_sem] theorem ofLit_pointer : ofLit (.pointer none) = .sc (.pointer none) := rfl
@[go_sem] theorem ofLit_nilFunc : ofLit .nilFunc = .sc .nilFunc := rfl
@[go_sem] theorem ofLit_agg {cs : Array Value} : ofLit (.agg cs) = if (cs.toList.all fun u => u.oneCell') = true then .ag (cs.toList.map leafConst) else .any := rfl
@[go_sem] theorem ofConst_agg {cs : Array Value} : ofConst (.agg cs) = .ag (cs.toList.map leafConst) := rfl
@[go_sem] theorem ofConst_int {k : IntKind} {i : Int} : ofConst (.int k i) = .sc (.int k i) := rfl
@[go_sem] theorem ofConst_bool {v : Bool} : ofConst (.bool v) = .sc (.bool v) := rfl
@[go_sem] theorem ofConst_string {s : ByteArray} : ofConst (.string s) = .sc (.string s) := rfl
@[go_sem] theorem ofConst_nil : ofConst (.slice none 0 0) = .nil := rfl
@[go_sem] theorem leafConst_int {k : IntKind} {i : Int} : leafConst (.int k i) = .sc (.int k i) := rfl
@[go_sem] theorem leafConst_bool {v : Bool} : leafConst (.bool v) = .sc (.bool v) := rfl
@[go_sem] theorem leafConst_string {s : ByteArray} : leafConst (.string s) = .sc (.string s) := rfl
@[go_sem] theorem leafConst_nil : leafConst (.slice none 0 0) = .nil := rfl
@[go_sem] theorem oneCell_int {k : IntKind} {i : Int} : Value.oneCell' (.int k i) = true := rfl
@[go_sem] theorem oneCell_bool {v : Bool} : Value.oneCell' (.bool v) = true := rfl
@[go_sem] theorem oneCell_string {s : ByteArray} : Value.oneCell' (.string s) = true := rfl
@[go_sem] theorem oneCell_slice {a : Option Addr} {l c : Nat} : Value.oneCell' (.slice a l c) = true := rfl
@[go_sem] theorem oneCell_pointer {a : Option Addr} : Value.oneCell' (.pointer a) = true := rfl
@[go_sem] theorem cells_int {k : IntKind} {i : Int} : Value.cells (.int k i) = #[.int k i] := rfl
@[go_sem] theorem cells_bool {v : Bool} : Value.cells (.bool v) = #[.bool v] := rfl
@[go_sem] theorem cells_string {s : ByteArray} : Value.cells (.string s) = #[.string s] := rfl
@[go_sem] theorem cells_slice {a : Option Addr} {l c : Nat} : Value.cells (.slice a l c) = #[.slice a l c] := rfl
@[go_sem] theorem cells_agg {cs : Array Value} : Value.cells (.agg cs) = cs := rfl
@[go_sem] theorem typed_sc {d : Nat} {T : TypeId} {v : Value} : typed P d T (.sc v) = .sc v := rfl
@[go_sem] theorem typed_sl {d : Nat} {T : TypeId} {t es : Nat} {xs : List AV} : typed P d T (.sl t es xs) = .sl t es xs := rfl
@[go_sem] theorem typed_mp {d : Nat} {T : TypeId} {P' : Program} {t : Nat} {k e : TypeId} {D : DataW Unit} : typed P d T (.mp t P' k e D) = .mp t P' k e D := rfl
@[go_sem] theorem typed_tl {d : Nat} {T : TypeId} {t es i : Nat} {xs : List AV} : typed P d T (.tl t es xs i) = .tl t es xs i := rfl
@[go_sem] theorem typed_so {d : Nat} {T : TypeId} {t : Nat} {xs : List AV} : typed P d T (.so t xs) = .so t xs := rfl
@[go_sem] theorem typed_po {d : Nat} {T : TypeId} {t i : Nat} {xs : List AV} : typed P d T (.po t xs i) = .po t xs i := rfl
@[go_sem] theorem typed_ag {d : Nat} {T : TypeId} {xs : List AV} : typed P d T (.ag xs) = .ag xs := rfl
@[go_sem] theorem typed_tup {d : Nat} {T : TypeId} {xs : List AV} : typed P d T (.tup xs) = .tup xs := rfl
@[go_sem] theorem typed_pb {d : Nat} {T : TypeId} {i o : Nat} : typed P d T (.pb i o) = .pb i o := rfl
@[go_sem] theorem typed_pe {d : Nat} {T : TypeId} {t es i o : Nat} {xs : List AV} : typed P d T (.pe t es xs i o) = .pe t es xs i o := rfl
@[go_sem] theorem typed_fn {d : Nat} {T : TypeId} {f : FuncId} {xs : List AV} : typed P d T (.fn f xs) = .fn f xs := rfl
@[go_sem] theorem typed_fp {d : Nat} {T : TypeId} {xs : List AV} {o : Nat} : typed P d T (.fp xs o) = .fp xs o := rfl
@[go_sem] theorem typed_ub {d : Nat} {T : TypeId} : typed P d T .ub = .ub := rfl
@[go_sem] theorem typed_any {d : Nat} {T : TypeId} : typed P d T .any = .any := rfl
@[go_sem] theorem typed_nil {d : Nat} {T : TypeId} : typed P d T .nil = .nil := rfl
@[go_sem] theorem le_mk {n' : Nat} {t' : List (Nat × AV)} {b' : List (List AV)} : St.le ⟨n, t, b⟩ ⟨n', t', b'⟩ = (n' = n /\ leT t t' /\ leB b b') := rfl
@[go_sem] theorem leV_self {x : AV} : leV x x = True := eq_true (leV_refl x)
@[go_sem] theorem leV_toAny {x : AV} : leV x .any = True := eq_true (leV_any x)
@[go_sem] theorem leV_toNil {t es : Nat} : leV .nil (.sl t es []) = True := eq_true (leV_nil t es)
theorem leV_int {k : IntKind} {x y : Int} (h : x = y) : leV (.sc (.int k x)) (.sc (.int k y)) := h ▸ leV_refl _
@[go_sem] theorem evBinOp_sc {op : BinOp} {T : TypeId} {u v : Value} {K : AV -> Prop} : evBinOp P op T (.sc u) (.sc v) K = evBin P op T u v fun r => K (.sc r) := rfl
def nilK (xs : List AV) (v : Bool) (K : AV -> Prop) : Prop := (xs = [] -> K .ub) /\ (xs ≠ [] -> K (.sc (.bool v)))
@[congr] theorem nilK_congr {xs xs' : List AV} {v : Bool} {K : AV -> Prop} (h : mkd xs = xs') : nilK xs v K = nilK xs' v K := by subst_vars; rfl
@[go_sem] theorem nilK_cons {x : AV} {xs : List AV} {v : Bool} {K : AV -> Prop} : nilK (x :: xs) v K = K (.sc (.bool v)) := by simp [nilK]
@[go_sem] theorem evBinOp_eql_nil {T : TypeId} {t es : Nat} {xs : List AV} {K : AV -> Prop} : evBinOp P .eql T (.sl t es xs) .nil K = onSlice (P.underlying T) fun _ => nilK xs false K := by simp [evBinOp, onSlice, nilK]
def onPtr (d : Option TypeDesc) (k : TypeId -> Prop) : Prop := ∃ E, d = some (.pointer E) /\ k E
@[congr] theorem onPtr_congr {d d' : Option TypeDesc} {k : TypeId -> Prop} (h : mkd d = d') : onPtr d k = onPtr d' k := by subst_vars; rfl
@[go_sem] theorem onPtr_some (E : TypeId) (k : TypeId -> Prop) : onPtr (some (.pointer E)) k = k E := by simp [onPtr]
@[go_sem] theorem evBinOp_neq_ptr {T : TypeId} {i o : Nat} {K : AV -> Prop} : evBinOp P .neq T (.pb i o) (.sc (.pointer none)) K = onPtr (P.underlying T) fun _ => K (.sc (.bool true)) := by simp [evBinOp, onPtr]
def cellI (x y : Option AV) (K : Bool -> Prop) : Prop := match x, y with
 | some (.sc (.int k a)), some (.sc (.int k' b)) => k = k' /\ K (a == b)
 | _, _ => False
def cellB (x y : Option AV) (K : Bool -> Prop) : Prop := match x, y with
 | some (.sc (.bool a)), some (.sc (.bool b)) => K (a == b)
 | _, _ => False
@[go_sem] theorem cellI_some {k k' : IntKind} {a b : Int} {K : Bool -> Prop} : cellI (some (.sc (.int k a))) (some (.sc (.int k' b))) K = andK (k = k') (K (a == b)) := rfl
@[go_sem] theorem cellB_some {a b : Bool} {K : Bool -> Prop} : cellB (some (.sc (.bool a))) (some (.sc (.bool b))) K = K (a == b) := rfl
@[go_sem] theorem eqCK_nil {xs ys : List AV} {K : Bool -> Prop} : eqCK xs ys [] K = K true := rfl
@[go_sem] theorem eqCK_int {xs ys : List AV} {o : Nat} {r : List (Nat × Bool)} {K : Bool -> Prop} : eqCK xs ys ((o, true) :: r) K = cellI xs[o]? ys[o]? fun c => eqCK xs ys r fun c' => K (c && c') := by
 rw [eqCK]
 generalize xs[o]? = x
 generalize ys[o]? = y
 unfold cellI
 split
 ·rfl
 ·rename_i h
  split
  ·exact (h _ _ _ _ rfl rfl).elim
  ·rfl
@[go_sem] theorem evBinOp_neq_ag {T : TypeId} {xs ys : List AV} {K : AV -> Prop} : evBinOp P .neq T (.ag xs) (.ag ys) K = caseO (flatF P T) fun l => eqCK xs ys l fun c => K (.sc (.bool (!c))) := by simp [evBinOp, caseO]
section
variable {T : TypeId} {k k' : IntKind} {x y : Int} {K : Value -> Prop}
@[go_sem] theorem evBin_add : evBin P .add T (.int k x) (.int k' y) K = andK (k = k') (K (.int k (k.wrap (x + y)))) := rfl
@[go_sem] theorem evBin_sub : evBin P .sub T (.int k x) (.int k' y) K = andK (k = k') (K (.int k (k.wrap (x - y)))) := rfl
@[go_sem] theorem evBin_mul : evBin P .mul T (.int k x) (.int k' y) K = andK (k = k') (K (.int k (k.wrap (x * y)))) := rfl
@[go_sem] theorem evBin_quo : evBin P .quo T (.int k x) (.int k' y) K = andK (k = k') (y ≠ 0 /\ K (.int k (k.wrap (x.tdiv y)))) := rfl
@[go_sem] theorem evBin_rem : evBin P .rem T (.int k x) (.int k' y) K = andK (k = k') (y ≠ 0 /\ K (.int k (x.tmod y))) := rfl
@[go_sem] theorem evBin_and : evBin P .and T (.int k x) (.int k' y) K = andK (k = k') (K (.int k (k.wrap (BitVec.ofInt k.bits x &&& BitVec.ofInt k.bits y).toNat))) := rfl
@[go_sem] theorem evBin_or : evBin P .or T (.int k x) (.int k' y) K = andK (k = k') (K (.int k (k.wrap (BitVec.ofInt k.bits x ||| BitVec.ofInt k.bits y).toNat))) := rfl
@[go_sem] theorem evBin_xor : evBin P .xor T (.int k x) (.int k' y) K = andK (k = k') (K (.int k (k.wrap (BitVec.ofInt k.bits x ^^^ BitVec.ofInt k.bits y).toNat))) := rfl
@[go_sem] theorem evBin_shl : evBin P .shl T (.int k x) (.int k' y) K = andK (0 <= y) (K (.int k (k.wrap (x * 2 ^ (min y.toNat k.bits))))) := rfl
@[go_sem] theorem evBin_shr : evBin P .shr T (.int k x) (.int k' y) K = andK (0 <= y) (K (.int k (x.fdiv (2 ^ (min y.toNat k.bits))))) := rfl
@[go_sem] theorem evBin_eql : evBin P .eql T (.int k x) (.int k' y) K = andK (k = k') (K (.bool (x == y))) := rfl
@[go_sem] theorem evBin_neq : evBin P .neq T (.int k x) (.int k' y) K = andK (k = k') (K (.bool (x != y))) := rfl
@[go_sem] theorem evBin_lss : evBin P .lss T (.int k x) (.int k' y) K = andK (k = k') (K (.bool (decide (x < y)))) := rfl
@[go_sem] theorem evBin_leq : evBin P .leq T (.int k x) (.int k' y) K = andK (k = k') (K (.bool (decide (x <= y)))) := rfl
@[go_sem] theorem evBin_gtr : evBin P .gtr T (.int k x) (.int k' y) K = andK (k = k') (K (.bool (decide (y < x)))) := rfl
@[go_sem] theorem evBin_geq : evBin P .geq T (.int k x) (.int k' y) K = andK (k = k') (K (.bool (decide (y <= x)))) := rfl
@[go_sem] theorem evBin_beql {u v : Bool} : evBin P .eql T (.bool u) (.bool v) K = andK (P.underlying T = some .bool) (K (.bool (u == v))) := rfl
@[go_sem] theorem evBin_bneq {u v : Bool} : evBin P .neq T (.bool u) (.bool v) K = andK (P.underlying T = some .bool) (K (.bool (!(u == v)))) := rfl
@[go_sem] theorem evBin_sadd {u v : ByteArray} : evBin P .add T (.string u) (.string v) K = (u.size + v.size <= 9223372036854775807 /\ K (.string (u ++ v))) := rfl
@[go_sem] theorem evBin_seql {u v : ByteArray} : evBin P .eql T (.string u) (.string v) K = K (.bool (u.toList == v.toList)) := rfl
@[go_sem] theorem evBin_sneq {u v : ByteArray} : evBin P .neq T (.string u) (.string v) K = K (.bool (!(u.toList == v.toList))) := rfl
@[go_sem] theorem evBin_slss {u v : ByteArray} : evBin P .lss T (.string u) (.string v) K = K (.bool (Op.bytesLess u.toList v.toList)) := rfl
@[go_sem] theorem evBin_sleq {u v : ByteArray} : evBin P .leq T (.string u) (.string v) K = K (.bool (Op.bytesLess u.toList v.toList || u.toList == v.toList)) := rfl
@[go_sem] theorem evBin_sgtr {u v : ByteArray} : evBin P .gtr T (.string u) (.string v) K = K (.bool (!(Op.bytesLess u.toList v.toList || u.toList == v.toList))) := rfl
@[go_sem] theorem evBin_sgeq {u v : ByteArray} : evBin P .geq T (.string u) (.string v) K = K (.bool (!(Op.bytesLess u.toList v.toList))) := rfl
end
section
variable {T : TypeId} {K : AV -> Prop}
@[go_sem] theorem evPart_eq {cs : List AV} {o : Nat} : evPart P T cs o K = caseO (aggT P T) fun a => onB a (caseO (tinfo P T) fun q => andK (o + q.1 <= cs.length) (K (.ag ((cs.drop o).take q.1)))) (caseO cs[o]? K) := by
 unfold evPart caseO onB andK
 cases aggT P T with
 | none => simp
 | some a => cases a with
  | false => simp
  | true => cases tinfo P T <;> simp
@[go_sem] theorem evLoad_pe {bx : List (List AV)} {t es i o : Nat} {xs : List AV} : evLoad P bx T (.pe t es xs i o) K = caseO xs[i]? fun x => evPart P T x.cells o K := by
 cases h : xs[i]? <;> simp [evLoad, cellsAt, h, caseO, evPart]
@[go_sem] theorem evLoad_pb {bx : List (List AV)} {i o : Nat} : evLoad P bx T (.pb i o) K = caseO bx[i]? fun cs => evPart P T cs o K := by
 cases h : bx[i]? <;> simp [evLoad, cellsAt, h, caseO, evPart]
@[go_sem] theorem evLoad_fp {bx : List (List AV)} {cs : List AV} {o : Nat} : evLoad P bx T (.fp cs o) K = evPart P T cs o K := rfl
@[go_sem] theorem evIndexAddr_sl {t es : Nat} {xs : List AV} {k : IntKind} {i : Int} : evIndexAddr P T (.sl t es xs) (.sc (.int k i)) K =
  onSlice (P.underlying T) fun E => caseO (tinfo P E) fun q => andK (q.1 = es) (0 <= i /\ i < xs.length /\ K (.pe t es xs i.toNat 0)) := by
 unfold evIndexAddr onSlice caseO andK
 apply propext
 constructor
 ·intro h
  generalize hu : P.underlying T = u at h
  match u, hu, h with
  | none, _, h => exact h.elim
  | some d, hu, h =>
   cases d with
   | slice E => obtain ⟨⟨q, hq, h1⟩, h2⟩ := h; exact ⟨E, rfl, q, hq, h1, h2⟩
   | array len E => exact absurd h.1 (by simp [isPtr])
   | _ => exact h.elim
 ·rintro ⟨E, hT, q, hq, h1, h2⟩
  simp only [hT]
  exact ⟨⟨q, hq, h1⟩, h2⟩
theorem evIndexAddr_arr {x : AV} {k : IntKind} {i : Int} (hx : isPtr x = true) : evIndexAddr P T x (.sc (.int k i)) K =
  onArray (P.underlying T) fun len E => caseO (tinfo P E) fun q => (0 <= i /\ i < len /\ K (ptrAdd x (i.toNat * q.1))) := by
 cases x <;> simp only [isPtr, Bool.false_eq_true] at hx
 all_goals
  unfold evIndexAddr onArray caseO
  apply propext
  constructor
  ·intro h
   generalize hu : P.underlying T = u at h
   match u, hu, h with
   | none, _, h => exact h.elim
   | some d, hu, h =>
    cases d with
    | array len E => obtain ⟨_, h1, h2, q, hq, h3⟩ := h; exact ⟨len, E, rfl, q, hq, h1, h2, h3⟩
    | _ => exact h.elim
  ·rintro ⟨len, E, hT, q, hq, h1, h2, h3⟩
   simp only [hT]
   exact ⟨rfl, h1, h2, q, hq, h3⟩
@[go_sem] theorem evIndexAddr_pb {j o : Nat} {k : IntKind} {i : Int} : evIndexAddr P T (.pb j o) (.sc (.int k i)) K = onArray (P.underlying T) fun len E => caseO (tinfo P E) fun q => (0 <= i /\ i < len /\ K (ptrAdd (.pb j o) (i.toNat * q.1))) := evIndexAddr_arr rfl
@[go_sem] theorem evIndexAddr_pe {t es j o : Nat} {xs : List AV} {k : IntKind} {i : Int} : evIndexAddr P T (.pe t es xs j o) (.sc (.int k i)) K = onArray (P.underlying T) fun len E => caseO (tinfo P E) fun q => (0 <= i /\ i < len /\ K (ptrAdd (.pe t es xs j o) (i.toNat * q.1))) := evIndexAddr_arr rfl
@[go_sem] theorem evFieldAddr_eq {x : AV} {f : Nat} : evFieldAddr P T x f K = andK (isPtr x = true) (caseO (fieldOf P T f) fun p => caseO (tinfo P p.2) fun q => andK (q.1 ≠ 0) (K (ptrAdd x p.1))) := by
 unfold evFieldAddr andK caseO
 apply propext
 constructor
 ·rintro ⟨h1, p, h2, ⟨q, h3, h4⟩, h5⟩; exact ⟨h1, p, h2, q, h3, h4, h5⟩
 ·rintro ⟨h1, p, h2, q, h3, h4, h5⟩; exact ⟨h1, p, h2, ⟨q, h3, h4⟩, h5⟩
@[go_sem] theorem evField_ag {cs : List AV} {f : Nat} : evField P T (.ag cs) f K = caseO (fieldOf P T f) fun p => evPart P p.2 cs p.1 K := rfl
def isString (d : Option TypeDesc) : Bool := match d with | some .string => true | _ => false
@[go_sem] theorem isString_some : isString (some .string) = true := rfl
@[go_sem] theorem evIndex_str {s : ByteArray} {k : IntKind} {i : Int} : evIndex P T (.sc (.string s)) (.sc (.int k i)) K = andK (isString (P.underlying T) = true) (0 <= i /\ caseO s[i.toNat]? fun c => K (.sc (.int .u8 c.toNat))) := by
 unfold evIndex andK caseO isString
 apply propext
 constructor
 ·intro h
  simp only at h
  split at h
  ·rename_i hx; cases hx
  ·rename_i s' hT hx; cases hx; exact ⟨by rw [hT], h⟩
  ·exact h.elim
 ·rintro ⟨hT, h⟩
  split at hT
  ·rename_i hT'; simp only [hT']; exact h
  ·cases hT
@[go_sem] theorem evExtract_tup {xs : List AV} {i : Nat} : evExtract (.tup xs) i K = caseO xs[i]? K := rfl
@[go_sem] theorem evUn_not {v : Bool} : evUn .not (.sc (.bool v)) K = K (.sc (.bool (!v))) := rfl
@[go_sem] theorem evUn_not_ub : evUn .not .ub K = K .ub := rfl
@[go_sem] theorem evUn_neg {k : IntKind} {i : Int} : evUn .neg (.sc (.int k i)) K = K (.sc (.int k (k.wrap (0 - i)))) := rfl
def onInt (d : Option TypeDesc) (k : IntKind -> Prop) : Prop := ∃ i, d = some (.int i) /\ k i
@[congr] theorem onInt_congr {d d' : Option TypeDesc} {k : IntKind -> Prop} (h : mkd d = d') : onInt d k = onInt d' k := by subst_vars; rfl
@[go_sem] theorem onInt_some (i : IntKind) (k : IntKind -> Prop) : onInt (some (.int i)) k = k i := by simp [onInt]
@[go_sem] theorem evConv_int {s s' : TypeId} {k : IntKind} {i : Int} : evConv P s s' (.sc (.int k i)) K = onInt (P.underlying s) fun _ => onInt (P.underlying s') fun k' => K (.sc (.int k' (k'.wrap i))) := by
 unfold evConv onInt
 apply propext
 constructor
 ·intro h
  split at h
  ·rename_i h1 h2 hx; cases hx; exact ⟨_, h1, _, h2, h⟩
  ·rename_i hx; cases hx
  ·rename_i hx; cases hx
  ·exact h.elim
 ·rintro ⟨_, h1, _, h2, h⟩
  simp only [h1, h2]; exact h
@[go_sem] theorem evLen_sl {t es : Nat} {xs : List AV} : evLen P T (.sl t es xs) K = onSlice (P.underlying T) fun _ => K (.sc (.int .i64 xs.length)) := by
 unfold evLen onSlice
 cases hU : P.underlying T with
 | none => simp
 | some D => cases D <;> simp
@[go_sem] theorem evLen_nil : evLen P T .nil K = onSlice (P.underlying T) fun _ => K (.sc (.int .i64 0)) := by
 unfold evLen onSlice
 cases hU : P.underlying T with
 | none => simp
 | some D => cases D <;> simp
@[go_sem] theorem evLen_str {s : ByteArray} : evLen P T (.sc (.string s)) K = andK (isString (P.underlying T) = true) (K (.sc (.int .i64 s.size))) := by
 unfold evLen andK isString
 cases hU : P.underlying T with
 | none => simp
 | some D => cases D <;> simp
@[go_sem] theorem evMax_int {k k' : IntKind} {x y : Int} : evMax (.sc (.int k x)) (.sc (.int k' y)) K = K (.sc (.int k (max x y))) := rfl
@[go_sem] theorem evMin_int {k k' : IntKind} {x y : Int} : evMin (.sc (.int k x)) (.sc (.int k' y)) K = K (.sc (.int k (min x y))) := rfl
@[go_sem] theorem evBound_none {n : Nat} {K : Nat -> Prop} : evBound none n K = K n := rfl
@[go_sem] theorem evBound_int {n : Nat} {k : IntKind} {i : Int} {K : Nat -> Prop} : evBound (some (.sc (.int k i))) n K = (0 <= i /\ K i.toNat) := rfl
@[go_sem] theorem evSlice_sl {t es : Nat} {xs : List AV} {lo hi : Option AV} : evSlice P T (.sl t es xs) lo hi none K = onSlice (P.underlying T) fun E => caseO (tinfo P E) fun q => andK (q.1 = es) (onB (decide (t < 2))
  (evBound hi xs.length fun h => evBound lo 0 fun l => (l <= h /\ h <= xs.length /\ K (.sl 0 es ((xs.take h).drop l))))
  (onB (hi.isNone && lo.isSome) (evBound lo 0 fun l => (l < xs.length /\ K (.tl t es xs l)))
  (evBound hi xs.length fun h => evBound lo 0 fun l => (l = 0 /\ h <= xs.length /\ K (.sl t es (xs.take h)))))) := by
 unfold evSlice onSlice caseO andK onB
 apply propext
 constructor
 ·intro h
  split at h
  ·rename_i E t' es' xs' hT hx; cases hx
   obtain ⟨⟨q, hq, h1⟩, h2⟩ := h; exact ⟨E, hT, q, hq, h1, by by_cases ht : t < 2 <;> by_cases hb : (hi.isNone && lo.isSome) = true <;> simp [ht, hb] at h2 ⊢ <;> exact h2⟩
  ·rename_i hx; cases hx
  ·rename_i hx; cases hx
  ·rename_i hx; cases hx
  ·exact h.elim
 ·rintro ⟨E, hT, q, hq, h1, h2⟩
  simp only [hT]; exact ⟨⟨q, hq, h1⟩, by by_cases ht : t < 2 <;> by_cases hb : (hi.isNone && lo.isSome) = true <;> simp [ht, hb] at h2 ⊢ <;> exact h2⟩
@[go_sem] theorem isSomeA_some {x : AV} : (some x).isSome = true := rfl
@[go_sem] theorem isSomeA_none : (none : Option AV).isSome = false := rfl
@[go_sem] theorem isNoneA_some {x : AV} : (some x).isNone = false := rfl
@[go_sem] theorem isNoneA_none : (none : Option AV).isNone = true := rfl
@[go_sem] theorem evSlice_nil {lo hi : Option AV} : evSlice P T .nil lo hi none K = onSlice (P.underlying T) fun E => andK ((tinfo P E).isSome = true) (evBound hi 0 fun h => evBound lo 0 fun l => (l = 0 /\ h = 0 /\ K .nil)) := by
 unfold evSlice onSlice andK
 apply propext
 constructor
 ·intro h
  split at h
  ·rename_i hx; cases hx
  ·rename_i hx; cases hx
  ·rename_i E hT _; obtain ⟨_, ⟨q, hq⟩, h⟩ := h; exact ⟨E, hT, by simp [hq], h⟩
  ·rename_i hx; cases hx
  ·exact h.elim
 ·rintro ⟨E, hT, hq, h⟩
  simp only [hT]
  obtain ⟨q, hq⟩ := Option.isSome_iff_exists.1 hq
  exact ⟨by simp, ⟨q, hq⟩, h⟩
@[go_sem] theorem evCap_nil : evCap P T .nil K = onSlice (P.underlying T) fun _ => K (.sc (.int .i64 0)) := by
 unfold evCap onSlice
 apply propext
 constructor
 ·intro h
  split at h
  ·rename_i hx; cases hx
  ·rename_i hT _; exact ⟨_, hT, h⟩
  ·exact h.elim
 ·rintro ⟨_, h1, h⟩
  simp only [h1]; exact h
def allPart (es : Nat) : List (Nat × AV) -> Bool
 | [] => true
 | p :: r => partOk es p.2 && allPart es r
theorem allPart_eq (es : Nat) : ∀ l, allPart es l = l.all fun p => partOk es p.2
 | [] => rfl
 | p :: r => by simp [allPart, allPart_eq es r]
attribute [go_sem] allPart
@[go_sem] theorem evBuildSlice_eq {d : Nat} {len : Nat} {ps : List (Nat × AV)} : evBuildSlice P d T len ps K = onSlice (P.underlying T) fun E => caseO (tinfo P E) fun q => andK (0 < q.1 /\ q.2.2.isSome = true /\ len * q.1 <= 16777216 /\ ps.length = len /\ idxOk 0 ps = true) (andK (allPart q.1 ps = true) (K (.sl (64 * (d + 1)) q.1 (ps.map (·.2))))) := by
 unfold evBuildSlice onSlice caseO andK
 simp only [allPart_eq]
 apply propext
 constructor
 ·intro h
  split at h
  ·rename_i E hT; obtain ⟨q, h1, h2, h3, h4, h5, h6, h7, h8⟩ := h; exact ⟨E, hT, q, h1, ⟨h2, h3, h4, h5, h6⟩, h7, h8⟩
  ·exact h.elim
 ·rintro ⟨E, hT, q, h1, ⟨h2, h3, h4, h5, h6⟩, h7, h8⟩
  simp only [hT]; exact ⟨q, h1, h2, h3, h4, h5, h6, h7, h8⟩
@[go_sem] theorem evMake_int {d : Nat} {k k' : IntKind} {l c : Int} : evMake P d T (.sc (.int k l)) (.sc (.int k' c)) K = onSlice (P.underlying T) fun E => caseO (tinfo P E) fun q => caseO q.2.2 fun z => andK (0 < q.1 /\ zeroOk q.1 z = true) (0 <= l /\ l <= c /\ (q.2.1 : Int) * c <= 281474976710656 /\ c <= 9223372036854775807 /\ K (.sl (64 * (d + 1)) q.1 (List.replicate l.toNat (ofConst z)))) := by
 unfold evMake onSlice caseO andK
 apply propext
 constructor
 ·intro h
  split at h
  ·rename_i E _ _ _ _ hT hx hy; cases hx; cases hy
   obtain ⟨q, h1, h2, h3, h4, h5, h6, z, h7, h8, h9⟩ := h; exact ⟨E, hT, q, h1, z, h7, ⟨h2, h8⟩, h3, h4, h5, h6, h9⟩
  ·exact h.elim
 ·rintro ⟨E, hT, q, h1, z, h7, ⟨h2, h8⟩, h3, h4, h5, h6, h9⟩
  simp only [hT]; exact ⟨q, h1, h2, h3, h4, h5, h6, z, h7, h8, h9⟩
@[go_sem] theorem evBuild_eq {ps : List (Nat × AV)} : evBuild P T ps K = caseO (tinfo P T) fun q => caseO (placesOf P T) fun places => caseO q.2.2 fun z => andK ((z.cells.toList.all fun u => u.oneCell') = true) (caseO (fillA (fun i => places[i]?) (ofConst z).cells ps) fun r => K (.ag r)) := by
 unfold evBuild caseO andK
 apply propext
 constructor
 ·rintro ⟨q, places, z, r, h1, h2, h3, h4, h5, h6⟩; exact ⟨q, h1, places, h2, z, h3, h4, r, h5, h6⟩
 ·rintro ⟨q, h1, places, h2, z, h3, h4, r, h5, h6⟩; exact ⟨q, places, z, r, h1, h2, h3, h4, h5, h6⟩
end
section
variable {T T' : TypeId} {d : Nat} {K : St -> Prop} {σ : St}
@[go_sem] theorem evAppend_sl {t es : Nat} {xs : List AV} {y : AV} : evAppend P T T' d σ (.sl t es xs) y K = onB (decide (2 <= t)) (evAppendOwn P T T' (.sl t es xs) y fun t r => K ((σ.map (killLeaf t)).put (some d) r)) (andK (σ.free d = true) (evAppendX P d T T' (.sl t es xs) y fun r => K (σ.put (some d) r))) := by
 unfold evAppend onB andK
 by_cases h : 2 <= t <;> simp [h]
@[go_sem] theorem evAppend_nil {y : AV} : evAppend P T T' d σ .nil y K = andK (σ.free d = true) (evAppendX P d T T' .nil y fun r => K (σ.put (some d) r)) := rfl
@[go_sem] theorem evAppend_tl {t es i : Nat} {xs : List AV} {y : AV} : evAppend P T T' d σ (.tl t es xs i) y K = evAppendTl P T T' (.tl t es xs i) y fun t r1 r2 => K ((σ.map (killLeaf t)).put (some d) r1) /\ K ((σ.map (killLeaf t)).put (some d) r2) := rfl
@[go_sem] theorem evAppend_so {t : Nat} {xs : List AV} {y : AV} : evAppend P T T' d σ (.so t xs) y K = evAppSo P T T' d σ t xs y K := rfl
@[go_sem] theorem evAppendX_sl {x : AV} {t es : Nat} {xs : List AV} {K : AV -> Prop} : evAppendX P d T T' x (.sl t es xs) K = evAppendNew P d T T' x (.sl t es xs) K := rfl
@[go_sem] theorem evAppendX_nil {x : AV} {K : AV -> Prop} : evAppendX P d T T' x .nil K = evAppendNew P d T T' x .nil K := rfl
@[go_sem] theorem evAppendX_int {x : AV} {k : IntKind} {n : Int} {K : AV -> Prop} : evAppendX P d T T' x (.sc (.int k n)) K = evAppendZ P d T T' x n K := rfl
@[go_sem] theorem evAppendZ_nil {n : Int} {K : AV -> Prop} : evAppendZ P d T T' .nil n K = onSlice (P.underlying T) fun E => onInt (P.underlying T') fun _ => caseO (tinfo P E) fun q => caseO q.2.2 fun z => andK (0 < q.1 /\ zeroOk q.1 z = true) (0 < n /\ n.toNat * q.2.1 <= 140737488355328 /\ n <= 9223372036854775807 /\ K (.sl (64 * (d + 1)) q.1 (List.replicate n.toNat (ofConst z)))) := by
 unfold evAppendZ onSlice onInt caseO andK
 apply propext
 constructor
 ·intro h
  split at h
  ·rename_i E k hT hT' _
   obtain ⟨q, h1, h2, h3, h4, h5, z, h6, h7, h8⟩ := h; exact ⟨E, hT, k, hT', q, h1, z, h6, ⟨h2, h7⟩, h3, h4, h5, h8⟩
  ·exact h.elim
 ·rintro ⟨E, hT, k, hT', q, h1, z, h6, ⟨h2, h7⟩, h3, h4, h5, h8⟩
  simp only [hT, hT']; exact ⟨q, h1, h2, h3, h4, h5, z, h6, h7, h8⟩
@[go_sem] theorem evAppendOwn_sl {t es t' es' : Nat} {xs ys : List AV} {K : Nat -> AV -> Prop} : evAppendOwn P T T' (.sl t es xs) (.sl t' es' ys) K = onSlice (P.underlying T) fun E => andK (T' = T) (caseO (tinfo P E) fun q => caseO q.2.2 fun z => andK (0 < q.1 /\ z.cells.size = q.1 /\ 2 <= t /\ t' ≠ t /\ es = q.1 /\ es' = q.1) (roomFor (xs.length + ys.length) q.2.1 /\ K t (.sl t es (xs ++ ys)))) := by
 unfold evAppendOwn onSlice caseO andK
 apply propext
 constructor
 ·intro h
  split at h
  ·rename_i E hT
   obtain ⟨h0, q, h1, h2, ⟨z, h3, h4⟩, h5, h6, h7, h8, h9, h10⟩ := h
   exact ⟨E, hT, h0, q, h1, z, h3, ⟨h2, h4, h5, h6, h7, h8⟩, h9, h10⟩
  ·exact h.elim
 ·rintro ⟨E, hT, h0, q, h1, z, h3, ⟨h2, h4, h5, h6, h7, h8⟩, h9, h10⟩
  simp only [hT]; exact ⟨h0, q, h1, h2, ⟨z, h3, h4⟩, h5, h6, h7, h8, h9, h10⟩
@[go_sem] theorem evAppendNew_nil_sl {t es : Nat} {ys : List AV} {K : AV -> Prop} : evAppendNew P d T T' .nil (.sl t es ys) K = onSlice (P.underlying T) fun E => andK (T' = T) (caseO (tinfo P E) fun q => caseO q.2.2 fun z => andK (0 < q.1 /\ z.cells.size = q.1 /\ es = q.1) (roomFor ys.length q.2.1 /\ K (.sl (64 * (d + 1)) es ys))) := by
 unfold evAppendNew onSlice caseO andK
 apply propext
 constructor
 ·intro h
  split at h
  ·rename_i E hT
   obtain ⟨h0, q, h1, h2, ⟨z, h3, h4⟩, h5, h6, h7⟩ := h
   exact ⟨E, hT, h0, q, h1, z, h3, ⟨h2, h4, h5⟩, h6, h7⟩
  ·exact h.elim
 ·rintro ⟨E, hT, h0, q, h1, z, h3, ⟨h2, h4, h5⟩, h6, h7⟩
  simp only [hT]; exact ⟨h0, q, h1, h2, ⟨z, h3, h4⟩, h5, h6, h7⟩
@[go_sem] theorem evStore_pb {i o : Nat} {x : AV} {n : Nat} {t : List (Nat × AV)} {b : List (List AV)} : evStore P T ⟨n, t, b⟩ (.pb i o) x K = caseO b[i]? fun cs => caseO (tinfo P T) fun q => andK (x.cells.length = q.1 /\ x.one = true /\ o + q.1 <= cs.length) (K ⟨n, t, b.set i (setSeg cs o x.cells)⟩) := by
 unfold evStore caseO andK
 apply propext
 constructor
 ·rintro ⟨cs, q, h1, h2, h3, h4, h5, h6⟩; exact ⟨cs, h1, q, h2, ⟨h3, h4, h5⟩, h6⟩
 ·rintro ⟨cs, h1, q, h2, ⟨h3, h4, h5⟩, h6⟩; exact ⟨cs, q, h1, h2, h3, h4, h5, h6⟩
@[go_sem] theorem evStore_pe {t es i o : Nat} {xs : List AV} {x : AV} : evStore P T σ (.pe t es xs i o) x K = caseO (tinfo P T) fun q => andK (2 <= t /\ x.cells.length = q.1 /\ 0 < q.1 /\ o + q.1 <= es /\ x.fz = true /\ x.one = true /\ leafAll x.cells = true) (K (σ.map (storeLeaf t es i o x.cells))) := by
 unfold evStore caseO andK
 apply propext
 constructor
 ·rintro ⟨h0, q, h1, h2, h3, h4, h5, h6, h7, h8⟩; exact ⟨q, h1, ⟨h0, h2, h3, h4, h5, h6, h7⟩, h8⟩
 ·rintro ⟨q, h1, ⟨h0, h2, h3, h4, h5, h6, h7⟩, h8⟩; exact ⟨h0, q, h1, h2, h3, h4, h5, h6, h7, h8⟩
attribute [go_sem] evAlloc
end
@[go_sem] theorem resK_nil {K : List AV -> Prop} : resK P ⟨n, t, b⟩ [] K = K [] := rfl
@[go_sem] theorem resK_tmp {s : Nat} {r : List ResultVar} {K : List AV -> Prop} : resK P ⟨n, t, b⟩ (.tmp s :: r) K = resK P ⟨n, t, b⟩ r fun l => K (lookT t s :: l) := rfl
@[go_sem] theorem resK_cell {s : Nat} {T : TypeId} {r : List ResultVar} {K : List AV -> Prop} : resK P ⟨n, t, b⟩ (.cell s T :: r) K = evLoad P b T (lookT t s) fun x => resK P ⟨n, t, b⟩ r fun l => K (x :: l) := rfl
def finK (m : Nat) (post : AV -> List (List AV) -> Prop) (b : List (List AV)) (l : List AV) : Prop :=
 m <= b.length /\ (tupA l).allLeaf (pbLt m) = true /\ (tupA l).tags.length < 1000 /\ ((b.take m).all fun cs => cs.all fun x => x.allLeaf fun y => noTag y && pbLt m y) = true /\ post (tupA l).canon (b.take m)
@[congr] theorem finK_congr {m : Nat} {post : AV -> List (List AV) -> Prop} {b b' : List (List AV)} {l l' : List AV} (h : mkd b = b') (h1 : l = l') : finK m post b l = finK m post b' l' := by subst_vars; rfl
@[go_sem] theorem endK_eq {rs : List ResultVar} {m : Nat} {post : AV -> List (List AV) -> Prop} : endK P rs m post ⟨n, t, b⟩ = resK P ⟨n, t, b⟩ rs (finK m post b) := rfl
def allNoTag (m : Nat) : List (List AV) -> Bool
 | [] => true
 | cs :: r => allLeafs (fun y => noTag y && pbLt m y) cs && allNoTag m r
theorem allLeafs_all (q : AV -> Bool) : ∀ cs : List AV, (cs.all fun x => x.allLeaf q) = allLeafs q cs
 | [] => rfl
 | x :: r => by simp [allLeafs, allLeafs_all q r]
theorem allNoTag_eq (m : Nat) : ∀ b : List (List AV), (b.all fun cs => cs.all fun x => x.allLeaf fun y => noTag y && pbLt m y) = allNoTag m b
 | [] => rfl
 | cs :: r => by rw [List.all_cons, allLeafs_all, allNoTag_eq m r]; rfl
@[go_sem] theorem finK_one {m : Nat} {post : AV -> List (List AV) -> Prop} {x : AV} : finK m post b [x] = andK (m <= b.length) (andK (x.allLeaf (pbLt m) = true) (andK (x.tags.length < 1000) (andK (allNoTag m (b.take m) = true) (post x.canon (b.take m))))) := by
 simp only [finK, allNoTag_eq, andK, tupA]
@[go_sem] theorem finK_nil {m : Nat} {post : AV -> List (List AV) -> Prop} : finK m post b [] = andK (m <= b.length) (andK (allNoTag m (b.take m) = true) (post (.tup []) (b.take m))) := by
 simp [finK, allNoTag_eq, andK, tupA, AV.allLeaf, allLeafs, AV.canon, AV.mapTop, mapTops, AV.tags, tagss]
@[go_sem] theorem finK_two {m : Nat} {post : AV -> List (List AV) -> Prop} {x y : AV} {l : List AV} : finK m post b (x :: y :: l) = andK (m <= b.length) (andK (allLeafs (pbLt m) (x :: y :: l) = true) (andK ((tagss (x :: y :: l)).length < 1000) (andK (allNoTag m (b.take m) = true) (post (AV.tup (x :: y :: l)).canon (b.take m))))) := by
 simp only [finK, allNoTag_eq, andK, tupA, AV.allLeaf, AV.tags]
def finW (post : AV -> List AV -> Prop) (b : List (List AV)) (l : List AV) : Prop :=
 ∃ ys rest, b = ys :: rest /\ allLeafs (pbLt 0) (tupA l :: ys) = true /\ (tagss (tupA l :: ys)).length < 1000 /\ post ((tupA l).mapTop (renLeaf (tagss (tupA l :: ys)))) (mapTops (renLeaf (tagss (tupA l :: ys))) ys)
@[congr] theorem finW_congr {post : AV -> List AV -> Prop} {b b' : List (List AV)} {l l' : List AV} (h : mkd b = b') (h1 : l = l') : finW post b l = finW post b' l' := by subst_vars; rfl
@[go_sem] theorem endQW_normal {rs : List ResultVar} {post : AV -> List AV -> Prop} {σ : St} : endQW P rs post .normal σ = endW P rs post σ := rfl
@[go_sem] theorem endQW_ret {rs : List ResultVar} {post : AV -> List AV -> Prop} {σ : St} : endQW P rs post .ret σ = endW P rs post σ := rfl
@[go_sem] theorem endW_eq {rs : List ResultVar} {post : AV -> List AV -> Prop} : endW P rs post ⟨n, t, b⟩ = resK P ⟨n, t, b⟩ rs (finW post b) := rfl
@[go_sem] theorem finW_cons {post : AV -> List AV -> Prop} {ys : List AV} {r : List (List AV)} {l : List AV} : finW post (ys :: r) l = andK (allLeafs (pbLt 0) (tupA l :: ys) = true) (andK ((tagss (tupA l :: ys)).length < 1000) (post ((tupA l).mapTop (renLeaf (tagss (tupA l :: ys)))) (mapTops (renLeaf (tagss (tupA l :: ys))) ys))) := by
 unfold finW andK
 apply propext
 constructor
 ·rintro ⟨ys', r', h, h1, h2, h3⟩
  cases h; exact ⟨h1, h2, h3⟩
 ·rintro ⟨h1, h2, h3⟩
  exact ⟨ys, r, rfl, h1, h2, h3⟩
def finX (m : Nat) (post : AV -> List (List AV) -> Prop) (b : List (List AV)) (l : List AV) : Prop :=
 m <= b.length /\ allLeafs (pbLt m) (tupA l :: catB (b.take m)) = true /\ (tagss (tupA l :: catB (b.take m))).length < 1000 /\
  post ((tupA l).mapTop (renLeaf (tagss (tupA l :: catB (b.take m))))) (mapB (renLeaf (tagss (tupA l :: catB (b.take m)))) (b.take m))
@[congr] theorem finX_congr {m : Nat} {post : AV -> List (List AV) -> Prop} {b b' : List (List AV)} {l l' : List AV} (h : mkd b = b') (h1 : l = l') : finX m post b l = finX m post b' l' := by subst_vars; rfl
@[go_sem] theorem endQX_normal {rs : List ResultVar} {m : Nat} {post : AV -> List (List AV) -> Prop} {σ : St} : endQX P rs m post .normal σ = endX P rs m post σ := rfl
@[go_sem] theorem endQX_ret {rs : List ResultVar} {m : Nat} {post : AV -> List (List AV) -> Prop} {σ : St} : endQX P rs m post .ret σ = endX P rs m post σ := rfl
@[go_sem] theorem endX_eq {rs : List ResultVar} {m : Nat} {post : AV -> List (List AV) -> Prop} : endX P rs m post ⟨n, t, b⟩ = resK P ⟨n, t, b⟩ rs (finX m post b) := rfl
@[go_sem] theorem finX_cons {m : Nat} {post : AV -> List (List AV) -> Prop} {c : List AV} {b : List (List AV)} {l : List AV} : finX m post (c :: b) l = andK (m <= (c :: b).length) (andK (allLeafs (pbLt m) (tupA l :: catB ((c :: b).take m)) = true) (andK ((tagss (tupA l :: catB ((c :: b).take m))).length < 1000)
  (post ((tupA l).mapTop (renLeaf (tagss (tupA l :: catB ((c :: b).take m))))) (mapB (renLeaf (tagss (tupA l :: catB ((c :: b).take m)))) ((c :: b).take m))))) := rfl
attribute [go_sem] catB
attribute [go_sem] allNoTag List.take_zero List.take_succ_cons List.take_nil
end
section
variable {P : Program}
def edges (o : Oper) : List Nat := (o.after.toList.filter (Region.binds .any)).map (·.on)
def reach (ops : Array Oper) : Nat -> Nat -> Nat -> Bool
 | 0, _, _ => false
 | f + 1, i, j => match ops[i]? with
  | none => false
  | some o => (edges o).any (fun k => k == j) || (edges o).any (fun k => reach ops f k j)
def slotsOf (o : Oper) : List Nat := o.op.operands.toList.filterMap fun | .tmp t => some t | _ => none
def headOk (ops : Array Oper) (m i : Nat) (o : Oper) : Bool :=
 o.guard.isNone && (edges o).all (fun k => decide (k < i)) &&
 match o.dst with
 | none => false
 | some d => !(slotsOf o).contains d && (List.range m).all fun j => j == i || match ops[j]? with
   | none => false
   | some p => match p.dst with
    | none => false
    | some s => s != d && (!(slotsOf o).contains s || (if j < i then reach ops ops.size i j else reach ops ops.size j i))
def guardS (ops : Array Oper) (o : Oper) : List Nat := match o.guard with
 | none => []
 | some (j, _) => match guardSlot ops j with
  | none => []
  | some g => [g]
def slotsG (ops : Array Oper) (o : Oper) : List Nat := guardS ops o ++ slotsOf o
def headOkG (ops : Array Oper) (m i : Nat) (o : Oper) : Bool :=
 (edges o).all (fun k => decide (k < i)) &&
 match o.dst with
 | none => false
 | some d => !(slotsG ops o).contains d && (List.range m).all fun j => j == i || match ops[j]? with
   | none => false
   | some p => match p.dst with
    | none => false
    | some s => s != d && (!(slotsG ops o).contains s || (if j < i then reach ops ops.size i j else reach ops ops.size j i))
def tailOk (ops : Array Oper) (i : Nat) (o : Oper) : Bool :=
 (edges o).all (fun k => decide (k < i)) && (List.range i).all fun j => reach ops ops.size i j
def drawOk (ops : Array Oper) (m : Nat) : Bool :=
 decide (m <= ops.size) && (List.range ops.size).all fun i => match ops[i]? with
  | none => false
  | some o => if i < m then headOkG ops m i o else tailOk ops i o
def Closed (ops : Array Oper) (L : Nat -> Bool) : Prop := ∀ i o, ops[i]? = some o -> L i = true -> ∀ k ∈ edges o, L k = true
theorem reach_listed {ops : Array Oper} {L : Nat -> Bool} (hc : Closed ops L) : ∀ (f i j : Nat) o, ops[i]? = some o -> (∀ k ∈ edges o, L k = true) -> reach ops f i j = true -> L j = true
 | 0, _, _, _, _, _, h => by simp [reach] at h
 | f + 1, i, j, o, ho, hl, h => by
  simp only [reach, ho, Bool.or_eq_true, List.any_eq_true, beq_iff_eq] at h
  rcases h with ⟨k, hk, rfl⟩ | ⟨k, hk, hr⟩
  ·exact hl k hk
  ·cases hok : ops[k]? with
   | none => cases f <;> simp [reach, hok] at hr
   | some ok => exact reach_listed hc f k j ok hok (fun k' hk' => hc k ok hok (hl k hk) k' hk') hr
def creates (op : Op) : Bool :=
 match op with
 | .call { callee := .value _, .. } => true
 | op => needsFresh op
def StepOk (P : Program) (o : Oper) (d : Nat) (ρ : Operand -> AV) (bx : List (List AV)) (y : AV) : Prop :=
 ∀ (gh : Gh) (G : Nat -> Status) (a : Act) (w : World), Good G w -> BRel gh G w bx -> (creates o.op = true -> Fresh d G) -> (∀ x ∈ o.op.operands, VRel G w (ρ x) (a.eval x)) ->
  ∀ (K' : Act -> World -> Prop) (Q : Exit -> Act -> World -> Prop), (∀ v w' G', VRel G' w' y v -> Ext G w G' w' -> Good G' w' -> NewTags d G G' -> K' (a.put o.dst v) w') -> o.wp P a w K' Q
def CallY (P : Program) (f : FuncId) (args : List AV) (d : Nat) (σ : St) (K : St -> Prop) : Prop :=
 ∃ r, Con P f (args.map AV.view) [] (fun r' _ => r' = r) /\ r.allLeaf lt64 = true /\ (tagss args = [] \/ r.allLeaf flatLeaf = true) /\ K (σ.put (some d) (r.shift (64 * (d + 1))))
def headOp (P : Program) (o : Oper) (σ : St) (K : St -> Prop) : Prop :=
 match o.dst with
 | none => False
 | some d => d < σ.n /\ match o.op with
  | .call { callee := .value f, args, argTypes := _ } => match σ.ev f with
   | .fn fid caps => CallY P fid (args.toList.map σ.ev ++ caps) d σ K
   | _ => False
  | op => evOp P d σ.ev σ.boxes o.type op fun r => K (σ.put (some d) r)
def knownB (want : Bool) : AV -> Option Bool
 | .sc (.bool c) => some c
 | .sc (.tuple _) => some (!want)
 | _ => none
def headG (P : Program) (ops : Array Oper) (o : Oper) (σ : St) (K : St -> Prop) : Prop :=
 match o.guard with
 | none => headOp P o σ K
 | some (j, want) => ∃ g c, guardSlot ops j = some g /\ knownB want (σ.get g) = some c /\ ((c == want) = true -> headOp P o σ K) /\ ((c == want) = false -> ∃ d, o.dst = some d /\ d < σ.n /\ K (σ.put (some d) (.sc undef)))
def headA (P : Program) (ops : Array Oper) : List Oper -> St -> (St -> Prop) -> Prop
 | [], σ, K => K σ
 | o :: r, σ, K => headG P ops o σ fun σ' => headA P ops r σ' K
theorem back_ext {d : Nat} {G G' : Nat -> Status} {w w' : World} (h : Good G w) (hf : Fresh d G) (hG : Good G' w') (e1 : w'.os = w.os) (e2 : w'.tape = w.tape) (e3 : w'.output = w.output) (e4 : w.heap.size <= w'.heap.size) (e6 : ∀ b, b < w.heap.size -> w'.heap[b]? = w.heap[b]?) :
  Ext G w (backG d w.heap.size G G') w' /\ Good (backG d w.heap.size G G') w' /\ NewTags d G (backG d w.heap.size G G') := by
 have htag : ∀ b t, backG d w.heap.size G G' b = .tag t -> (b < w.heap.size /\ G b = .tag t) \/ (¬ b < w.heap.size /\ root t / 64 = d + 1 /\ G' b = .tag (t - 64 * (d + 1))) := by
  intro b t hb
  unfold backG at hb
  split at hb
  ·exact .inl ⟨by assumption, hb⟩
  ·rename_i hn
   split at hb <;> try (cases hb; done)
   rename_i t' ht'
   split at hb
   ·cases hb; exact .inr ⟨hn, by have := hf.1; unfold root at *; omega, by rw [ht']; congr 1; omega⟩
   ·cases hb
 have hbox : ∀ b i, backG d w.heap.size G G' b = .box i -> G b = .box i := by
  intro b i hb
  unfold backG at hb
  split at hb
  ·exact hb
  ·split at hb <;> first | (cases hb; done) | (split at hb <;> cases hb)
 refine ⟨⟨e1, e2, e3, e4, fun b hb => by simp [backG, hb], e6⟩, ⟨fun b hb => ?_, fun b b' t h1 h2 => ?_, fun b b' i h1 h2 => h.boxes b b' i (hbox b i h1) (hbox b' i h2)⟩, ⟨fun b t hb => ?_, hbox⟩⟩
 ·unfold backG at hb
  split at hb
  ·omega
  ·exact hG.lt b fun h' => hb (by simp [h'])
 ·rcases htag b t h1 with ⟨_, h1⟩ | ⟨_, h1, g1⟩ <;> rcases htag b' t h2 with ⟨_, h2⟩ | ⟨_, h2, g2⟩
  ·exact h.tags b b' t h1 h2
  ·exact absurd h2 (hf.2 b t h1)
  ·exact absurd h1 (hf.2 b' t h2)
  ·exact hG.tags b b' _ g1 g2
 ·rcases htag b t hb with ⟨_, h⟩ | ⟨_, h, _⟩
  ·exact .inl h
  ·exact .inr h
theorem headOp_sound {o : Oper} {σ : St} {K : St -> Prop} (h : headOp P o σ K) : ∃ d y, o.dst = some d /\ d < σ.n /\ K (σ.put (some d) y) /\ StepOk P o d σ.ev σ.boxes y := by
 unfold headOp at h
 split at h
 ·exact h.elim
 ·rename_i d hd
  obtain ⟨hdn, h⟩ := h
  split at h
  ·rename_i f args As ho
   split at h
   ·rename_i fid caps hf
    obtain ⟨r, ⟨⟨fn, hfn, hname, hbody⟩, hcon⟩, hlt, hts, hk⟩ := h
    refine ⟨d, _, hd, hdn, hk, fun gh G a w hg hb hfr hv K' Q hK => ?_⟩
    have hfr := hfr (by simp [creates, ho])
    have hff := hv f (by simp [ho, Op.operands, Call.operands])
    rw [hf] at hff
    obtain ⟨vs, hfe, hcaps⟩ := hff.fn_inv
    have hgv := hg.view (ts := tagss (args.toList.map σ.ev ++ caps))
    have hva0 : PW (VRel G w) (args.toList.map σ.ev ++ caps) (args.map a.eval ++ vs).toList := by
     rw [Array.toList_append, Array.toList_map]
     refine PW.append ⟨by simp, fun j x u hx hu => ?_⟩ (hcaps.mono fun x y _ hr => .froz hr)
     simp only [List.getElem?_map] at hx hu
     cases hj : args.toList[j]? with
     | none => simp [hj] at hx
     | some c =>
      simp [hj] at hx hu; subst hx; subst hu
      have hc : c ∈ args.toList := List.mem_of_getElem? hj
      exact hv c (by simp [ho, Op.operands, Call.operands]; exact .inr (by simpa using hc))
    have hva : PW (VRel (viewG (tagss (args.toList.map σ.ev ++ caps)) G) w) ((args.toList.map σ.ev ++ caps).map AV.view) (args.map a.eval ++ vs).toList := by
     refine ⟨by simpa using hva0.1, fun j x u hx hu => ?_⟩
     rw [List.getElem?_map] at hx
     cases hj : (args.toList.map σ.ev ++ caps)[j]? with
     | none => simp [hj] at hx
     | some y =>
      simp [hj] at hx; subst hx
      exact (hva0.2 j y u hj hu).view (tags_in _ y (tagss_mem (List.mem_of_getElem? hj)))
    have hrun : (execOp a.eval o).run P w = .ok (.enter fid (args.map a.eval ++ vs)) w := by
     have hname' : ¬ fn.name = "runtime.NumGoroutine" := by simpa using hname
     have hbody' : ¬ fn.body = none := by intro h; rw [h] at hbody; simp at hbody
     simp [execOp, ho, resolve, hfe, Deferred.ofValue, invoke, callFunc, hfn, hname', hbody']
    unfold Oper.wp
    rw [hrun, Oper.upon_enter]
    refine (hcon _ w _ hgv.1 hgv.2.1 (fun b i hb => absurd hb (hgv.2.2 b i)) ⟨fun i vs hv => by simp [noGh] at hv, fun i cs hi => by simp at hi⟩ hva).mono ?_
    rintro e w' ⟨v, r', bx', G', rfl, rfl, hr, hG', _, _, e1, e2, e3, e4, e5, e6⟩
    have e6' : ∀ b, b < w.heap.size -> w'.heap[b]? = w.heap[b]? := fun b hb => e6 b hb (fun i => hgv.2.2 b i)
    obtain ⟨k1, k2, k3⟩ := back_ext (d := d) hg hfr hG' e1 e2 e3 e4 e6'
    have hback := hr.back (d := d) (G := G) (Gc := viewG (tagss (args.toList.map σ.ev ++ caps)) G) (w := w) hlt hfr.1 e5 hgv.2.1 (by
     rcases hts with hts | hts
     ·refine .inl fun b _ hb => ?_
      unfold Stable viewG at *
      split at hb
      ·assumption
      ·rw [hts] at hb; simp at hb
      ·cases hb
     ·exact .inr hts)
    exact hK v w' _ hback k1 k2 k3
   ·exact h.elim
  ·rename_i hnc
   obtain ⟨r, hk, hr⟩ := evOp_sound h
   refine ⟨d, r, hd, hdn, hk, fun gh G a w hg hb hfr hv K' Q hK => ?_⟩
   obtain ⟨v, w', G', g1, g2, g3, g4, g5⟩ := hr o gh G w a.eval rfl hg (fun h => hfr (by unfold creates; split; rfl; exact h)) hb hv
   unfold Oper.wp
   rw [g1, Oper.upon_value]
   exact hK v w' G' g2 g3 g4 g5
def StepG (P : Program) (ops : Array Oper) (o : Oper) (d : Nat) (σ : St) (bx : List (List AV)) (y : AV) : Prop :=
 (o.guard = none /\ StepOk P o d σ.ev bx y) \/ (∃ j want g c, o.guard = some (j, want) /\ guardSlot ops j = some g /\ σ.get g = .sc (.bool c) /\ ((c = want /\ StepOk P o d σ.ev bx y) \/ (c ≠ want /\ y = .sc undef))) \/ ∃ j want g vs, o.guard = some (j, want) /\ guardSlot ops j = some g /\ σ.get g = .sc (.tuple vs) /\ y = .sc undef
theorem headG_sound {ops : Array Oper} {o : Oper} {σ : St} {K : St -> Prop} (h : headG P ops o σ K) : ∃ d y, o.dst = some d /\ d < σ.n /\ K (σ.put (some d) y) /\ StepG P ops o d σ σ.boxes y := by
 unfold headG at h
 split at h
 ·rename_i hg
  obtain ⟨d, y, h1, h2, h3, h4⟩ := headOp_sound h
  exact ⟨d, y, h1, h2, h3, .inl ⟨hg, h4⟩⟩
 ·rename_i j want hg
  obtain ⟨g, c, e1, e2, e3, e4⟩ := h
  have e2' : σ.get g = .sc (.bool c) \/ ((∃ vs, σ.get g = .sc (.tuple vs)) /\ c = !want) := by
   revert e2; unfold knownB; split
   ·rename_i h; intro e; cases e; exact .inl h
   ·rename_i h; intro e; cases e; exact .inr ⟨⟨_, h⟩, rfl⟩
   ·intro e; cases e
  rcases e2' with e2' | ⟨⟨vs, e2'⟩, rfl⟩
  ·by_cases hc : c = want
   ·obtain ⟨d, y, h1, h2, h3, h4⟩ := headOp_sound (e3 (by simpa using hc))
    exact ⟨d, y, h1, h2, h3, .inr (.inl ⟨j, want, g, c, hg, e1, e2', .inl ⟨hc, h4⟩⟩)⟩
   ·obtain ⟨d, h1, h2, h3⟩ := e4 (by simpa using hc)
    exact ⟨d, _, h1, h2, h3, .inr (.inl ⟨j, want, g, c, hg, e1, e2', .inr ⟨hc, rfl⟩⟩)⟩
  ·obtain ⟨d, h1, h2, h3⟩ := e4 (by cases want <;> rfl)
   exact ⟨d, _, h1, h2, h3, .inr (.inr ⟨j, want, g, vs, hg, e1, e2', rfl⟩)⟩
def puts (σ : St) : List (Nat × AV) -> St
 | [] => σ
 | p :: r => puts (σ.put (some p.1) p.2) r
theorem headA_vals {ops : Array Oper} : ∀ (l : List Oper) (σ : St) (K : St -> Prop), headA P ops l σ K -> ∃ vs : List (Nat × AV), vs.length = l.length /\ K (puts σ vs) /\
  ∀ i o, l[i]? = some o -> ∃ d y, vs[i]? = some (d, y) /\ o.dst = some d /\ d < σ.n /\ StepG P ops o d (puts σ (vs.take i)) σ.boxes y
 | [], σ, K, h => ⟨[], rfl, h, fun i o hi => by simp at hi⟩
 | o :: l, σ, K, h => by
  obtain ⟨d, y, h1, h2, h3, h4⟩ := headG_sound h
  obtain ⟨vs, g1, g2, g3⟩ := headA_vals l _ K h3
  refine ⟨(d, y) :: vs, by simp [g1], g2, fun i o' hi => ?_⟩
  cases i with
  | zero => simp at hi; subst hi; exact ⟨d, y, rfl, h1, h2, h4⟩
  | succ i =>
   obtain ⟨d', y', k1, k2, k3, k4⟩ := g3 i o' (by simpa using hi)
   rw [put_n] at k3; rw [put_boxes] at k4
   exact ⟨d', y', by simpa using k1, k2, k3, k4⟩
structure At (vs : List (Nat × AV)) (L : Nat -> Bool) (σ τ : St) : Prop where
 n : τ.n = σ.n
 boxes : τ.boxes = σ.boxes
 dst : ∀ (i d : Nat) (y : AV), vs[i]? = some (d, y) -> τ.get d = if L i = true then y else σ.get d
 rest : ∀ s : Nat, (∀ (i d : Nat) (y : AV), vs[i]? = some (d, y) -> d ≠ s) -> τ.get s = σ.get s
def Apart (vs : List (Nat × AV)) : Prop := ∀ (i j d : Nat) (y : AV) (d' : Nat) (y' : AV), vs[i]? = some (d, y) -> vs[j]? = some (d', y') -> i ≠ j -> d ≠ d'
theorem get_put {σ : St} {d s : Nat} {x : AV} : (σ.put (some d) x).get s = if d = s then x else σ.get s := by simp only [St.put, St.get, lookT_put]
theorem puts_at : ∀ (k : Nat) (vs : List (Nat × AV)) (σ : St), Apart vs -> At vs (fun i => decide (i < k)) σ (puts σ (vs.take k))
 | 0, vs, σ, _ => ⟨rfl, rfl, fun i d y _ => by simp [puts], fun s _ => by simp [puts]⟩
 | k + 1, [], σ, _ => ⟨rfl, rfl, fun i d y h => by simp at h, fun s _ => by simp [puts]⟩
 | k + 1, p :: vs, σ, ha => by
  have ha' : Apart vs := fun i j d y d' y' h1 h2 hij => ha (i + 1) (j + 1) d y d' y' (by simpa using h1) (by simpa using h2) (by omega)
  have ih := puts_at k vs (σ.put (some p.1) p.2) ha'
  simp only [List.take_succ_cons, puts]
  refine ⟨by rw [ih.n, put_n], by rw [ih.boxes, put_boxes], fun i d y h => ?_, fun s h => ?_⟩
  ·cases i with
   | zero =>
    simp at h; subst h
    rw [ih.rest d (fun i d' y' hi => (ha 0 (i + 1) d y d' y' rfl (by simpa using hi) (by omega)).symm), get_put]
    simp
   | succ i =>
    have h' : vs[i]? = some (d, y) := by simpa using h
    rw [ih.dst i d y h', get_put]
    have hne : p.1 ≠ d := ha 0 (i + 1) p.1 p.2 d y rfl h (by omega)
    simp [hne]
  ·rw [ih.rest s (fun i d y hi => h (i + 1) d y (by simpa using hi)), get_put]
   rw [if_neg (h 0 p.1 p.2 rfl)]
theorem At.step {vs : List (Nat × AV)} {L L' : Nat -> Bool} {σ τ : St} {i d : Nat} {y : AV} (h : At vs L σ τ) (ha : Apart vs) (hi : vs[i]? = some (d, y)) (hL : ∀ j, j ≠ i -> L' j = L j) (hLi : L' i = true) : At vs L' σ (τ.put (some d) y) := by
 refine ⟨by rw [put_n, h.n], by rw [put_boxes, h.boxes], fun j d' y' hj => ?_, fun s hs => ?_⟩
 ·rw [get_put]
  by_cases hij : j = i
  ·subst hij; rw [hi] at hj; cases hj; simp [hLi]
  ·rw [if_neg (ha i j d y d' y' hi hj (Ne.symm hij)), h.dst j d' y' hj, hL j hij]
 ·rw [get_put, if_neg (hs i d y hi), h.rest s hs]
theorem SRel.slotsEq {G0 w0 σ τ G a w} (h : SRel G0 w0 σ G a w) (hn : τ.n = σ.n) (hb : τ.boxes = σ.boxes) (hs : ∀ s, τ.get s = σ.get s) : SRel G0 w0 τ G a w :=
 { h with
  slots := fun s => by rw [hs s]; exact h.slots s
  boxes := by rw [hb]; exact h.boxes
  blt := by rw [hb]; exact h.blt
  size := by rw [hn]; exact h.size }
theorem SRel.drawn {G0 w0 σ G a w} (h : SRel G0 w0 σ G a w) (n : Nat) : SRel G0 w0 σ G a { w with drawn := n } := by
 have hm : ∀ {x v}, VRel G w x v -> VRel G { w with drawn := n } x v := fun hr => hr.mono (fun _ _ => rfl) (fun _ _ _ => rfl)
 exact { h with
  good := ⟨h.good.lt, h.good.tags, h.good.boxes⟩
  slots := fun s => hm (h.slots s)
  boxes := ⟨h.boxes.low, fun i cs hi => (h.boxes.cell i cs hi).same (fun x v hr => hm hr) (fun b h1 => ⟨h1, rfl⟩) fun h0 => h0⟩
  hsize := h.hsize
  keep := h.keep }
def creators (ops : Array Oper) (m : Nat) : List Nat := (ops.toList.take m).filterMap fun o => if creates o.op = true then o.dst else none
def freeAll (σ : St) : List Nat -> Bool
 | [] => true
 | d :: r => σ.free d && freeAll σ r
theorem freeAll_mem {σ : St} : ∀ {l : List Nat}, freeAll σ l = true -> ∀ d ∈ l, σ.free d = true
 | x :: r, h, d, hd => by
  simp only [freeAll, Bool.and_eq_true] at h
  rcases List.mem_cons.1 hd with rfl | hd
  ·exact h.1
  ·exact freeAll_mem h.2 d hd
theorem killR_fresh {d d' : Nat} {G : Nat -> Status} (h : Fresh d' G) : Fresh d' (killR d G) := ⟨h.1, fun b t hb => h.2 b t (killR_tag hb).1⟩
theorem SRel.freshAll {G0 w0 σ a w} (h0 : True) : ∀ (l : List Nat) (G : Nat -> Status), SRel G0 w0 σ G a w -> freeAll σ l = true -> ∃ G', SRel G0 w0 σ G' a w /\ (∀ d ∈ l, Fresh d G') /\ ∀ d, Fresh d G -> Fresh d G'
 | [], G, h, _ => ⟨G, h, fun d hd => by simp at hd, fun _ h => h⟩
 | d :: r, G, h, hf => by
  simp only [freeAll, Bool.and_eq_true] at hf
  obtain ⟨k1, k2⟩ := h.fresh hf.1 h0
  obtain ⟨G', g1, g2, g3⟩ := SRel.freshAll h0 r _ k1 hf.2
  refine ⟨G', g1, fun d' hd' => ?_, fun d' hd' => g3 d' (killR_fresh hd')⟩
  rcases List.mem_cons.1 hd' with rfl | hd'
  ·exact g3 _ k2
  ·exact g2 d' hd'
theorem NewTags.fresh {d d' : Nat} {G G' : Nat -> Status} (h : NewTags d G G') (hne : d ≠ d') (hf : Fresh d' G) : Fresh d' G' := by
 refine ⟨hf.1, fun b t hb => ?_⟩
 rcases h.tags b t hb with h | h
 ·exact hf.2 b t h
 ·omega
section
variable {ops : Array Oper} {m : Nat} {vs : List (Nat × AV)} {σ : St} {K : St -> Prop} {G0 : Orig} {w0 : World} {Q : Exit -> Act -> World -> Prop}
theorem binds_edges {o : Oper} {L : Nat -> Bool} : (∀ e ∈ o.after, Region.binds .any e = true -> L e.on = true) ↔ ∀ k ∈ edges o, L k = true := by
 unfold edges
 constructor
 ·intro h k hk
  obtain ⟨e, he, rfl⟩ := List.mem_map.1 hk
  have := List.mem_filter.1 he
  exact h e (by simpa using this.1) this.2
 ·intro h e he hb
  exact h e.on (List.mem_map.2 ⟨e, List.mem_filter.2 ⟨by simpa using he, hb⟩, rfl⟩)
theorem ready_iff {i : Nat} {listed : Array Bool} (hs : listed.size = ops.size) : i ∈ Region.ready .any ops listed ↔
  ∃ o, ops[i]? = some o /\ listed.getD i false = false /\ ∀ k ∈ edges o, listed.getD k false = true := by
 rw [mem_ready]
 constructor
 ·rintro ⟨h1, o, ho, h2⟩
  refine ⟨o, ho, ?_, binds_edges.1 h2⟩
  have hlt : i < listed.size := by rw [hs]; exact (Array.getElem?_eq_some_iff.1 ho).1
  simpa [hlt] using h1
 ·rintro ⟨o, ho, h1, h2⟩
  refine ⟨?_, o, ho, binds_edges.2 h2⟩
  have hlt : i < listed.size := by rw [hs]; exact (Array.getElem?_eq_some_iff.1 ho).1
  simpa [hlt] using h1
theorem set_getD {i j : Nat} {listed : Array Bool} (hi : i < listed.size) : (listed.setIfInBounds i true).getD j false = if i = j then true else listed.getD j false := by
 by_cases h : i = j
 ·subst h; simp [hi]
 ·simp [h, Array.getElem?_setIfInBounds_ne h]
structure Left (ops : Array Oper) (listed : Array Bool) (U : List Nat) : Prop where
 size : listed.size = ops.size
 nodup : U.Nodup
 mem : ∀ i, i ∈ U ↔ i < ops.size /\ listed.getD i false = false
theorem Left.step {listed : Array Bool} {U : List Nat} {i : Nat} (h : Left ops listed U) (hi : i ∈ U) : Left ops (listed.setIfInBounds i true) (U.erase i) /\ (U.erase i).length + 1 = U.length := by
 have hlt := ((h.mem i).1 hi).1
 refine ⟨⟨by simpa using h.size, h.nodup.erase i, fun j => ?_⟩, ?_⟩
 ·rw [h.nodup.mem_erase_iff, h.mem j, set_getD (by rw [h.size]; exact hlt)]
  constructor
  ·rintro ⟨h1, h2, h3⟩; exact ⟨h2, by rw [if_neg (Ne.symm h1)]; exact h3⟩
  ·rintro ⟨h1, h2⟩
   by_cases hij : i = j
   ·rw [if_pos hij] at h2; cases h2
   ·rw [if_neg hij] at h2; exact ⟨Ne.symm hij, h1, h2⟩
 ·rw [List.length_erase_of_mem hi]
  have : 0 < U.length := List.length_pos_of_mem hi
  omega
theorem Closed.step {listed : Array Bool} {i : Nat} {o : Oper} (hc : Closed ops (fun k => listed.getD k false)) (hlt : i < listed.size) (ho : ops[i]? = some o) (hl : ∀ k ∈ edges o, listed.getD k false = true) :
  Closed ops (fun k => (listed.setIfInBounds i true).getD k false) := by
 intro j oj hoj hj k hk
 simp only [set_getD hlt] at hj ⊢
 by_cases hik : i = k
 ·rw [if_pos hik]
 ·rw [if_neg hik]
  by_cases hij : i = j
  ·subst hij; rw [ho] at hoj; cases hoj; exact hl k hk
  ·rw [if_neg hij] at hj; exact hc j oj hoj hj k hk
theorem some_ready {listed : Array Bool} {U : List Nat} (h : Left ops listed U) (hlt : ∀ i o, ops[i]? = some o -> ∀ k ∈ edges o, k < i) (hne : U ≠ []) : Region.ready .any ops listed ≠ [] := by
 obtain ⟨u, hu⟩ := List.exists_mem_of_ne_nil U hne
 have key : ∀ n, ∀ u ∈ U, u <= n -> ∃ i, i ∈ Region.ready .any ops listed := by
  intro n
  induction n with
  | zero =>
   intro u hu hn
   have := (h.mem u).1 hu
   obtain ⟨o, ho⟩ : ∃ o, ops[u]? = some o := ⟨ops[u], by simp [this.1]⟩
   exact ⟨u, (ready_iff h.size).2 ⟨o, ho, this.2, fun k hk => by have := hlt u o ho k hk; omega⟩⟩
  | succ n ih =>
   intro u hu hn
   have hm := (h.mem u).1 hu
   obtain ⟨o, ho⟩ : ∃ o, ops[u]? = some o := ⟨ops[u], by simp [hm.1]⟩
   by_cases hall : ∀ k ∈ edges o, listed.getD k false = true
   ·exact ⟨u, (ready_iff h.size).2 ⟨o, ho, hm.2, hall⟩⟩
   ·have : ∃ k, k ∈ edges o /\ listed.getD k false = false := by
     apply Classical.byContradiction
     intro hcon
     exact hall fun k hk => by
      cases hb : listed.getD k false
      ·exact absurd ⟨k, hk, hb⟩ hcon
      ·rfl
    obtain ⟨k, hk, hkf⟩ := this
    have hku := hlt u o ho k hk
    exact ih k ((h.mem k).2 ⟨by omega, hkf⟩) (by omega)
 obtain ⟨i, hi⟩ := key u u hu (Nat.le_refl u)
 exact fun h => by rw [h] at hi; simp at hi
structure Plan (ops : Array Oper) (m : Nat) : Prop where
 le : m <= ops.size
 lt : ∀ i o, ops[i]? = some o -> ∀ k ∈ edges o, k < i
 head : ∀ i o, ops[i]? = some o -> i < m -> ∃ d, o.dst = some d /\ d ∉ slotsG ops o /\ ∀ j p s, j < m -> j ≠ i -> ops[j]? = some p -> p.dst = some s -> s ≠ d /\ (s ∈ slotsG ops o -> if j < i then reach ops ops.size i j = true else reach ops ops.size j i = true)
 tail : ∀ i o, ops[i]? = some o -> m <= i -> ∀ j, j < i -> reach ops ops.size i j = true
theorem drawOk_plan (h : drawOk ops m = true) : Plan ops m := by
 simp only [drawOk, Bool.and_eq_true, decide_eq_true_eq, List.all_eq_true, List.mem_range] at h
 obtain ⟨h1, h2⟩ := h
 have hof : ∀ i o, ops[i]? = some o -> (if i < m then headOkG ops m i o else tailOk ops i o) = true := fun i o ho => by
  have := h2 i (Array.getElem?_eq_some_iff.1 ho).1
  rw [ho] at this; simpa using this
 refine ⟨h1, fun i o ho k hk => ?_, fun i o ho hi => ?_, fun i o ho hi j hj => ?_⟩
 ·have := hof i o ho
  split at this
  ·simp only [headOkG, Bool.and_eq_true, List.all_eq_true, decide_eq_true_eq] at this
   exact this.1 k hk
  ·simp only [tailOk, Bool.and_eq_true, List.all_eq_true, decide_eq_true_eq] at this
   exact this.1 k hk
 ·have := hof i o ho
  rw [if_pos hi] at this
  simp only [headOkG, Bool.and_eq_true] at this
  obtain ⟨_, g3⟩ := this
  split at g3
  ·cases g3
  ·rename_i d hd
   simp only [Bool.and_eq_true, List.all_eq_true, List.mem_range, Bool.not_eq_true', Bool.or_eq_true, beq_iff_eq] at g3
   refine ⟨d, hd, by simpa using g3.1, fun j p s hj hji hp hs => ?_⟩
   have := (g3.2 j hj).resolve_left hji
   simp only [hp, hs, Bool.and_eq_true, bne_iff_ne, ne_eq, Bool.or_eq_true, Bool.not_eq_true'] at this
   refine ⟨this.1, fun hm => ?_⟩
   have h' := this.2.resolve_left (by simpa using hm)
   split at h'
   ·rename_i hlt; rw [if_pos hlt]; exact h'
   ·rename_i hlt; rw [if_neg hlt]; exact h'
 ·have := hof i o ho
  rw [if_neg (by omega)] at this
  simp only [tailOk, Bool.and_eq_true, List.all_eq_true, List.mem_range] at this
  exact this.2 j hj
theorem tail_run (hp : Plan ops m) (h0 : True) (hQ : ∀ σ' G' a' w', K σ' -> SRel G0 w0 σ' G' a' w' -> Q .normal a' w') :
  ∀ (fuel k : Nat) (listed : Array Bool) (U : List Nat) (σ : St) (G : Nat -> Status) (a : Act) (w : World), Left ops listed U -> U.length = fuel -> m <= k -> (∀ i, i < ops.size -> (listed.getD i false = true ↔ i < k)) -> k <= ops.size ->
   Closed ops (fun k => listed.getD k false) -> opsA P ops (ops.toList.drop k) σ K -> SRel G0 w0 σ G a w -> wpAny P .any ops Q fuel listed a w := by
 intro fuel
 induction fuel with
 | zero =>
  intro k listed U σ G a w hl hU hmk hk hks hc hw h
  have hUn : U = [] := List.eq_nil_of_length_eq_zero hU
  subst hUn
  have hkk : k = ops.size := by
   apply Classical.byContradiction
   intro hne
   have hlt : k < ops.size := by omega
   have : listed.getD k false = false := by
    cases hb : listed.getD k false
    ·rfl
    ·have := (hk k hlt).1 hb; omega
   have := (hl.mem k).2 ⟨hlt, this⟩
   simp at this
  subst hkk
  refine ⟨?_, ?_⟩
  ·apply List.eq_nil_iff_forall_not_mem.2
   intro i hi
   obtain ⟨o, ho, h1, _⟩ := (ready_iff hl.size).1 hi
   have := (hl.mem i).2 ⟨(Array.getElem?_eq_some_iff.1 ho).1, h1⟩
   simp at this
  ·have hd : ops.toList.drop ops.size = [] := by simp
   rw [hd] at hw
   exact hQ σ G a w hw h
 | succ fuel ih =>
  intro k listed U σ G a w hl hU hmk hk hks hc hw h
  have hUn : U ≠ [] := by intro h; rw [h] at hU; simp at hU
  refine ⟨fun hr => absurd hr (some_ready hl hp.lt hUn), fun i hi => ?_⟩
  obtain ⟨o, ho, h1, h2⟩ := (ready_iff hl.size).1 hi
  have hlt := (Array.getElem?_eq_some_iff.1 ho).1
  have hki : ¬ i < k := fun h => by have := (hk i hlt).2 h; rw [h1] at this; cases this
  have hik : i = k := by
   apply Classical.byContradiction
   intro hne
   have hlk : k < i := by omega
   have := reach_listed hc ops.size i k o ho h2 (hp.tail i o ho (by omega) k hlk)
   have := (hk k (by omega)).1 this
   omega
  subst hik
  have hdrop : ops.toList.drop i = o :: ops.toList.drop (i + 1) := by
   have hlt' : i < ops.toList.length := by simpa using hlt
   rw [List.drop_eq_getElem_cons hlt']
   have : ops.toList[i] = o := by
    have := Array.getElem?_eq_some_iff.1 ho
    simpa using this.2
   rw [this]
  rw [hdrop] at hw
  have hmem : i ∈ U := (hl.mem i).2 ⟨hlt, h1⟩
  obtain ⟨l1, l2⟩ := hl.step hmem
  have hsz : i < listed.size := by rw [hl.size]; exact hlt
  have hk' : ∀ j, j < ops.size -> ((listed.setIfInBounds i true).getD j false = true ↔ j < i + 1) := fun j hj => by
   rw [set_getD hsz]
   by_cases hij : i = j
   ·subst hij; simp
   ·rw [if_neg hij, hk j hj]; omega
  have hcont : ∀ {σ' G' a' w'}, opsA P ops (ops.toList.drop (i + 1)) σ' K -> SRel G0 w0 σ' G' a' w' -> wpAny P .any ops Q fuel (listed.setIfInBounds i true) a' w' := fun hk2 hs2 =>
   ih (i + 1) _ _ _ _ _ _ l1 (by omega) (by omega) hk' (by omega) (hc.step hsz ho h2) hk2 hs2
  simp only [opsA] at hw
  simp only [Go.wpOp, ho]
  have run : ∀ {σ}, AM.wpOp P o σ (fun σ' => opsA P ops (ops.toList.drop (i + 1)) σ' K) -> SRel G0 w0 σ G a w -> o.wp P a w (wpAny P .any ops Q fuel (listed.setIfInBounds i true)) Q := fun hw h =>
   wpOp_sound hw h h0 _ _ fun σ' G' a' w' hk hs => hcont hk hs
  cases hg : o.guard with
  | none =>
   simp only [hg] at hw
   rw [if_pos (by simp [Region.wanted, hg])]
   exact .inl (run hw h)
  | some p =>
   obtain ⟨j, want⟩ := p
   simp only [hg] at hw
   cases hgs : guardSlot ops j with
   | none => simp [hgs] at hw
   | some g =>
    simp only [hgs] at hw
    split at hw
    ·rename_i b hb
     have hv := h.slots g
     rw [hb] at hv
     have hy := yielded_bool hgs hv.sc_inv
     by_cases hbw : b = want
     ·subst hbw
      rw [if_pos (by simp [Region.wanted, hg, hy])]
      exact .inl (run (hw.1 rfl) (h.same hb))
     ·rw [if_neg (by simp [Region.wanted, hg, hy, hbw])]
      have hbn : b = !want := by cases b <;> cases want <;> simp_all
      obtain ⟨hdst, hw⟩ := hw.2 hbn
      have hs := (h.same (g := g) (x := .sc (.bool (!want))) (by rw [hb, hbn])).add (.refl G w) h.good (fun _ _ h => h) (d := o.dst) (x := .sc undef) (v := undef) (by rw [put_n]; exact hdst) (.froz (.sc _))
      exact hcont hw hs
    ·rename_i vs hb
     have hv := h.slots g
     rw [hb] at hv
     have hy := yielded_none hgs hv.sc_inv
     rw [if_neg (by simp [Region.wanted, hg, hy])]
     obtain ⟨hdst, hw⟩ := hw
     have hs := h.add (.refl G w) h.good (fun _ _ h => h) (d := o.dst) (x := .sc undef) (v := undef) hdst (.froz (.sc _))
     exact hcont hw hs
    ·exact hw.elim
theorem head_run (hp : Plan ops m) (h0 : True) (hQ : ∀ σ' G' a' w', K σ' -> SRel G0 w0 σ' G' a' w' -> Q .normal a' w') (hvl : vs.length = m) (hap : Apart vs)
  (hK : opsA P ops (ops.toList.drop m) (puts σ vs) K)
  (hst : ∀ i o, i < m -> ops[i]? = some o -> ∃ d y, vs[i]? = some (d, y) /\ o.dst = some d /\ d < σ.n /\ StepG P ops o d (puts σ (vs.take i)) σ.boxes y) :
  ∀ (fuel : Nat) (listed : Array Bool) (U : List Nat) (τ : St) (G : Nat -> Status) (a : Act) (w : World), Left ops listed U -> U.length = fuel -> (∀ i, m <= i -> listed.getD i false = false) ->
   Closed ops (fun k => listed.getD k false) -> At vs (fun i => listed.getD i false) σ τ -> SRel G0 w0 τ G a w ->
   (∀ i o d, ops[i]? = some o -> i < m -> o.dst = some d -> creates o.op = true -> listed.getD i false = false -> Fresh d G) -> wpAny P .any ops Q fuel listed a w := by
 intro fuel
 induction fuel with
 | zero =>
  intro listed U τ G a w hl hU hm hc hat h hfr
  have hUn : U = [] := List.eq_nil_of_length_eq_zero hU
  subst hUn
  have hall : ∀ i, i < ops.size -> listed.getD i false = true := fun i hi => by
   cases hb : listed.getD i false
   ·have := (hl.mem i).2 ⟨hi, hb⟩; simp at this
   ·rfl
  have hms : m = ops.size := by
   apply Classical.byContradiction
   intro hne
   have := hp.le
   have h1 := hall m (by omega)
   rw [hm m (Nat.le_refl m)] at h1; cases h1
  have heq : SRel G0 w0 (puts σ vs) G a w := by
   have hpa := puts_at m vs σ hap
   rw [List.take_of_length_le (by omega)] at hpa
   refine h.slotsEq (by rw [hpa.n, hat.n]) (by rw [hpa.boxes, hat.boxes]) fun s => ?_
   by_cases hs : ∀ (i d : Nat) (y : AV), vs[i]? = some (d, y) -> d ≠ s
   ·rw [hpa.rest s hs, hat.rest s hs]
   ·have : ∃ (i : Nat) (y : AV), vs[i]? = some (s, y) := by
     apply Classical.byContradiction
     intro hcon
     exact hs fun i d y hi hds => hcon ⟨i, y, by rw [<- hds]; exact hi⟩
    obtain ⟨i, y, hi⟩ := this
    have hil : i < m := by rw [<- hvl]; exact (List.getElem?_eq_some_iff.1 hi).1
    rw [hpa.dst i s y hi, hat.dst i s y hi]
    simp [hil, hall i (by omega)]
  exact tail_run (P := P) hp h0 hQ 0 m listed [] (puts σ vs) G a w hl rfl (Nat.le_refl m) (fun i hi => by simp [hall i hi]; omega) hp.le hc hK heq
 | succ fuel ih =>
  intro listed U τ G a w hl hU hm hc hat h hfr
  have hUn : U ≠ [] := by intro h; rw [h] at hU; simp at hU
  by_cases hdone : ∀ i, i < m -> listed.getD i false = true
  ·have heq : SRel G0 w0 (puts σ vs) G a w := by
    have hpa := puts_at m vs σ hap
    rw [List.take_of_length_le (by omega)] at hpa
    refine h.slotsEq (by rw [hpa.n, hat.n]) (by rw [hpa.boxes, hat.boxes]) fun s => ?_
    by_cases hs : ∀ (i d : Nat) (y : AV), vs[i]? = some (d, y) -> d ≠ s
    ·rw [hpa.rest s hs, hat.rest s hs]
    ·have : ∃ (i : Nat) (y : AV), vs[i]? = some (s, y) := by
      apply Classical.byContradiction
      intro hcon
      exact hs fun i d y hi hds => hcon ⟨i, y, by rw [<- hds]; exact hi⟩
     obtain ⟨i, y, hi⟩ := this
     have hil : i < m := by rw [<- hvl]; exact (List.getElem?_eq_some_iff.1 hi).1
     rw [hpa.dst i s y hi, hat.dst i s y hi]
     simp [hil, hdone i hil]
   refine tail_run (P := P) hp h0 hQ (fuel + 1) m listed U (puts σ vs) G a w hl hU (Nat.le_refl m) (fun i hi => ⟨fun hb => ?_, fun hlt => hdone i hlt⟩) hp.le hc hK heq
   apply Classical.byContradiction
   intro hge
   rw [hm i (by omega)] at hb; cases hb
  ·refine ⟨fun hr => absurd hr (some_ready hl hp.lt hUn), fun i hi => ?_⟩
   obtain ⟨o, ho, h1, h2⟩ := (ready_iff hl.size).1 hi
   have hlt := (Array.getElem?_eq_some_iff.1 ho).1
   have him : i < m := by
    apply Classical.byContradiction
    intro hge
    exact hdone fun j hj => reach_listed hc ops.size i j o ho h2 (hp.tail i o ho (by omega) j (by omega))
   obtain ⟨d, y, hv, hd, hdn, hstep⟩ := hst i o him ho
   obtain ⟨d', hd', hself, hpair⟩ := hp.head i o ho him
   rw [hd] at hd'; cases hd'
   have hmem : i ∈ U := (hl.mem i).2 ⟨hlt, h1⟩
   obtain ⟨l1, l2⟩ := hl.step hmem
   have hsz : i < listed.size := by rw [hl.size]; exact hlt
   have hsame : ∀ s ∈ slotsG ops o, (puts σ (vs.take i)).get s = τ.get s := by
    intro s hsm
    have hpa := puts_at i vs σ hap
    by_cases hs : ∀ (i d : Nat) (y : AV), vs[i]? = some (d, y) -> d ≠ s
    ·rw [hpa.rest s hs, hat.rest s hs]
    ·have : ∃ (j : Nat) (y : AV), vs[j]? = some (s, y) := by
      apply Classical.byContradiction
      intro hcon
      exact hs fun i d y hi hds => hcon ⟨i, y, by rw [<- hds]; exact hi⟩
     obtain ⟨j, y', hj⟩ := this
     have hjl : j < m := by rw [<- hvl]; exact (List.getElem?_eq_some_iff.1 hj).1
     obtain ⟨p, hpj⟩ : ∃ p, ops[j]? = some p := ⟨ops[j]'(by have := hp.le; omega), by have := hp.le; simp [show j < ops.size by omega]⟩
     obtain ⟨d'', y'', hv'', hds'', _⟩ := hst j p hjl hpj
     rw [hj] at hv''; cases hv''
     have hji : j ≠ i := fun hji => by subst hji; rw [hv] at hj; cases hj; exact hself hsm
     have hre := (hpair j p s hjl hji hpj hds'').2 hsm
     rw [hpa.dst j s y' hj, hat.dst j s y' hj]
     by_cases hjlt : j < i
     ·rw [if_pos hjlt] at hre
      have := reach_listed hc ops.size i j o ho h2 hre
      simp [hjlt, this]
     ·rw [if_neg hjlt] at hre
      have hjf : listed.getD j false = false := by
       cases hb : listed.getD j false
       ·rfl
       ·have := reach_listed hc ops.size j i p hpj (fun k hk => hc j p hpj hb k hk) hre
        rw [h1] at this; cases this
      simp [hjlt, hjf]
   have hops : ∀ x ∈ o.op.operands, VRel G w ((puts σ (vs.take i)).ev x) (a.eval x) := by
    intro x hx
    have hrel := h.ev x
    suffices (puts σ (vs.take i)).ev x = τ.ev x by rw [this]; exact hrel
    cases x with
    | tmp s =>
     simp only [St.ev]
     refine hsame s (List.mem_append.2 (.inr ?_))
     unfold slotsOf
     exact List.mem_filterMap.2 ⟨.tmp s, by simpa using hx, rfl⟩
    | const v => rfl
    | func f => rfl
    | global g => rfl
   have hgo : ∀ {G' a' w'} (hs' : SRel G0 w0 (τ.put (some d) y) G' a' w') (g4 : NewTags d G G'), wpAny P .any ops Q fuel (listed.setIfInBounds i true) a' w' := by
    intro G' a' w' hs' g4
    refine ih _ _ _ G' _ _ l1 (by omega) (fun j hj => ?_) (hc.step hsz ho h2) (hat.step hap hv (fun j hj => ?_) ?_) hs' (fun j oj dj hoj hjm hdj hcr hjf => ?_)
    ·rw [set_getD hsz, if_neg (by omega)]; exact hm j hj
    ·simp only [set_getD hsz]; rw [if_neg (Ne.symm hj)]
    ·simp only [set_getD hsz]; simp
    ·rw [set_getD hsz] at hjf
     by_cases hij : i = j
     ·rw [if_pos hij] at hjf; cases hjf
     ·rw [if_neg hij] at hjf
      have hne := (hpair j oj dj hjm (Ne.symm hij) hoj hdj).1
      exact g4.fresh (Ne.symm hne) (hfr j oj dj hoj hjm hdj hcr hjf)
   have hrun : StepOk P o d (puts σ (vs.take i)).ev σ.boxes y -> o.wp P a w (wpAny P .any ops Q fuel (listed.setIfInBounds i true)) Q := fun hstep =>
    hstep _ G a w h.good (by rw [<- hat.boxes]; exact h.boxes) (fun hcr => hfr i o d ho him hd hcr h1) hops _ _ fun v w' G' g1 g2 g3 g4 =>
     hgo (by rw [hd]; exact h.add g2 g3 g4.boxes (by simp [dstOk, hat.n, hdn]) g1) g4
   simp only [Go.wpOp, ho]
   rcases hstep with ⟨hg, hstep⟩ | ⟨j, want, g, c, hg, hgs, hgv, hc2⟩ | ⟨j, want, g, vs', hg, hgs, hgv, rfl⟩
   ·rw [if_pos (by simp [Region.wanted, hg])]
    exact .inl (hrun hstep)
   ·have hgm : g ∈ slotsG ops o := by simp [slotsG, guardS, hg, hgs]
    have hv2 := h.slots g
    rw [<- hsame g hgm, hgv] at hv2
    have hy := yielded_bool hgs hv2.sc_inv
    rcases hc2 with ⟨rfl, hstep⟩ | ⟨hne, rfl⟩
    ·rw [if_pos (by simp [Region.wanted, hg, hy])]
     exact .inl (hrun hstep)
    ·rw [if_neg (by simp [Region.wanted, hg, hy, hne])]
     have hs' := h.add (.refl G w) h.good (fun _ _ h => h) (d := o.dst) (x := .sc undef) (v := undef) (by rw [hd]; simp [dstOk, hat.n, hdn]) (.froz (.sc _))
     refine hgo (G' := G) (by rw [hd] at hs' ⊢; exact hs') ⟨fun b t hb => .inl hb, fun b i hb => hb⟩
   ·have hgm : g ∈ slotsG ops o := by simp [slotsG, guardS, hg, hgs]
    have hv2 := h.slots g
    rw [<- hsame g hgm, hgv] at hv2
    have hy := yielded_none hgs hv2.sc_inv
    rw [if_neg (by simp [Region.wanted, hg, hy])]
    have hs' := h.add (.refl G w) h.good (fun _ _ h => h) (d := o.dst) (x := .sc undef) (v := undef) (by rw [hd]; simp [dstOk, hat.n, hdn]) (.froz (.sc _))
    exact hgo (G' := G) (by rw [hd] at hs' ⊢; exact hs') ⟨fun b t hb => .inl hb, fun b i hb => hb⟩
theorem DrawK.intro (m : Nat) (hm : P.follows .mixedOrders = true) (hok : drawOk ops m = true) (hfree : freeAll σ (creators ops m) = true) (h : headA P ops (ops.toList.take m) σ fun σ' => opsA P ops (ops.toList.drop m) σ' K) : DrawK P ops σ K := by
 intro G0 w0 G a w id Q h0 hs hQ
 have hp := drawOk_plan hok
 obtain ⟨vs, hvl, hK, hst⟩ := headA_vals _ _ _ h
 have hlen : (ops.toList.take m).length = m := by have := hp.le; simp; omega
 have hst' : ∀ i o, i < m -> ops[i]? = some o -> ∃ d y, vs[i]? = some (d, y) /\ o.dst = some d /\ d < σ.n /\ StepG P ops o d (puts σ (vs.take i)) σ.boxes y := fun i o hi ho => by
  refine hst i o ?_
  rw [List.getElem?_take, if_pos hi]
  simpa using ho
 have hap : Apart vs := by
  intro i j d y d' y' h1 h2 hij
  have hil : i < m := by have := (List.getElem?_eq_some_iff.1 h1).1; omega
  have hjl : j < m := by have := (List.getElem?_eq_some_iff.1 h2).1; omega
  have hle := hp.le
  obtain ⟨oi, hoi⟩ : ∃ p, ops[i]? = some p := ⟨ops[i]'(by omega), by simp [show i < ops.size by omega]⟩
  obtain ⟨oj, hoj⟩ : ∃ p, ops[j]? = some p := ⟨ops[j]'(by omega), by simp [show j < ops.size by omega]⟩
  obtain ⟨_, _, k1, k2, _⟩ := hst' i oi hil hoi
  obtain ⟨_, _, k3, k4, _⟩ := hst' j oj hjl hoj
  rw [h1] at k1; cases k1
  rw [h2] at k3; cases k3
  obtain ⟨d1, e1, _, e2⟩ := hp.head j oj hoj hjl
  rw [k4] at e1; cases e1
  exact (e2 i oi d hil hij hoi k2).1
 refine wp_region_any hm ?_
 obtain ⟨G', g1, g2, _⟩ := (hs.drawn (w.drawn + 1)).freshAll h0 (creators ops m) G hfree
 have hgd : ∀ i, (Array.replicate ops.size false).getD i false = false := fun i => by
  by_cases hi : i < ops.size <;> simp [hi]
 refine head_run (P := P) hp h0 hQ (by omega) hap hK hst' ops.size (Array.replicate ops.size false) (List.range ops.size) σ G' a _ ⟨by simp, List.nodup_range, fun i => ?_⟩ (by simp) (fun i _ => hgd i) (fun i o _ hi => absurd (show (Array.replicate ops.size false).getD i false = true from hi) (by rw [hgd]; simp)) ⟨rfl, rfl, fun i d y _ => by simp only [hgd]; simp, fun _ _ => rfl⟩ g1 (fun i o d ho hi hd hcr _ => ?_)
 ·rw [List.mem_range, hgd]; simp
 ·refine g2 d ?_
  unfold creators
  refine List.mem_filterMap.2 ⟨o, ?_, by rw [if_pos hcr]; exact hd⟩
  refine List.mem_of_getElem? (i := i) ?_
  rw [List.getElem?_take, if_pos hi]; simpa using ho
end
end
section
variable {P : Program} {n : Nat} {t : List (Nat × AV)} {b : List (List AV)}
variable {d : Nat} {T : TypeId} {pos : String} {af : Array Edge} {g : Option (Nat × Bool)} {K : St -> Prop}
@[congr] theorem headOp_congr {o : Oper} {K : St -> Prop} {σ σ' : St} (h : mkd σ = σ') : headOp P o σ K = headOp P o σ' K := by subst_vars; rfl
@[congr] theorem CallY_congr {f : FuncId} {args args' : List AV} {d : Nat} {K : St -> Prop} {σ σ' : St} (h1 : mkd args = args') (h : σ = σ') : CallY P f args d σ K = CallY P f args' d σ' K := by subst_vars; rfl
@[go_sem] theorem knownB_bool {c want : Bool} : knownB want (.sc (.bool c)) = some c := rfl
@[go_sem] theorem knownB_undef {want : Bool} : knownB want (.sc undef) = some (!want) := rfl
@[go_sem] theorem headOp_move {x : Operand} : headOp P ⟨some d, .move x, T, pos, af, g⟩ ⟨n, t, b⟩ K = andK (d < n) (K (St.put ⟨n, t, b⟩ (some d) (typed P d T (St.ev ⟨n, t, b⟩ x)))) := rfl
@[go_sem] theorem headOp_assign {x : Operand} : headOp P ⟨some d, .assign x, T, pos, af, g⟩ ⟨n, t, b⟩ K = andK (d < n) (K (St.put ⟨n, t, b⟩ (some d) (typed P d T (St.ev ⟨n, t, b⟩ x)))) := rfl
@[go_sem] theorem headOp_pick {c x y : Operand} : headOp P ⟨some d, .pick c x y, T, pos, af, g⟩ ⟨n, t, b⟩ K = andK (d < n) (onBool (St.ev ⟨n, t, b⟩ c) fun v => both v (K (St.put ⟨n, t, b⟩ (some d) (St.ev ⟨n, t, b⟩ x))) (K (St.put ⟨n, t, b⟩ (some d) (St.ev ⟨n, t, b⟩ y)))) := by
 simp only [headOp, evOp, andK, onBool, both]
 cases St.ev ⟨n, t, b⟩ c <;> simp
 rename_i v; cases v <;> simp
 rename_i v; intro _; cases v <;> simp
@[go_sem] theorem headOp_load {T' : TypeId} {x : Operand} : headOp P ⟨some d, .load T' x, T, pos, af, g⟩ ⟨n, t, b⟩ K = andK (d < n) (evLoad P b T' (St.ev ⟨n, t, b⟩ x) fun r => K (St.put ⟨n, t, b⟩ (some d) r)) := by simp [headOp, evOp, andK]
@[go_sem] theorem headOp_nilCheck {x : Operand} : headOp P ⟨some d, .nilCheck x, T, pos, af, g⟩ ⟨n, t, b⟩ K = andK (d < n) (andK ((isPtr (St.ev ⟨n, t, b⟩ x) || isFn (St.ev ⟨n, t, b⟩ x)) = true) (K (St.put ⟨n, t, b⟩ (some d) (St.ev ⟨n, t, b⟩ x)))) := by simp [headOp, evOp, andK]
@[go_sem] theorem headOp_binOp {op : BinOp} {T' T'' : TypeId} {x y : Operand} : headOp P ⟨some d, .binOp op T' x y T'', T, pos, af, g⟩ ⟨n, t, b⟩ K = andK (d < n) (evBinOp P op T' (St.ev ⟨n, t, b⟩ x) (St.ev ⟨n, t, b⟩ y) fun r => K (St.put ⟨n, t, b⟩ (some d) r)) := by simp [headOp, evOp, andK]
@[go_sem] theorem headOp_unOp {op : UnOp} {T' : TypeId} {x : Operand} : headOp P ⟨some d, .unOp op T' x, T, pos, af, g⟩ ⟨n, t, b⟩ K = andK (d < n) (evUn op (St.ev ⟨n, t, b⟩ x) fun r => K (St.put ⟨n, t, b⟩ (some d) r)) := by simp [headOp, evOp, andK]
@[go_sem] theorem headOp_convert {T' T'' : TypeId} {x : Operand} : headOp P ⟨some d, .convert T' T'' x, T, pos, af, g⟩ ⟨n, t, b⟩ K = andK (d < n) (evConv P T' T'' (St.ev ⟨n, t, b⟩ x) fun r => K (St.put ⟨n, t, b⟩ (some d) r)) := by simp [headOp, evOp, andK]
@[go_sem] theorem headOp_slice {T' : TypeId} {x : Operand} {lo hi mx : Option Operand} : headOp P ⟨some d, .slice T' x lo hi mx, T, pos, af, g⟩ ⟨n, t, b⟩ K = andK (d < n) (evSlice P T' (St.ev ⟨n, t, b⟩ x) (lo.map (St.ev ⟨n, t, b⟩)) (hi.map (St.ev ⟨n, t, b⟩)) (mx.map (St.ev ⟨n, t, b⟩)) fun r => K (St.put ⟨n, t, b⟩ (some d) r)) := by simp [headOp, evOp, andK]
@[go_sem] theorem headOp_fieldAddr {T' : TypeId} {x : Operand} {f : Nat} : headOp P ⟨some d, .fieldAddr T' x f, T, pos, af, g⟩ ⟨n, t, b⟩ K = andK (d < n) (evFieldAddr P T' (St.ev ⟨n, t, b⟩ x) f fun r => K (St.put ⟨n, t, b⟩ (some d) r)) := by simp [headOp, evOp, andK]
@[go_sem] theorem headOp_indexAddr {T' : TypeId} {x i : Operand} : headOp P ⟨some d, .indexAddr T' x i, T, pos, af, g⟩ ⟨n, t, b⟩ K = andK (d < n) (evIndexAddr P T' (St.ev ⟨n, t, b⟩ x) (St.ev ⟨n, t, b⟩ i) fun r => K (St.put ⟨n, t, b⟩ (some d) r)) := by simp [headOp, evOp, andK]
@[go_sem] theorem headOp_extract {x : Operand} {i : Nat} : headOp P ⟨some d, .extract x i, T, pos, af, g⟩ ⟨n, t, b⟩ K = andK (d < n) (evExtract (St.ev ⟨n, t, b⟩ x) i fun r => K (St.put ⟨n, t, b⟩ (some d) r)) := by simp [headOp, evOp, andK]
@[go_sem] theorem headOp_build {T' : TypeId} {ps : List (Nat × Operand)} : headOp P ⟨some d, .build T' ps.toArray, T, pos, af, g⟩ ⟨n, t, b⟩ K = andK (d < n) (evBuild P T' (evParts ⟨n, t, b⟩ ps) fun r => K (St.put ⟨n, t, b⟩ (some d) r)) := by simp [headOp, evOp, andK, evParts_eq]
@[go_sem] theorem headOp_buildSlice {T' : TypeId} {len : Nat} {ps : List (Nat × Operand)} : headOp P ⟨some d, .buildSlice T' len ps.toArray, T, pos, af, g⟩ ⟨n, t, b⟩ K = andK (d < n) (evBuildSlice P d T' len (evParts ⟨n, t, b⟩ ps) fun r => K (St.put ⟨n, t, b⟩ (some d) r)) := by simp [headOp, evOp, andK, evParts_eq]
@[go_sem] theorem headOp_alloc {T' : TypeId} : headOp P ⟨some d, .alloc T', T, pos, af, g⟩ ⟨n, t, b⟩ K = andK (d < n) (caseO (tinfo P T') fun q => caseO q.2.2 fun z => andK (zeroOk q.1 z = true) (K (St.put ⟨n, t, b⟩ (some d) (.pe (64 * (d + 1)) q.1 [ofConst z] 0 0)))) := by
 simp [headOp, evOp, evAllocE, andK, caseO]
@[go_sem] theorem headOp_len {x : Operand} {T' : TypeId} : headOp P ⟨some d, .call ⟨.builtin .len, [x].toArray, [T'].toArray⟩, T, pos, af, g⟩ ⟨n, t, b⟩ K = andK (d < n) (evLenM P T' (St.ev ⟨n, t, b⟩ x) fun r => K (St.put ⟨n, t, b⟩ (some d) r)) := by simp [headOp, evOp, andK]
@[go_sem] theorem headOp_append {x y : Operand} {T' T'' : TypeId} : headOp P ⟨some d, .call ⟨.builtin .append, [x, y].toArray, [T', T''].toArray⟩, T, pos, af, g⟩ ⟨n, t, b⟩ K = andK (d < n) (evAppendX P d T' T'' (St.ev ⟨n, t, b⟩ x) (St.ev ⟨n, t, b⟩ y) fun r => K (St.put ⟨n, t, b⟩ (some d) r)) := by simp [headOp, evOp, andK]
@[go_sem] theorem headOp_call {f : FuncId} {args : List Operand} {As : Array TypeId} : headOp P ⟨some d, .call ⟨.value (.func f), args.toArray, As⟩, T, pos, af, g⟩ ⟨n, t, b⟩ K = andK (d < n) (CallY P f (evAll ⟨n, t, b⟩ args) d ⟨n, t, b⟩ K) := by simp [headOp, andK, St.ev, evAll_eq]
def crs : List Oper -> List Nat
 | [] => []
 | o :: r => if creates o.op = true then (match o.dst with | some d => d :: crs r | none => crs r) else crs r
theorem crs_eq : ∀ l : List Oper, crs l = l.filterMap fun o => if creates o.op = true then o.dst else none
 | [] => rfl
 | o :: r => by
  rw [crs, crs_eq r, List.filterMap_cons]
  split
  ·cases o.dst <;> rfl
  ·rfl
attribute [go_sem] crs creates needsFresh
def headT (P : Program) (ops : Array Oper) : Nat -> List Oper -> St -> (St -> Prop) -> Prop
 | 0, l, σ, K => opsA P ops l σ K
 | _ + 1, [], σ, K => K σ
 | m + 1, o :: l, σ, K => headG P ops o σ fun σ' => headT P ops m l σ' K
theorem headT_eq {ops : Array Oper} {K : St -> Prop} : ∀ (m : Nat) (l : List Oper) (σ : St), headT P ops m l σ K = headA P ops (l.take m) σ fun σ' => opsA P ops (l.drop m) σ' K
 | 0, l, σ => by cases l <;> rfl
 | _ + 1, [], σ => rfl
 | m + 1, o :: l, σ => by
  show (headG P ops o σ fun σ' => headT P ops m l σ' K) = headG P ops o σ fun σ' => headA P ops (l.take m) σ' fun σ' => opsA P ops (l.drop m) σ' K
  have : (fun σ' => headT P ops m l σ' K) = fun σ' => headA P ops (l.take m) σ' fun σ' => opsA P ops (l.drop m) σ' K := funext fun σ' => headT_eq m l σ'
  rw [this]
@[congr] theorem headT_congr {ops : Array Oper} {m : Nat} {l : List Oper} {K : St -> Prop} {σ σ' : St} (h : mkd σ = σ') : headT P ops m l σ K = headT P ops m l σ' K := by subst_vars; rfl
@[go_sem] theorem headT_zero {ops : Array Oper} {l : List Oper} {K : St -> Prop} : headT P ops 0 l ⟨n, t, b⟩ K = opsA P ops l ⟨n, t, b⟩ K := rfl
@[go_sem] theorem headT_succ {ops : Array Oper} {m : Nat} {dst : Option Tmp} {op : Op} {l : List Oper} {K : St -> Prop} : headT P ops (m + 1) (⟨dst, op, T, pos, af, none⟩ :: l) ⟨n, t, b⟩ K = headOp P ⟨dst, op, T, pos, af, none⟩ ⟨n, t, b⟩ fun σ' => headT P ops m l σ' K := rfl
@[go_sem] theorem headT_guard {ops : Array Oper} {m : Nat} {op : Op} {l : List Oper} {K : St -> Prop} {j : Nat} {want : Bool} : headT P ops (m + 1) (⟨some d, op, T, pos, af, some (j, want)⟩ :: l) ⟨n, t, b⟩ K = caseO (guardSlot ops j) fun g => caseO (knownB want (lookT t g)) fun c =>
  both (c == want) (headOp P ⟨some d, op, T, pos, af, some (j, want)⟩ ⟨n, t, b⟩ fun σ' => headT P ops m l σ' K) (andK (d < n) (headT P ops m l (St.put ⟨n, t, b⟩ (some d) (.sc undef)) K)) := by
 simp only [headT, headG, caseO, both, andK, St.get]
 apply propext
 constructor
 ·rintro ⟨g, c, h1, h2, h3, h4⟩
  refine ⟨g, h1, c, h2, h3, fun hc => ?_⟩
  obtain ⟨d', hd, h5, h6⟩ := h4 hc
  cases hd
  exact ⟨h5, h6⟩
 ·rintro ⟨g, h1, c, h2, h3, h4⟩
  exact ⟨g, c, h1, h2, h3, fun hc => ⟨d, rfl, (h4 hc).1, (h4 hc).2⟩⟩
theorem DrawK.walk {l : List Oper} {σ : St} (m : Nat) (hm : P.follows .mixedOrders = true) (hok : drawOk l.toArray m = true)
  (h : andK (freeAll σ (crs (l.take m)) = true) (headT P l.toArray m l σ K)) : DrawK P l.toArray σ K :=
 DrawK.intro m hm hok (by rw [crs_eq] at h; exact h.1) (by rw [headT_eq] at h; exact h.2)
theorem CallU.free {f : FuncId} {args args' : List AV} {post : AV -> List (List AV) -> Prop} {σ : St} (hcon : Con P f args' [] post) (hc : σ.free d = true /\ d < σ.n /\ dedup (pbss args) = [] /\ tagss args = []) (ha : mapTops viewLeaf args = args')
  (hk : ∀ r bx, post r bx -> r.allLeaf lt64 = true /\ K (σ.put (some d) (r.shift (64 * (d + 1))))) : CallU P f args d σ K := by
 unfold CallU
 rw [hc.2.2.1]
 refine .inl ⟨hc.1, hc.2.1, ?_⟩
 have : args.map AV.view = args' := by rw [<- ha, mapTops_eq]; rfl
 rw [this]
 exact hcon.mono fun r bx h => ⟨(hk r bx h).1, .free hc.2.2.2 (hk r bx h).2⟩
theorem CallU.flat {f : FuncId} {args args' : List AV} {post : AV -> List (List AV) -> Prop} {σ : St} (hcon : Con P f args' [] post) (hc : σ.free d = true /\ d < σ.n /\ dedup (pbss args) = []) (ha : mapTops viewLeaf args = args')
  (hk : ∀ r bx, post r bx -> r.allLeaf lt64 = true /\ r.allLeaf flatLeaf = true /\ K (σ.put (some d) (r.shift (64 * (d + 1))))) : CallU P f args d σ K := by
 unfold CallU
 rw [hc.2.2]
 refine .inl ⟨hc.1, hc.2.1, ?_⟩
 have : args.map AV.view = args' := by rw [<- ha, mapTops_eq]; rfl
 rw [this]
 exact hcon.mono fun r bx h => ⟨(hk r bx h).1, .flat (hk r bx h).2.1 (hk r bx h).2.2⟩
theorem CallU.freeze {f : FuncId} {args args' : List AV} {post : AV -> List (List AV) -> Prop} {σ : St} (hcon : Con P f args' [] post) (hc : σ.free d = true /\ d < σ.n /\ dedup (pbss args) = []) (ha : mapTops viewLeaf args = args')
  (hk : ∀ r bx, post r bx -> r.allLeaf lt64 = true /\ K ((σ.map (freezeLeaf fun t => (tagss args).contains t)).put (some d) (r.shift (64 * (d + 1))))) : CallU P f args d σ K := by
 unfold CallU
 rw [hc.2.2]
 refine .inl ⟨hc.1, hc.2.1, ?_⟩
 have : args.map AV.view = args' := by rw [<- ha, mapTops_eq]; rfl
 rw [this]
 exact hcon.mono fun r bx h => ⟨(hk r bx h).1, .freeze (hk r bx h).2⟩
theorem CallU.boxes {f : FuncId} {args args' : List AV} {i : Nat} {is : List Nat} {bx0 bx : List (List AV)} {post : AV -> List (List AV) -> Prop} {σ : St} (hcon : Con P f args' bx post) (hi : dedup (pbss args) = i :: is) (hb : getAll σ.boxes (i :: is) = some bx0)
  (hc : σ.free d = true /\ d < σ.n /\ allLeafs noTag args = true /\ nodupB (i :: is) = true /\ allNoTags bx0 = true) (ha : mapTops (pbIn (i :: is)) args = args') (hbx : mapB (pbIn (i :: is)) bx0 = bx)
  (hk : ∀ r bx', post r bx' -> r.allLeaf lt64b = true /\ allNoTags bx' = true /\ K (St.put ⟨σ.n, σ.tmps, setAll (i :: is) (mapB (outLeaf (64 * (d + 1)) (i :: is) σ.boxes.length) (bx'.take (i :: is).length)) σ.boxes ++ mapB (outLeaf (64 * (d + 1)) (i :: is) σ.boxes.length) (bx'.drop (i :: is).length)⟩ (some d) (r.mapTop (outLeaf (64 * (d + 1)) (i :: is) σ.boxes.length)))) : CallU P f args d σ K := by
 unfold CallU
 rw [hi]
 exact .inl ⟨hc.1, hc.2.1, hc.2.2.1, hc.2.2.2.1, bx0, hb, hc.2.2.2.2, by rw [ha, hbx]; exact hcon.mono hk⟩
theorem CallU.news {f : FuncId} {args args' : List AV} {bx0 bx : List (List AV)} {post : AV -> List (List AV) -> Prop} {σ : St} (hcon : Con P f args' bx post) (hi : dedup (pbss args) = []) (hb : getAll σ.boxes [] = some bx0)
  (hc : σ.free d = true /\ d < σ.n /\ allLeafs noTag args = true /\ nodupB [] = true /\ allNoTags bx0 = true) (ha : mapTops (pbIn []) args = args') (hbx : mapB (pbIn []) bx0 = bx)
  (hk : ∀ r bx', post r bx' -> r.allLeaf lt64b = true /\ allNoTags bx' = true /\ K (St.put ⟨σ.n, σ.tmps, setAll [] (mapB (outLeaf (64 * (d + 1)) [] σ.boxes.length) (bx'.take ([] : List Nat).length)) σ.boxes ++ mapB (outLeaf (64 * (d + 1)) [] σ.boxes.length) (bx'.drop ([] : List Nat).length)⟩ (some d) (r.mapTop (outLeaf (64 * (d + 1)) [] σ.boxes.length)))) : CallU P f args d σ K := by
 unfold CallU
 rw [hi]
 exact .inr (.inl ⟨hc.1, hc.2.1, hc.2.2.1, hc.2.2.2.1, bx0, hb, hc.2.2.2.2, by rw [ha, hbx]; exact hcon.mono hk⟩)
theorem CallU.back {f : FuncId} {args args' : List AV} {post : AV -> List AV -> Prop} {σ : St} (hcon : ConW P f args' post) (hc : σ.free d = true /\ d < σ.n /\ dedup (pbss args) = [] /\ allLeafs (pbLt 0) args = true /\ (tagss args).length < 60) (ha : mapTops (renLeaf (tagss args)) args = args')
  (hk : ∀ r ys, post r ys -> r.allLeaf lt64c = true /\ allLeafs lt64c ys = true /\ posG (giveOf args (mapTops (shiftLeaf (64 * (d + 1))) ys)) = true /\
   K ((σ.map (giveLeaf (tagss args) (giveOf args (mapTops (shiftLeaf (64 * (d + 1))) ys)))).put (some d) (r.shift (64 * (d + 1))))) : CallU P f args d σ K := by
 unfold CallU
 rw [hc.2.2.1]
 exact .inr (.inr (.inr (.inl ⟨hc.1, hc.2.1, hc.2.2.2.1, hc.2.2.2.2, by rw [ha]; exact ⟨hcon.1, fun G w vs h1 h2 h3 => (hcon.2 G w vs h1 h2 h3).mono fun e w' ⟨v, r, ys, G', he, hq, rest⟩ => ⟨v, r, ys, G', he, hk r ys hq, rest⟩⟩⟩)))
theorem CallU.sem {f : FuncId} {args : List AV} {σ : St} (hi : dedup (pbss args) = []) (h : CallS P f args d σ K) : CallU P f args d σ K := by
 unfold CallU
 rw [hi]
 exact .inr (.inr (.inr (.inr (.inr (.inr (.inr h))))))
theorem CallU.look {f : FuncId} {args args' : List AV} {post : AV -> List (List AV) -> Prop} {σ : St} (hcon : Con P f args' [] post) (hc : σ.free d = true /\ d < σ.n) (ha : mapTops (viewV σ.boxes) args = args')
  (hk : ∀ r bx, post r bx -> r.allLeaf lt64 = true /\ r.allLeaf flatLeaf = true /\ K (σ.put (some d) (r.shift (64 * (d + 1))))) : CallU P f args d σ K := by
 have h : CallV P f args d σ K := ⟨hc.1, hc.2, by rw [ha]; exact hcon.mono hk⟩
 unfold CallU
 split
 ·exact .inr (.inr (.inr (.inr (.inl h))))
 ·exact .inr (.inl h)
theorem CallU.own {f : FuncId} {args args' : List AV} {i : Nat} {is : List Nat} {bx0 bx : List (List AV)} {post : AV -> List (List AV) -> Prop} {σ : St} (hcon : ConX P f args' bx post) (hi : dedup (pbss args) = i :: is) (hb : getAll σ.boxes (i :: is) = some bx0) (ts : List Nat) (hts : tagss (args ++ catB bx0) = ts)
  (hc : σ.free d = true /\ d < σ.n /\ nodupB (i :: is) = true /\ allLeafs okX (args ++ catB bx0) = true /\ ts.length < 60) (ha : mapTops (inX ts (i :: is)) args = args') (hbx : mapB (inX ts (i :: is)) bx0 = bx)
  (hk : ∀ r bx', post r bx' -> r.allLeaf lt64b = true /\ allLeafs lt64b (catB bx') = true /\
   K (St.put ⟨σ.n, mapT (killS ts) σ.tmps, setAll (i :: is) (mapB (outLeaf (64 * (d + 1)) (i :: is) σ.boxes.length) (bx'.take (i :: is).length)) (mapB (killS ts) σ.boxes) ++ mapB (outLeaf (64 * (d + 1)) (i :: is) σ.boxes.length) (bx'.drop (i :: is).length)⟩ (some d) (r.mapTop (outLeaf (64 * (d + 1)) (i :: is) σ.boxes.length)))) : CallU P f args d σ K := by
 subst hts
 unfold CallU
 rw [hi]
 exact .inr (.inr (.inl ⟨hc.1, hc.2.1, hc.2.2.1, bx0, hb, hc.2.2.2.1, hc.2.2.2.2, by rw [ha, hbx]; exact hcon.mono hk⟩))
attribute [go_sem] inX okX capX capPbs
attribute [go_sem] viewV viewCap allFzV
attribute [go_sem] giveLeaf giveOf lookG posG
theorem CallY.mk {f : FuncId} {args args' : List AV} {r : AV} {σ : St} (hcon : Con P f args' [] fun r' _ => r' = r) (ha : mapTops viewLeaf args = args') (hr : r.allLeaf lt64 = true) (ht : tagss args = [] \/ r.allLeaf flatLeaf = true) (hk : K (σ.put (some d) (r.shift (64 * (d + 1))))) : CallY P f args d σ K := by
 have : args.map AV.view = args' := by rw [<- ha, mapTops_eq]; rfl
 exact ⟨r, by rw [this]; exact hcon, hr, ht, hk⟩
attribute [go_sem] pbIn outLeaf lt64b getAll setAll nodupB allNoTags pbss AV.pbs dedup freeAll
attribute [go_sem] List.take_zero List.drop_zero List.drop_succ_cons List.drop_nil List.contains_cons List.contains_nil List.nil_append List.cons_append List.set_cons_zero List.set_cons_succ List.map_map
@[go_sem] theorem evCopy_sl {P : Program} {T : TypeId} {d t t' : Nat} {xs ys : List AV} {σ : St} {K : St -> Prop} : evCopy P T d σ (.sl t 1 xs) (.sl t' 1 ys) K = onSlice (P.underlying T) fun E => caseO (tinfo P E) fun q => andK (q.1 = 1) (andK (2 <= t)
  (0 < xs.length /\ 0 < ys.length /\ leafAll ys = true /\ K ((σ.map (copyLeaf t 0 (ys.take (xs.length - 0)))).put (some d) (.sc (.int .i64 (min ys.length (xs.length - 0) : Nat)))))) := by
 unfold evCopy onSlice caseO andK
 simp only [copyDst]
 apply propext
 constructor
 ·rintro ⟨h1, ⟨E, q, h2, h3, h4⟩, h5, h6, h7, h8⟩
  exact ⟨E, h2, q, h3, h4, h1, h5, h6, h7, h8⟩
 ·rintro ⟨E, h2, q, h3, h4, h1, h5, h6, h7, h8⟩
  exact ⟨h1, ⟨E, q, h2, h3, h4⟩, h5, h6, h7, h8⟩
@[go_sem] theorem evCopy_tl {P : Program} {T : TypeId} {d t t' i : Nat} {xs ys : List AV} {σ : St} {K : St -> Prop} : evCopy P T d σ (.tl t 1 xs i) (.sl t' 1 ys) K = onSlice (P.underlying T) fun E => caseO (tinfo P E) fun q => andK (q.1 = 1) (andK (2 <= t)
  (i < xs.length /\ 0 < ys.length /\ leafAll ys = true /\ K ((σ.map (copyLeaf t i (ys.take (xs.length - i)))).put (some d) (.sc (.int .i64 (min ys.length (xs.length - i) : Nat)))))) := by
 unfold evCopy onSlice caseO andK
 simp only [copyDst]
 apply propext
 constructor
 ·rintro ⟨h1, ⟨E, q, h2, h3, h4⟩, h5, h6, h7, h8⟩
  exact ⟨E, h2, q, h3, h4, h1, h5, h6, h7, h8⟩
 ·rintro ⟨E, h2, q, h3, h4, h1, h5, h6, h7, h8⟩
  exact ⟨h1, ⟨E, q, h2, h3, h4⟩, h5, h6, h7, h8⟩
@[go_sem] theorem modify_one {α : Type} (x : α) (f : α -> α) : [x].modify 0 f = [f x] := rfl
attribute [go_sem] copyLeaf clrLeaf mvLeaf
end
end Go.AM
namespace Go.AM
open Go Go.RowKit Go.WideShapes Go.ChangeShapes
def oldG (w : World) (b : Nat) : Status := if b < w.heap.size then .stable else .junk
theorem oldG_lt {w : World} {b : Nat} (h : b < w.heap.size) : Stable (oldG w) b := by simp [Stable, oldG, h]
theorem oldG_tag (w : World) (b t : Nat) : oldG w b ≠ .tag t := by unfold oldG; split <;> simp
theorem oldG_box (w : World) (b t : Nat) : oldG w b ≠ .box t := by unfold oldG; split <;> simp
theorem oldG_good (w : World) : Good (oldG w) w := by
 refine ⟨fun b h => ?_, fun b b' t h => absurd h (oldG_tag w b t), fun b b' t h => absurd h (oldG_box w b t)⟩
 unfold oldG at h; split at h
 ·assumption
 ·exact absurd rfl h
theorem cell_old {w : World} {a : Addr} {v : Value} (h : w.cell? a = some v) : a.block < w.heap.size := by
 unfold World.cell? at h
 rcases Nat.lt_or_ge a.block w.heap.size with h' | h'
 ·exact h'
 ·rw [Array.getElem?_eq_none h'] at h; simp at h
section
variable {H : Type} {enc : TypeId × Value -> H} {P : Program} {w : World} {base : Nat} {spare : Nat -> Bool} {held : Bool}
def Stands (enc : TypeId × Value -> H) (P : Program) (w : World) (base : Nat) (spare : Nat -> Bool) (held : Bool) (e : TypeId) (f : DataW H -> AV) : Prop :=
 ∀ n v d ps, DataW.trod enc P w base spare held n e [v] = some (d, ps) -> FRel (Stable (oldG w)) w (f d) v /\ (f d).leafy = true /\ v.oneCell' = true
def avSl (f : DataW H -> AV) : DataW H -> AV
 | .slice xs _ => .sl 0 1 (xs.map f)
 | _ => .sl 0 1 []
def numI : DataW H -> Int
 | .lit (.int _ n) => n
 | _ => 0
def rowOf {α : Type} (f : DataW H -> α) : DataW H -> List α
 | .slice xs _ => xs.map f
 | _ => []
theorem avSl_row {α : Type} (g : α -> AV) (f : DataW H -> α) (d : DataW H) : avSl (fun x => g (f x)) d = .sl 0 1 ((rowOf f d).map g) := by
 cases d <;> simp [avSl, rowOf]
theorem flat_leafy {xs : List AV} (h : ∀ x ∈ xs, x.leafy = true) : flat xs = xs := by
 induction xs with
 | nil => rfl
 | cons x xs ih =>
  have hx := h x (by simp)
  have hc : x.cells = [x] := by cases x <;> first | rfl | (simp [AV.leafy] at hx)
  have := ih fun y hy => h y (by simp [hy])
  simp only [flat, List.flatMap_cons, hc] at this ⊢
  rw [this]; rfl
theorem stands_slice {t e : TypeId} {f : DataW H -> AV} (ht : P.underlying t = some (.slice e)) (hc : P.cellsOf e = 1) (hf : Stands enc P w base spare held e f) : Stands enc P w base spare held t (avSl f) := by
 intro n v d ps h
 rcases Go.Deep.open_slice1 ht hc h with ⟨h1, h2⟩ | ⟨a, len, cap, m, n', V, D, Pl, h1, _, hl, _, hm, h2, hel⟩
 ·simp only [List.cons.injEq, and_true] at h1
  simp only [Prod.mk.injEq] at h2
  obtain ⟨rfl, _⟩ := h2
  subst h1
  exact ⟨.slNil _ _ _ _ (by omega) (by simp) (by simp), rfl, rfl⟩
 ·simp only [List.cons.injEq, and_true] at h1
  simp only [Prod.mk.injEq] at h2
  obtain ⟨rfl, _⟩ := h2
  subst h1
  refine ⟨?_, rfl, rfl⟩
  have hlm : len <= m := by rw [hm]; split <;> omega
  simp only [avSl, List.map_map]
  rcases Nat.eq_zero_or_pos len with h0 | hp
  ·subst h0
   exact .slNil _ _ _ _ (by omega) (by simp) (by simp)
  ·obtain ⟨b, off, spot⟩ := a
   have hspot : spot = none := by simpa [Addr.add] using World.cell?_spot (hel 0 (by omega)).1
   subst hspot
   have hlen : ((List.range len).map (f ∘ D)).length = len := by simp
   have hone : ∀ i, i < len -> FRel (Stable (oldG w)) w (f (D i)) (V i) /\ (f (D i)).leafy = true /\ (V i).oneCell' = true := fun i hi => hf n' (V i) (D i) (Pl i) (hel i (by omega)).2
   have hleaf : ∀ x ∈ (List.range len).map (f ∘ D), x.leafy = true := by
    intro x hx
    obtain ⟨i, hi, rfl⟩ := List.mem_map.1 hx
    exact (hone i (List.mem_range.1 hi)).2.1
   have hb : b < w.heap.size := cell_old (a := (Addr.mk b off none).add 0) (hel 0 (by omega)).1
   have := FRel.sl (S := Stable (oldG w)) (w := w) 0 1 ((List.range len).map (f ∘ D)) b off cap ((List.range len).map V) (by omega) (oldG_lt hb) (by simp) (by rw [hlen]; exact hl)
    (fun x hx => by have h := hleaf x hx; cases x <;> first | rfl | (simp [AV.leafy] at h)) (by rw [flat_leafy hleaf]; simp)
    (fun u hu => by obtain ⟨i, hi, rfl⟩ := List.mem_map.1 hu; exact (hone i (List.mem_range.1 hi)).2.2)
    (fun j u hj => by
     have hjl : j < len := by have := (List.getElem?_eq_some_iff.1 hj).1; simpa using this
     simp only [List.getElem?_map, List.getElem?_range hjl, Option.map_some, Option.some.injEq] at hj
     subst hj
     have := (hel j (by omega)).1
     rwa [Go.WideShapes.add_plain] at this)
    (fun j x u hx hu => by
     rw [flat_leafy hleaf] at hx
     have hjl : j < len := by have := (List.getElem?_eq_some_iff.1 hx).1; simpa using this
     simp only [List.getElem?_map, List.getElem?_range hjl, Option.map_some, Option.some.injEq] at hx hu
     subst hx; subst hu
     exact (hone j hjl).1)
   rw [hlen] at this
   exact this
theorem Stands.arg {t : TypeId} {f : DataW H -> AV} {v : Value} {d : DataW H} {ps : List MemPlace} (hs : Stands enc P w base spare held t f) (h1 : v.cells.toList = [v]) (h : DataW.Trod enc P w base spare held t v d ps) : VRel (oldG w) w (f d) v := by
 obtain ⟨n, hn⟩ := h
 rw [h1] at hn
 exact .froz (hs n v d ps hn).1
theorem trodAll_stays (hl : laidOutB P = true) {W W' : World} {sp : Nat -> Bool} (hb : Go.RowKit.Below W.heap.size W W') : ∀ {ts : List TypeId} {vs : List Value} {ds : List (DataW H)} {ps : List MemPlace}, (∀ t ∈ ts, P.readableRec t = true /\ t < P.types.size) ->
  DataW.TrodAll enc P W 0 (fun _ => true) true ts vs ds ps -> (∀ p ∈ ps, p.block < W.heap.size) -> (∀ p ∈ ps, sp p.block = true) -> DataW.TrodAll enc P W' 0 sp true ts vs ds ps
 | [], vs, ds, ps, _, h, _, _ => by
  cases vs <;> cases ds <;> simp only [DataW.TrodAll] at h ⊢ <;> first | exact h | exact h.elim
 | t :: ts, vs, ds, ps, hr, h, h1, h2 => by
  cases vs with
  | nil => cases ds <;> simp only [DataW.TrodAll] at h
  | cons v vs =>
   cases ds with
   | nil => simp only [DataW.TrodAll] at h
   | cons d ds =>
    simp only [DataW.TrodAll] at h ⊢
    obtain ⟨p, q, hp, hq, rfl⟩ := h
    exact ⟨p, q, WideElems.Trod_stays hl (hr t (by simp)).1 (hr t (by simp)).2 hp (fun x hx => hb.same (h1 x (by simp [hx]))) (fun x hx => h2 x (by simp [hx])),
     trodAll_stays hl hb (fun t' ht' => hr t' (by simp [ht'])) hq (fun x hx => h1 x (by simp [hx])) (fun x hx => h2 x (by simp [hx])), rfl⟩
theorem law_post {f : Func} {s : ChangeSpec} {W W' : World} {args : Array Value} {ds gs : List (DataW H)} {before : List MemPlace} {tb : TypeId} (hl : laidOutB P = true) (hv : s.vars = []) (hr : f.resultTypes = #[tb]) (ht : P.underlying tb = some .bool)
  (hrec : ∀ t ∈ f.params.toList, P.readableRec t = true /\ t < P.types.size)
  (hW : DataW.Whole enc P f.params.toList s.vars false W args.toList ds gs before) (hs : s.fn H (ds ++ gs) = { results := [.lit (.bool true)], args := ds }) (hb : Go.RowKit.Below W.heap.size W W') :
  s.post enc P f false true false false W args (.bool true) W' := by
 have hW0 := hW
 have hlt : ∀ p ∈ before, p.block < W.heap.size := fun p hp => hW.lt p hp
 obtain ⟨p, q, hA, hV, rfl, hfz, hnd⟩ := hW
 have hV0 := hV
 rw [hv] at hV
 obtain ⟨hg, hq⟩ : gs = [] /\ q = [] := by
  cases gs <;> simp only [DataW.TrodVars] at hV
  exact ⟨rfl, hV⟩
 subst hg; subst hq
 have hargs : ∀ sp : Nat -> Bool, (∀ x ∈ p ++ [], sp x.block = true) -> DataW.TrodAll enc P W' 0 sp true f.params.toList args.toList (s.fn H (ds ++ [])).args p := fun sp h => by
  rw [hs]
  exact trodAll_stays hl hb hrec hA (fun x hx => hlt x (by simp [hx])) (fun x hx => h x (by simp [hx]))
 have hvars : ∀ sp : Nat -> Bool, DataW.TrodVars enc P W' sp s.vars (s.fn H (ds ++ [])).vars [] := fun sp => by rw [hs, hv]; simp only [DataW.TrodVars]
 have hres : ∀ (b : Nat) (sp : Nat -> Bool) (hd : Bool), DataW.TrodAll enc P W' b sp hd f.resultTypes.toList ((Value.bool true).resultList f.resultTypes.size) (s.fn H (ds ++ [])).results [] := fun b sp hd => by
  rw [hs, hr]
  exact trodAll_mk1 (shut_bool ht true)
 have hold : ∀ x ∈ p ++ [], (fun b => decide (b < W.heap.size)) x.block = true := fun x hx => by simpa using hlt x hx
 exact ⟨ds, [], p ++ [], [], p, [], hW0, hres _ _ _, hargs _ hold, hvars _, World.keptBut_mono (fun x hx => ⟨hx, .inr (.inl (by simpa using hx))⟩) (hb.frame (· ∈ p ++ [])), fun h => by cases h⟩
theorem Con.law {f : FuncId} {avs : List AV} {W : World} {args : Array Value} (hc : Con P f avs [] fun r _ => r = .sc (.bool true)) (hv : PW (VRel (oldG W) W) avs args.toList) {Q : Ending -> World -> Prop}
  (hQ : ∀ W', Go.RowKit.Below W.heap.size W W' -> Q (.returned (.bool true)) W') : Calls P f args W Q := by
 refine (hc.2 (oldG W) W args (oldG_good W) (oldG_tag W) (fun b i h => absurd h (oldG_box W b i)) ⟨fun i vs hv => by simp [noGh] at hv, fun i cs h => by simp at h⟩ hv).mono ?_
 rintro e w' ⟨v, r, bx', G', rfl, rfl, hr, _, _, _, e1, e2, e3, e4, _, e6⟩
 obtain rfl := hr.sc_inv
 exact hQ w' ⟨e1, e2, e3, e4, fun k hk => e6 k hk fun i h => oldG_box W k i h⟩
end
end Go.AM
namespace Go.AM
open Go.ChangeShapes Go.WideShapes Go.ChangeAt Go.RowKit
end Go.AM
