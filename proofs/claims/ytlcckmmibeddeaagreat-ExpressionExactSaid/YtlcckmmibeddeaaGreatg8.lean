/- AmW AmZ Am0 Am4 LInv CmA CmB0 LEx1 LEx2 LEx3 Ty LCand CmD CmE CmF CmG CmH CmI MxW1 MxW2 CmJ CmK CmL -/
import Derived.Test.YtlcckmmibeddeaaGreatg7
import Derived.Test.YtlcckmmibeddeaaGreatg5
import Derived.Shelf.Sort.Plain
import Derived.Shelf.Slices.CompactI
import Derived.Maps.Views
import Derived.Test.YtlcckmmibeddeaaGreatRows
import Derived.Test.YtlcckmmibeddeaaGreatProg
namespace Go.AM
open Go.RowKit
def EffC (P : Program) (σ0 : St) (i0 : Nat) (o : Oper) (d : Nat) (ρ : Operand -> AV) (c : List AV) (y : AV) (c' : List AV) : Prop :=
 o.guard = none /\ ∃ fid args As r c1, o.op = .call { callee := .value (.func fid), args := args, argTypes := As } /\ dedup (pbss (args.toList.map ρ)) = [i0] /\ allLeafs noTag (args.toList.map ρ) = true /\ allNoTags [c] = true /\
  Con P fid (mapTops (pbIn [i0]) (args.toList.map ρ)) (mapB (pbIn [i0]) [c]) (fun r' bx => r' = r /\ bx = [c1]) /\ r.allLeaf lt64b = true /\ allNoTags [c1] = true /\
  y = r.mapTop (outLeaf (64 * (d + 1)) [i0] σ0.boxes.length) /\ [c'] = mapB (outLeaf (64 * (d + 1)) [i0] σ0.boxes.length) [c1]
def blankC : List Nat -> List AV -> List AV
 | [], c => c
 | _ :: _, c => c.map fun _ => .any
section
variable {P : Program} {ops : Array Oper} {m : Nat} {vs : List (Nat × AV)} {E : List Nat} {C : Nat -> List AV} {i0 : Nat} {σ : St} {K : St -> Prop} {G0 : Orig} {w0 : World} {Q : Exit -> Act -> World -> Prop}
def sgA (P : Program) (ops : Array Oper) (sg : Option (Nat × Tr)) (σ : St) (K : St -> Prop) : Prop := match sg with
 | none => True
 | some (x, t) => match ops[x]? with
  | some o => ∃ d, o.dst = some d /\ treeA P ops t (σ.put (some d) .any) K
  | none => False
end
def EffK (P : Program) (n0 i0 : Nat) (o : Oper) (σ : St) (c : List AV) (K : St -> List AV -> Prop) : Prop :=
 ∃ d y c', o.dst = some d /\ d < σ.n /\ EffC P ⟨0, [], List.replicate n0 []⟩ i0 o d σ.ev c y c' /\ c'.length = c.length /\ allLeafs noTag c' = true /\ K (σ.put (some d) y) c'
def frB (P : Program) (o : Oper) (σ : St) (K : St -> Prop) : Prop := frA P (some o) σ K
section
variable {P : Program} {ops : Array Oper} {n0 i0 : Nat} {E LF : List Nat}
def freeBut (d : Nat) : List (Nat × AV) -> Bool
 | [] => true
 | (s, v) :: r => (s == d || v.allLeaf (freeLeaf d)) && freeBut d r
def freeOthers (l : List (Nat × AV)) : List Nat -> Bool
 | [] => true
 | d :: r => freeBut d l && freeOthers l r
end
def renO (π : List Nat) (o : Oper) : Oper := ⟨o.dst, o.op, o.type, o.pos, o.after.map fun e => ⟨π.idxOf e.on, e.ground⟩, o.guard.map fun p => (π.idxOf p.1, p.2)⟩
def permG (π : List Nat) (l : List Oper) : List Nat -> List Oper
 | [] => []
 | i :: r => match l[i]? with
  | some o => renO π o :: permG π l r
  | none => []
def headX (P : Program) (ops : Array Oper) (n0 i0 : Nat) (E LF ds : List Nat) (tr : Tr) (sg : Option (Nat × Tr)) : Nat -> Nat -> List Oper -> St -> List AV -> (St -> Prop) -> Prop
 | _, 0, _, σ, c, K => freeOthers σ.tmps ds = true /\ (treeA P ops tr { σ with boxes := σ.boxes.set i0 c } K /\ sgA P ops sg { σ with boxes := σ.boxes.set i0 c } K)
 | _, _ + 1, [], σ, c, K => freeOthers σ.tmps ds = true /\ (treeA P ops tr { σ with boxes := σ.boxes.set i0 c } K /\ sgA P ops sg { σ with boxes := σ.boxes.set i0 c } K)
 | k, m + 1, o :: r, σ, c, K => if E.contains k = true then EffK P n0 i0 o σ c fun σ' c' => headX P ops n0 i0 E LF ds tr sg (k + 1) m r σ' c' K else if LF.contains k = true then frB P o σ fun σ' => headX P ops n0 i0 E LF ds tr sg (k + 1) m r σ' c K else headG P ops o σ fun σ' => headX P ops n0 i0 E LF ds tr sg (k + 1) m r σ' c K
section
variable {P : Program} {n : Nat} {t : List (Nat × AV)} {b : List (List AV)} {ops : Array Oper} {n0 i0 k m : Nat} {E LF ds : List Nat} {tr : Tr} {sg : Option (Nat × Tr)} {l : List Oper} {c : List AV} {K : St -> Prop}
variable {d : Nat} {T : TypeId} {pos : String} {af : Array Edge} {g : Option (Nat × Bool)}
@[congr] theorem headX_congr {n0' k' : Nat} {σ σ' : St} {c' : List AV} (h0 : n0 = n0') (h1 : k = k') (h : mkd σ = σ') (h2 : c = c') : headX P ops n0 i0 E LF ds tr sg k m l σ c K = headX P ops n0' i0 E LF ds tr sg k' m l σ' c' K := by subst_vars; rfl
@[congr] theorem EffK_congr {n0' : Nat} {o : Oper} {σ σ' : St} {c' : List AV} {K : St -> List AV -> Prop} (h0 : n0 = n0') (h : mkd σ = σ') (h2 : c = c') : EffK P n0 i0 o σ c K = EffK P n0' i0 o σ' c' K := by subst_vars; rfl
@[congr] theorem frB_congr {o : Oper} {σ σ' : St} {K : St -> Prop} (h : mkd σ = σ') : frB P o σ K = frB P o σ' K := by subst_vars; rfl
@[go_sem] theorem frB_eq {o : Oper} : frB P o ⟨n, t, b⟩ K = frA P (some o) ⟨n, t, b⟩ K := rfl
@[go_sem] theorem headX_zero : headX P ops n0 i0 E LF ds tr sg k 0 l ⟨n, t, b⟩ c K = andK (freeOthers t ds = true) (andK (treeA P ops tr ⟨n, t, b.set i0 c⟩ K) (sgA P ops sg ⟨n, t, b.set i0 c⟩ K)) := by cases l <;> rfl
@[go_sem] theorem headX_nil : headX P ops n0 i0 E LF ds tr sg k (m + 1) [] ⟨n, t, b⟩ c K = andK (freeOthers t ds = true) (andK (treeA P ops tr ⟨n, t, b.set i0 c⟩ K) (sgA P ops sg ⟨n, t, b.set i0 c⟩ K)) := rfl
@[go_sem] theorem headX_succ {dst : Option Tmp} {op : Op} : headX P ops n0 i0 E LF ds tr sg k (m + 1) (⟨dst, op, T, pos, af, none⟩ :: l) ⟨n, t, b⟩ c K = selK (E.contains k) (EffK P n0 i0 ⟨dst, op, T, pos, af, none⟩ ⟨n, t, b⟩ c fun σ' c' => headX P ops n0 i0 E LF ds tr sg (k + 1) m l σ' c' K)
  (selK (LF.contains k) (frB P ⟨dst, op, T, pos, af, none⟩ ⟨n, t, b⟩ fun σ' => headX P ops n0 i0 E LF ds tr sg (k + 1) m l σ' c K) (headOp P ⟨dst, op, T, pos, af, none⟩ ⟨n, t, b⟩ fun σ' => headX P ops n0 i0 E LF ds tr sg (k + 1) m l σ' c K)) := by rw [selK_ite, selK_ite]; rfl
def sgD (P : Program) (ops : Array Oper) (o : Option Oper) (tr : Tr) (σ : St) (K : St -> Prop) : Prop := match o with
 | some ⟨some d, _, _, _, _, _⟩ => treeA P ops tr (σ.put (some d) .any) K
 | _ => False
@[congr] theorem sgA_congr {σ σ' : St} (h : mkd σ = σ') : sgA P ops sg σ K = sgA P ops sg σ' K := by subst_vars; rfl
@[congr] theorem sgD_congr {o o' : Option Oper} {σ σ' : St} (h1 : o = o') (h : mkd σ = σ') : sgD P ops o tr σ K = sgD P ops o' tr σ' K := by subst_vars; rfl
@[go_sem] theorem sgA_none : sgA P ops none ⟨n, t, b⟩ K = True := rfl
@[go_sem] theorem sgD_some {op : Op} : sgD P ops (some ⟨some d, op, T, pos, af, g⟩) tr ⟨n, t, b⟩ K = treeA P ops tr (St.put ⟨n, t, b⟩ (some d) .any) K := rfl
def consO (o : Option Oper) (r : List Oper) : List Oper := match o with
 | some o => o :: r
 | none => []
@[go_sem] theorem consO_some {o : Oper} {r : List Oper} : consO (some o) r = o :: r := rfl
@[go_sem] theorem permG_nil {π : List Nat} : permG π l [] = [] := rfl
@[go_sem] theorem renO_mk {π : List Nat} {dst : Option Tmp} {op : Op} : renO π ⟨dst, op, T, pos, af, none⟩ = ⟨dst, op, T, pos, af.map fun e => ⟨π.idxOf e.on, e.ground⟩, none⟩ := rfl
attribute [go_sem] freeOthers freeBut blankC
end
end Go.AM

namespace Go.AM
open Go Go.Proofs Go.RowKit
theorem wrap_in {n : Int} (h1 : -9223372036854775808 <= n) (h2 : n <= 9223372036854775807) : IntKind.i64.wrap n = n := by rw [IntKind.wrap_i64]; omega
def vi (x : Int) : AV := .sc (.int .i64 x)
def vu (x : Int) : AV := .sc (.int .u8 x)
def vs (t : Nat) (l : List Int) : AV := .sl t 1 (l.map vi)
theorem getv {l : List Int} {i : Nat} (h : i < l.length) : (l.map vi)[i]? = some (.sc (.int .i64 l[i]!)) := by simp [vi, h]
def findI {α : Type} (p : α -> Bool) (l : List α) : Int := match l.findIdx? p with | some i => i | none => -1
theorem findI_stop {α : Type} [Inhabited α] {p : α -> Bool} {l : List α} {i : Nat} (h : i < l.length) (hb : ∀ j, j < i -> p l[j]! = false) (hp : p l[i]! = true) : findI p l = i := by
 have : l.findIdx? p = some i := by
  rw [List.findIdx?_eq_some_iff_getElem]
  refine ⟨h, by simpa [h] using hp, fun j hj => ?_⟩
  have := hb j hj
  have hjl : j < l.length := by omega
  simpa [hjl] using this
 simp [findI, this]
theorem findI_none {α : Type} [Inhabited α] {p : α -> Bool} {l : List α} (hb : ∀ j, j < l.length -> p l[j]! = false) : findI p l = -1 := by
 have : l.findIdx? p = none := by
  rw [List.findIdx?_eq_none_iff]
  intro x hx
  obtain ⟨j, hj⟩ := List.getElem?_of_mem hx
  have hjl := (List.getElem?_eq_some_iff.1 hj).1
  have := hb j hjl
  have e : l[j]! = x := by simp [hj]
  rw [e] at this; exact this
 simp [findI, this]
theorem findI_ge {α : Type} (p : α -> Bool) (l : List α) : decide (0 <= findI p l) = l.any p := by
 unfold findI
 cases h : l.findIdx? p with
 | none =>
  rw [List.findIdx?_eq_none_iff] at h
  have : l.any p = false := by simpa using h
  simp [this]
 | some i =>
  rw [List.findIdx?_eq_some_iff_getElem] at h
  obtain ⟨h1, h2, _⟩ := h
  have : l.any p = true := List.any_eq_true.2 ⟨l[i], List.getElem_mem _, h2⟩
  simp [this]
theorem mem_bang {α : Type} [Inhabited α] {l : List α} {i : Nat} (h : i < l.length) : l[i]! ∈ l := by rw [getElem!_pos l i h]; exact List.getElem_mem _
def vb (b : Bool) : AV := .sc (.bool b)
attribute [go_sem] vi vu vs vb
def vbl (t : Nat) (row : List Bool) : AV := .sl t 1 (row.map vb)
def Sub (x y : AV) : Prop := ∀ (S : Nat -> Prop) (w : World) (v : Value), FRel S w x v -> FRel S w y v
theorem Sub.nil (es : Nat) : Sub .nil (.sl 0 es []) := fun S w v h => by
 cases h; exact .slNil 0 es none 0 (by omega) (fun h => by omega) (fun _ => rfl)
theorem DrawK.freeze {P : Program} {ops : Array Oper} {σ : St} {K : St -> Prop} (p : Nat -> Bool) (h : DrawK P ops (σ.map (freezeLeaf p)) K) : DrawK P ops σ K :=
 fun G0 w0 _G a w id Q h0 hs hK => h G0 w0 _ a w id Q h0 (hs.freeze h0 p) hK
theorem Con.freezeR {P : Program} {f : FuncId} {args : List AV} {post : AV -> Prop} (p : Nat -> Bool) (h : Con P f args [] fun r _ => post r) : Con P f args [] fun r' _ => ∃ r, post r /\ r' = r.freeze p :=
 ⟨h.1, fun G w vs h1 h2 h3 h4 h5 => (h.2 G w vs h1 h2 h3 h4 h5).mono fun e w' ⟨v, r, bx', G', he, hq, hr, hg, hbx, hlt, e1, e2, e3, e4, e5, e6⟩ => by
  have hbox : ∀ k i, freezeG p G' k = .box i ↔ G' k = .box i := fun k i => by
   unfold freezeG; split
   ·rename_i t ht; split <;> simp [ht]
   ·exact Iff.rfl
  refine ⟨v, _, bx'.map (fun cs => cs.map (AV.freeze p)), freezeG p G', he, ⟨r, hq, rfl⟩, hr.freeze, hg.freeze, ⟨fun i vs hv => by simp [noGh] at hv, fun i cs hi => ?_⟩, fun k i hk => by simpa using hlt k i ((hbox k i).1 hk), e1, e2, e3, e4, fun k hk => ?_, e6⟩
  ·rw [List.getElem?_map] at hi
   cases hc : bx'[i]? with
   | none => simp [hc] at hi
   | some cs' =>
    simp [hc] at hi; subst hi
    exact (hbx.cell i cs' hc).map (fun x v hr => hr.freeze) (fun k hk => ⟨(hbox k i).2 hk, rfl⟩) fun h0 k hk => h0 k ((hbox k i).1 hk)
  ·have := e5 k hk
   unfold freezeG
   split
   ·rename_i t ht; rw [this] at ht; exact absurd ht (h2 k t)
   ·exact this⟩
attribute [go_sem] vbl
inductive CV where
 | mk (n : Int) (kids : List CV)
 deriving Inhabited
def CV.n : CV -> Int
 | .mk n _ => n
def CV.kids : CV -> List CV
 | .mk _ k => k
mutual
def vV : CV -> AV
 | .mk n kids => .ag [vi n, .sl 0 2 (vVs kids)]
def vVs : List CV -> List AV
 | [] => []
 | x :: l => vV x :: vVs l
end
def ordI (a b : Int) : Int := if a < b then -1 else if b < a then 1 else 0
theorem ordI_zero {a b : Int} : ordI a b = 0 ↔ a = b := by unfold ordI; split <;> (try split) <;> omega
inductive CV.Ok : CV -> Prop
 | mk (n : Int) (k : List CV) : k.length <= 9223372036854775807 -> (∀ x ∈ k, CV.Ok x) -> CV.Ok (.mk n k)
def orF (l : List Int) : Int := (l.find? (· != 0)).getD 0
theorem Sub.slE {t es : Nat} {xs ys : List AV} (hl : xs.length = ys.length) (hy : ∀ y ∈ ys, y.cells.length = es) (h : PW Sub (flat xs) (flat ys)) : Sub (.sl t es xs) (.sl t es ys) := fun S w v hv => by
 cases hv with
 | slNil _ _ a c h1 h2 h3 =>
  have : ys = [] := List.eq_nil_of_length_eq_zero (by simpa using hl.symm)
  subst this; exact .slNil t es a c h1 h2 h3
 | sl _ _ _ b off c vals h1 h2 h3 hc h4 h5 h0 h6 h7 =>
  rw [hl]
  refine .sl t es ys b off c vals h1 h2 (fun e => by rw [h3 e, hl]) (by omega) hy (by rw [<- h.1]; exact h5) h0 h6 fun j y u hj hu => ?_
  have hjl : j < (flat xs).length := by rw [h.1]; exact (List.getElem?_eq_some_iff.1 hj).1
  exact h.2 j _ y (List.getElem?_eq_getElem hjl) hj S w u (h7 j _ u (List.getElem?_eq_getElem hjl) hu)
theorem leV_slE {t es : Nat} {xs ys : List AV} (hl : xs.length = ys.length) (hy : ∀ y ∈ ys, y.cells.length = es) (h : PW Sub (flat xs) (flat ys)) : leV (.sl t es xs) (.sl t es ys) := leV_sem fun G w v hv => by
 cases hv with
 | froz h' => exact .froz (Sub.slE hl hy h _ _ _ h')
 | own _ _ _ _ e vals h1 h2 h3 h4 h0 h5 =>
  refine .own t es ys v e vals h1 (by rw [<- hl]; exact h2) h3 hy h0 ⟨by rw [<- h.1]; exact h5.1, fun j y u hj hu => ?_⟩
  have hjl : j < (flat xs).length := by rw [h.1]; exact (List.getElem?_eq_some_iff.1 hj).1
  exact h.2 j _ y (List.getElem?_eq_getElem hjl) hj _ _ u (h5.2 j _ u (List.getElem?_eq_getElem hjl) hu)
end Go.AM
namespace Go.AM
structure RD where
 name : ByteArray
 src : Int
 dst : Int
 need : List Int
 give : List Int
 move : List Int
 channel : Int := 0
 act : Int := 0
 letter : Int := 0
 path : List Int := []
 next : List Int := []
 takes : List (Int × Int × Int) := []
 makes : List Int := []
 second : Int := 0
 deriving Inhabited
structure AtomD where
 coefs : List Int
 mod : Int
 values : List Int
 deriving Inhabited
end Go.AM
namespace Go.AM
open Go Go.Proofs Go.RowKit
def vStr (s : ByteArray) : AV := .sc (.string s)
def vss (l : List ByteArray) : AV := .sl 0 1 (l.map vStr)
def vTake (t : Int × Int × Int) : AV := .ag [vi t.1, vi t.2.1, vi t.2.2]
def vRule (r : RD) : AV := .ag [vStr r.name, vi r.src, vi r.dst, vs 0 r.need, vs 0 r.give, vs 0 r.move, vi r.channel, vi r.act, vi r.letter, vs 0 r.path, vs 0 r.next, .sl 0 3 (r.takes.map vTake), vs 0 r.makes, vi r.second]
structure MD where
 kind : Int
 states : List ByteArray
 places : List ByteArray
 letters : List ByteArray := []
 ranks : List Int := []
 levels : Int := 0
 age : Int := 0
 rules : List RD
 start : CV
 deriving Inhabited
def cM (m : MD) : List AV := [vi m.kind, vss m.states, vss m.places, vss m.letters, vs 0 m.ranks, vi m.levels, vi m.age, .sl 0 14 (m.rules.map vRule), vi m.start.n, .sl 0 2 (m.start.kids.map vV)]
def vM (m : MD) : AV := .ag (cM m)
end Go.AM
namespace Go.Proofs.YtlcckmmibeddeaaGreat
open Go.ChangeShapes Go.WideShapes Go.ChangeAt Go.RowKit Go.AM
theorem own : ownKnob Tryz.prog.godebug = none := by kernel_rfl
theorem laidOut : laidOutB Tryz.prog = true := by kernel_rfl
section
variable {H : Type} {enc : TypeId × Value -> H} {P : Program} {w : World} {base : Nat} {spare : Nat -> Bool} {held : Bool}
end
end Go.Proofs.YtlcckmmibeddeaaGreat
namespace Go.AM
structure TmD where
 star : Bool
 ls : List Int
deriving DecidableEq, Inhabited
def ascI : List Int -> Bool
 | x :: y :: l => decide (x < y) && ascI (y :: l)
 | _ => true
structure TmD.Ok (t : TmD) : Prop where
 one : t.star = false -> ∃ x, t.ls = [x]
 asc : ascI t.ls = true
def OkP (p : List TmD) : Prop := ∀ t ∈ p, t.Ok
def memP : List TmD -> List Int -> Bool
 | _, [] => true
 | [], _ :: _ => false
 | u :: q, x :: w => if x ∈ u.ls then (if u.star then memP (u :: q) w else memP q w) else memP q (x :: w)
termination_by p w => p.length + w.length
def witT (t u : TmD) : Bool := if u.star then t.ls.all (fun x => decide (x ∈ u.ls)) else t.ls.isEmpty || (!t.star && t.ls.head? == u.ls.head?)
def leqP : List TmD -> List TmD -> Bool
 | [], _ => true
 | t :: p, [] => t.ls.isEmpty && leqP p []
 | t :: p, u :: q => if t.ls.isEmpty then leqP p (u :: q) else if !witT t u then leqP (t :: p) q else if u.star then leqP p (u :: q) else leqP p q
termination_by p q => p.length + q.length
theorem memP_nil (p : List TmD) : memP p [] = true := by unfold memP; cases p <;> rfl
theorem memP_none (x : Int) (w : List Int) : memP [] (x :: w) = false := by rw [memP]
theorem memP_cons (u : TmD) (q : List TmD) (x : Int) (w : List Int) : memP (u :: q) (x :: w) = if x ∈ u.ls then (if u.star then memP (u :: q) w else memP q w) else memP q (x :: w) := by rw [memP]
theorem memP_front : ∀ (n : Nat) (p : List TmD) (w : List Int), p.length + w.length <= n -> (∀ x, memP p (x :: w) = true -> memP p w = true) /\ ∀ u, memP p w = true -> memP (u :: p) w = true
 | 0, p, w, h => by
  have : p = [] := List.length_eq_zero_iff.1 (by omega)
  subst this
  have : w = [] := List.length_eq_zero_iff.1 (by simpa using h)
  subst this
  exact ⟨fun x _ => memP_nil _, fun u _ => memP_nil _⟩
 | n + 1, p, w, h => by
  have h1 : ∀ x, memP p (x :: w) = true -> memP p w = true := by
   intro x hx
   match p, h, hx with
   | [], _, hx => rw [memP_none] at hx; cases hx
   | u :: q, h, hx =>
    simp only [List.length_cons] at h
    rw [memP_cons] at hx
    split at hx
    ·split at hx
     ·exact hx
     ·exact (memP_front n q w (by omega)).2 u hx
    ·exact (memP_front n q w (by omega)).2 u ((memP_front n q w (by omega)).1 x hx)
  refine ⟨h1, fun u hp => ?_⟩
  match w, h, hp with
  | [], _, _ => exact memP_nil _
  | x :: w, h, hp =>
   simp only [List.length_cons] at h
   rw [memP_cons]
   have hd := (memP_front n p w (by omega)).1 x hp
   split
   ·split
    ·exact (memP_front n p w (by omega)).2 u hd
    ·exact hd
   ·exact hp
theorem memP_drop {p : List TmD} {x : Int} {w : List Int} (h : memP p (x :: w) = true) : memP p w = true := (memP_front _ p w (Nat.le_refl _)).1 x h
theorem memP_put {p : List TmD} (u : TmD) {w : List Int} (h : memP p w = true) : memP (u :: p) w = true := (memP_front _ p w (Nat.le_refl _)).2 u h
theorem memP_empty {t : TmD} (h : t.ls = []) (p : List TmD) : ∀ w, memP (t :: p) w = memP p w
 | [] => by rw [memP_nil, memP_nil]
 | x :: w => by rw [memP_cons, h, if_neg (by simp)]
theorem memP_in {t : TmD} {x : Int} (hx : x ∈ t.ls) (hs : t.star = true) (p : List TmD) (w : List Int) : memP (t :: p) (x :: w) = memP (t :: p) w := by
 rw [memP_cons, if_pos hx, if_pos hs]
theorem memP_one {t : TmD} {x : Int} (hx : x ∈ t.ls) (hs : t.star = false) (p : List TmD) (w : List Int) : memP (t :: p) (x :: w) = memP p w := by
 rw [memP_cons, if_pos hx, if_neg (by simp [hs])]
theorem memP_out {t : TmD} {x : Int} (hx : x ∉ t.ls) (p : List TmD) (w : List Int) : memP (t :: p) (x :: w) = memP p (x :: w) := by
 rw [memP_cons, if_neg hx]
theorem wit_star {t u : TmD} (h : u.star = true) : witT t u = true ↔ ∀ x ∈ t.ls, x ∈ u.ls := by
 unfold witT; rw [if_pos h, List.all_eq_true]
 constructor
 ·intro h x hx; exact of_decide_eq_true (h x hx)
 ·intro h x hx; exact decide_eq_true (h x hx)
theorem wit_one {t u : TmD} {y : Int} (h : u.star = false) (hu : u.ls = [y]) (ht : t.Ok) (hn : t.ls ≠ []) : witT t u = true ↔ t.star = false /\ t.ls = [y] := by
 unfold witT
 rw [if_neg (by simp [h]), hu]
 cases hl : t.ls with
 | nil => exact absurd hl hn
 | cons x l =>
  simp only [List.isEmpty_cons, Bool.false_or, Bool.and_eq_true, Bool.not_eq_true', List.head?_cons, beq_iff_eq, Option.some.injEq]
  constructor
  ·rintro ⟨h1, h2⟩
   obtain ⟨z, hz⟩ := ht.one h1
   rw [hl] at hz
   injection hz with e1 e2
   subst e2
   exact ⟨h1, by rw [h2]⟩
  ·rintro ⟨h1, h2⟩
   injection h2 with e1 e2
   exact ⟨h1, e1⟩
theorem leqP_nil (q : List TmD) : leqP [] q = true := by rw [leqP]
theorem leqP_none (t : TmD) (p : List TmD) : leqP (t :: p) [] = (t.ls.isEmpty && leqP p []) := by rw [leqP]
theorem leqP_cons (t u : TmD) (p q : List TmD) : leqP (t :: p) (u :: q) = if t.ls.isEmpty then leqP p (u :: q) else if !witT t u then leqP (t :: p) q else if u.star then leqP p (u :: q) else leqP p q := by rw [leqP]
theorem OkP.tail {t : TmD} {p : List TmD} (h : OkP (t :: p)) : OkP p := fun x hx => h x (by simp [hx])
theorem OkP.head {t : TmD} {p : List TmD} (h : OkP (t :: p)) : t.Ok := h t (by simp)
theorem nil_iff {l : List Int} : l.isEmpty = true ↔ l = [] := List.isEmpty_iff
theorem mem_absorb {t u : TmD} {p q : List TmD} (hw : ∀ x ∈ t.ls, x ∈ u.ls) (hs : u.star = true) (h : ∀ w, memP p w = true -> memP (u :: q) w = true) : ∀ w, memP (t :: p) w = true -> memP (u :: q) w = true
 | [], _ => memP_nil _
 | x :: w, hm => by
  by_cases hx : x ∈ t.ls
  ·rw [memP_in (hw x hx) hs]
   by_cases ht : t.star = true
   ·rw [memP_in hx ht] at hm
    exact mem_absorb hw hs h w hm
   ·rw [memP_one hx (by simpa using ht)] at hm
    exact h w hm
  ·rw [memP_out hx] at hm
   exact h _ hm
theorem leq_sound : ∀ (n : Nat) (p q : List TmD), p.length + q.length <= n -> OkP p -> OkP q -> leqP p q = true -> ∀ w, memP p w = true -> memP q w = true
 | _, [], q, _, _, _, _, w, hw => by
  cases w with
  | nil => exact memP_nil _
  | cons x w => rw [memP_none] at hw; cases hw
 | 0, _ :: _, _, h, _, _, _, _, _ => by simp only [List.length_cons] at h; omega
 | n + 1, t :: p, [], h, hp, hq, hl, w, hw => by
  rw [leqP_none, Bool.and_eq_true, nil_iff] at hl
  rw [memP_empty hl.1] at hw
  simp only [List.length_cons] at h
  exact leq_sound n p [] (by omega) hp.tail hq hl.2 w hw
 | n + 1, t :: p, u :: q, h, hp, hq, hl, w, hw => by
  simp only [List.length_cons] at h
  rw [leqP_cons] at hl
  by_cases h1 : t.ls = []
  ·rw [if_pos (nil_iff.2 h1)] at hl
   rw [memP_empty h1] at hw
   exact leq_sound n p (u :: q) (by simp only [List.length_cons]; omega) hp.tail hq hl w hw
  rw [if_neg (by simpa [nil_iff] using h1)] at hl
  cases h2 : witT t u with
  | false =>
   rw [h2, if_pos (show (!false) = true from rfl)] at hl
   exact memP_put u (leq_sound n (t :: p) q (by simp only [List.length_cons]; omega) hp hq.tail hl w hw)
  | true =>
   rw [h2, if_neg (by simp)] at hl
   by_cases h3 : u.star = true
   ·rw [if_pos h3] at hl
    exact mem_absorb ((wit_star h3).1 h2) h3 (leq_sound n p (u :: q) (by simp only [List.length_cons]; omega) hp.tail hq hl) w hw
   ·rw [if_neg h3] at hl
    have h3 : u.star = false := by simpa using h3
    obtain ⟨y, hy⟩ := hq.head.one h3
    obtain ⟨h4, h5⟩ := (wit_one h3 hy hp.head h1).1 h2
    have ih := leq_sound n p q (by omega) hp.tail hq.tail hl
    cases w with
    | nil => exact memP_nil _
    | cons x w =>
     by_cases hx : x = y
     ·subst hx
      rw [memP_one (by rw [h5]; simp) h4] at hw
      rw [memP_one (by rw [hy]; simp) h3]
      exact ih w hw
     ·rw [memP_out (by rw [h5]; simpa using hx)] at hw
      rw [memP_out (by rw [hy]; simpa using hx)]
      exact ih _ hw
theorem leq_witness : ∀ (n : Nat) (p q : List TmD), p.length + q.length <= n -> OkP p -> OkP q -> leqP p q = false -> ∃ w, memP p w = true /\ memP q w = false
 | _, [], q, _, _, _, h => by rw [leqP_nil] at h; cases h
 | 0, _ :: _, _, h, _, _, _ => by simp only [List.length_cons] at h; omega
 | n + 1, t :: p, [], h, hp, hq, hl => by
  simp only [List.length_cons] at h
  rw [leqP_none] at hl
  cases hls : t.ls with
  | nil =>
   rw [hls] at hl
   obtain ⟨w, h1, h2⟩ := leq_witness n p [] (by omega) hp.tail hq (by simpa using hl)
   exact ⟨w, by rw [memP_empty hls]; exact h1, h2⟩
  | cons x l =>
   refine ⟨[x], ?_, memP_none _ _⟩
   have hx : x ∈ t.ls := by rw [hls]; simp
   by_cases hs : t.star = true
   ·rw [memP_in hx hs, memP_nil]
   ·rw [memP_one hx (by simpa using hs), memP_nil]
 | n + 1, t :: p, u :: q, h, hp, hq, hl => by
  simp only [List.length_cons] at h
  rw [leqP_cons] at hl
  by_cases h1 : t.ls = []
  ·rw [if_pos (nil_iff.2 h1)] at hl
   obtain ⟨w, h2, h3⟩ := leq_witness n p (u :: q) (by simp only [List.length_cons]; omega) hp.tail hq hl
   exact ⟨w, by rw [memP_empty h1]; exact h2, h3⟩
  rw [if_neg (by simpa [nil_iff] using h1)] at hl
  cases h2 : witT t u with
  | false =>
   rw [h2, if_pos (show (!false) = true from rfl)] at hl
   obtain ⟨w, h3, h4⟩ := leq_witness n (t :: p) q (by simp only [List.length_cons]; omega) hp hq.tail hl
   by_cases hts : t.star = true
   ·-- any letter of the star goes in front, one that the other has not if there is one
    have key : ∀ x ∈ t.ls, (u.star = true -> x ∉ u.ls) -> ∃ w, memP (t :: p) w = true /\ memP (u :: q) w = false := by
     intro x hx hxu
     refine ⟨x :: w, by rw [memP_in hx hts]; exact h3, ?_⟩
     by_cases hxu2 : x ∈ u.ls
     ·have hus : u.star = false := by
       cases hb : u.star with
       | true => exact absurd hxu2 (hxu hb)
       | false => rfl
      rw [memP_one hxu2 hus]; exact h4
     ·rw [memP_out hxu2]
      cases hb : memP q (x :: w) with
      | true => rw [memP_drop hb] at h4; cases h4
      | false => rfl
    by_cases hus : u.star = true
    ·have : ¬ ∀ x ∈ t.ls, x ∈ u.ls := fun hh => by rw [(wit_star hus).2 hh] at h2; cases h2
     obtain ⟨x, hx⟩ := Classical.not_forall.1 this
     obtain ⟨hx1, hx2⟩ := Classical.not_imp.1 hx
     exact key x hx1 fun _ => hx2
    ·cases hls : t.ls with
     | nil => exact absurd hls h1
     | cons x l => exact key x (by rw [hls]; simp) fun h => absurd h hus
   ·have hts : t.star = false := by simpa using hts
    obtain ⟨x, hx⟩ := hp.head.one hts
    have hxm : x ∈ t.ls := by rw [hx]; simp
    have hxu : x ∉ u.ls := by
     intro hxu
     by_cases hus : u.star = true
     ·have : witT t u = true := (wit_star hus).2 (by rw [hx]; intro y hy; rw [List.mem_singleton] at hy; subst hy; exact hxu)
      rw [this] at h2; cases h2
     ·have hus : u.star = false := by simpa using hus
      obtain ⟨y, hy⟩ := hq.head.one hus
      rw [hy, List.mem_singleton] at hxu
      have : witT t u = true := (wit_one hus hy hp.head h1).2 ⟨hts, by rw [hx, hxu]⟩
      rw [this] at h2; cases h2
    have key : ∀ w, memP p w = true -> memP q (x :: w) = false -> ∃ w, memP (t :: p) w = true /\ memP (u :: q) w = false := fun w ha hb =>
     ⟨x :: w, by rw [memP_one hxm hts]; exact ha, by rw [memP_out hxu]; exact hb⟩
    cases w with
    | nil => rw [memP_nil] at h4; cases h4
    | cons z w =>
     by_cases hz : z = x
     ·subst hz
      rw [memP_one hxm hts] at h3
      exact key w h3 h4
     ·rw [memP_out (by rw [hx]; simpa using hz)] at h3
      refine key (z :: w) h3 ?_
      cases hb : memP q (x :: z :: w) with
      | true => rw [memP_drop hb] at h4; cases h4
      | false => rfl
  | true =>
   rw [h2, if_neg (by simp)] at hl
   by_cases h3 : u.star = true
   ·rw [if_pos h3] at hl
    obtain ⟨w, h4, h5⟩ := leq_witness n p (u :: q) (by simp only [List.length_cons]; omega) hp.tail hq hl
    exact ⟨w, memP_put t h4, h5⟩
   ·rw [if_neg h3] at hl
    have h3 : u.star = false := by simpa using h3
    obtain ⟨y, hy⟩ := hq.head.one h3
    obtain ⟨h4, h5⟩ := (wit_one h3 hy hp.head h1).1 h2
    obtain ⟨w, h6, h7⟩ := leq_witness n p q (by omega) hp.tail hq.tail hl
    exact ⟨y :: w, by rw [memP_one (by rw [h5]; simp) h4]; exact h6, by rw [memP_one (by rw [hy]; simp) h3]; exact h7⟩
theorem leq_iff {p q : List TmD} (hp : OkP p) (hq : OkP q) : leqP p q = true ↔ ∀ w, memP p w = true -> memP q w = true := by
 constructor
 ·exact leq_sound _ p q (Nat.le_refl _) hp hq
 ·intro h
  cases hl : leqP p q with
  | true => rfl
  | false =>
   obtain ⟨w, h1, h2⟩ := leq_witness _ p q (Nat.le_refl _) hp hq hl
   rw [h w h1] at h2; cases h2
theorem leq_trans {p q r : List TmD} (hp : OkP p) (hq : OkP q) (hr : OkP r) (h1 : leqP p q = true) (h2 : leqP q r = true) : leqP p r = true :=
 (leq_iff hp hr).2 fun w hw => (leq_iff hq hr).1 h2 w ((leq_iff hp hq).1 h1 w hw)
def adjT (t u : TmD) : Prop := ¬ (u.star = true /\ witT t u = true) /\ ¬ (t.star = true /\ witT u t = true)
def redP : List TmD -> Prop
 | [] => True
 | [t] => t.ls ≠ []
 | t :: u :: p => t.ls ≠ [] /\ adjT t u /\ redP (u :: p)
theorem redP.head {t : TmD} {p : List TmD} (h : redP (t :: p)) : t.ls ≠ [] := by
 cases p with
 | nil => exact h
 | cons u p => exact h.1
theorem redP.tail {t : TmD} {p : List TmD} (h : redP (t :: p)) : redP p := by
 cases p with
 | nil => trivial
 | cons u p => exact h.2.2
theorem red_init : ∀ {a : List TmD} {u : TmD}, redP (a ++ [u]) -> redP a
 | [], _, _ => trivial
 | [_], _, h => h.1
 | _ :: v :: a, _, h => ⟨h.1, h.2.1, red_init (a := v :: a) h.2.2⟩
theorem red_snoc : ∀ {a : List TmD} {u t : TmD}, redP (a ++ [u]) -> adjT u t -> t.ls ≠ [] -> redP (a ++ [u, t])
 | [], _, _, h, h1, h2 => ⟨h, h1, h2⟩
 | [_], _, _, h, h1, h2 => ⟨h.1, h.2.1, h.2.2, h1, h2⟩
 | _ :: x :: a, _, _, h, h1, h2 => ⟨h.1, h.2.1, red_snoc (a := x :: a) h.2.2 h1 h2⟩
theorem red_one {t : TmD} (h : t.ls ≠ []) : redP ([] ++ [t]) := h
theorem mem_congr {p q : List TmD} (h : ∀ w, memP p w = true -> memP q w = true) (t : TmD) : ∀ w, memP (t :: p) w = true -> memP (t :: q) w = true
 | [], _ => memP_nil _
 | x :: w, hm => by
  rw [memP_cons] at hm ⊢
  split at hm
  ·rename_i hx
   rw [if_pos hx]
   split at hm
   ·rename_i hs
    rw [if_pos hs]; exact mem_congr h t w hm
   ·rename_i hs
    rw [if_neg hs]; exact h w hm
  ·rename_i hx
   rw [if_neg hx]; exact h _ hm
def EqP (p q : List TmD) : Prop := ∀ w, memP p w = memP q w
theorem EqP.refl (p : List TmD) : EqP p p := fun _ => rfl
theorem EqP.symm {p q : List TmD} (h : EqP p q) : EqP q p := fun w => (h w).symm
theorem EqP.trans {p q r : List TmD} (h : EqP p q) (h' : EqP q r) : EqP p r := fun w => (h w).trans (h' w)
theorem eqP_of {p q : List TmD} (h1 : ∀ w, memP p w = true -> memP q w = true) (h2 : ∀ w, memP q w = true -> memP p w = true) : EqP p q := fun w => by
 rw [Bool.eq_iff_iff]; exact ⟨h1 w, h2 w⟩
theorem EqP.cons {p q : List TmD} (h : EqP p q) (t : TmD) : EqP (t :: p) (t :: q) :=
 eqP_of (mem_congr (fun w hw => by rw [<- h w]; exact hw) t) (mem_congr (fun w hw => by rw [h w]; exact hw) t)
theorem EqP.app {p q : List TmD} (h : EqP p q) : ∀ a : List TmD, EqP (a ++ p) (a ++ q)
 | [] => h
 | t :: a => (EqP.app h a).cons t
theorem eq_empty {t : TmD} (h : t.ls = []) (p : List TmD) : EqP (t :: p) p := memP_empty h p
theorem eq_next {t u : TmD} (hs : u.star = true) (hw : witT t u = true) (p : List TmD) : EqP (t :: u :: p) (u :: p) :=
 eqP_of (mem_absorb ((wit_star hs).1 hw) hs fun _ h => h) (fun _ h => memP_put t h)
theorem eq_prev {t u : TmD} (hs : u.star = true) (hw : witT t u = true) (p : List TmD) : EqP (u :: t :: p) (u :: p) := by
 have hin := (wit_star hs).1 hw
 refine eqP_of ?_ (mem_congr (fun _ h => memP_put t h) u)
 intro w
 induction w with
 | nil => intro _; exact memP_nil _
 | cons x w ih =>
  intro hm
  by_cases hx : x ∈ u.ls
  ·rw [memP_in hx hs] at hm ⊢; exact ih hm
  ·rw [memP_out hx] at hm ⊢
   rw [memP_out (fun h => hx (hin x h))] at hm
   exact hm
def idleP (p : List TmD) (i : Nat) : Bool :=
 p[i]!.ls.isEmpty || (decide (0 < i) && (p[i - 1]!.star && witT p[i]! p[i - 1]!)) || (decide (i + 1 < p.length) && (p[i + 1]!.star && witT p[i]! p[i + 1]!))
theorem idle_tail {t : TmD} {p : List TmD} {i : Nat} (h : idleP p i = true) : idleP (t :: p) (i + 1) = true := by
 unfold idleP at h ⊢
 simp only [Bool.or_eq_true, Bool.and_eq_true, decide_eq_true_eq] at h ⊢
 rcases h with (h | h) | h
 ·exact .inl (.inl h)
 ·obtain ⟨j, rfl⟩ : ∃ j, i = j + 1 := ⟨i - 1, by omega⟩
  exact .inl (.inr ⟨by omega, h.2⟩)
 ·exact .inr ⟨by simp only [List.length_cons]; omega, h.2⟩
theorem red_of : ∀ {p : List TmD}, (∀ i, i < p.length -> idleP p i = false) -> redP p
 | [], _ => trivial
 | [t], h => by
  have := h 0 (by simp)
  intro hn
  unfold idleP at this
  simp [hn] at this
 | t :: u :: p, h => by
  have h0 := h 0 (by simp)
  have h1 := h 1 (by simp)
  have ht : redP (u :: p) := red_of fun i hi => by
   cases hb : idleP (u :: p) i with
   | false => rfl
   | true => rw [<- h (i + 1) (by simp only [List.length_cons] at hi ⊢; omega)]; exact (idle_tail hb).symm
  refine ⟨fun hn => ?_, ⟨fun hn => ?_, fun hn => ?_⟩, ht⟩
  ·unfold idleP at h0; simp [hn] at h0
  ·unfold idleP at h0; simp [hn.1, hn.2] at h0
  ·unfold idleP at h1; simp [hn.1, hn.2] at h1
theorem idle_eq : ∀ {p : List TmD} {i : Nat}, i < p.length -> idleP p i = true -> EqP p (p.eraseIdx i)
 | [], _, h, _ => by simp at h
 | [t], 0, _, hi => by
  unfold idleP at hi
  simp at hi
  exact eq_empty hi []
 | [t], i + 1, h, _ => by simp at h
 | t :: u :: p, 0, _, hi => by
  unfold idleP at hi
  simp at hi
  rcases hi with hi | hi
  ·exact eq_empty hi _
  ·exact eq_next hi.1 hi.2 p
 | t :: u :: p, i + 1, h, hi => by
  have key : idleP (u :: p) i = true -> EqP (t :: u :: p) ((t :: u :: p).eraseIdx (i + 1)) := fun hk => by
   show EqP (t :: u :: p) (t :: (u :: p).eraseIdx i)
   exact (idle_eq (by simpa using h) hk).cons t
  unfold idleP at hi
  simp only [Bool.or_eq_true, Bool.and_eq_true, decide_eq_true_eq] at hi
  rcases hi with (hi | hi) | hi
  ·refine key ?_
   unfold idleP
   simp only [Bool.or_eq_true, Bool.and_eq_true, decide_eq_true_eq]
   exact .inl (.inl hi)
  ·cases i with
   | zero => exact eq_prev hi.2.1 hi.2.2 p
   | succ j =>
    refine key ?_
    unfold idleP
    simp only [Bool.or_eq_true, Bool.and_eq_true, decide_eq_true_eq]
    exact .inl (.inr ⟨by omega, hi.2⟩)
  ·refine key ?_
   unfold idleP
   simp only [Bool.or_eq_true, Bool.and_eq_true, decide_eq_true_eq]
   exact .inr ⟨by simpa using hi.1, hi.2⟩
def normN : Nat -> List TmD -> List TmD
 | 0, p => p
 | n + 1, p => match (List.range p.length).find? (idleP p) with
  | none => p
  | some i => normN n (p.eraseIdx i)
def normP (p : List TmD) : List TmD := normN p.length p
theorem okP_erase {p : List TmD} {i : Nat} (h : OkP p) : OkP (p.eraseIdx i) := fun t ht => h t (List.mem_of_mem_eraseIdx ht)
theorem normN_ok : ∀ (n : Nat) (p : List TmD), OkP p -> OkP (normN n p)
 | 0, _, h => h
 | n + 1, p, h => by
  rw [normN]
  split
  ·exact h
  ·exact normN_ok n _ (okP_erase h)
theorem normN_eq : ∀ (n : Nat) (p : List TmD), EqP p (normN n p)
 | 0, p => .refl p
 | n + 1, p => by
  rw [normN]
  split
  ·exact .refl p
  ·rename_i i hi
   have h1 := List.find?_some hi
   have h2 := List.mem_range.1 (List.mem_of_find?_eq_some hi)
   exact (idle_eq h2 h1).trans (normN_eq n _)
theorem normN_red : ∀ (n : Nat) (p : List TmD), p.length <= n -> redP (normN n p)
 | 0, p, h => by
  have : p = [] := List.length_eq_zero_iff.1 (by omega)
  subst this; trivial
 | n + 1, p, h => by
  rw [normN]
  split
  ·rename_i hn
   refine red_of fun i hi => ?_
   have := List.find?_eq_none.1 hn i (List.mem_range.2 hi)
   simpa using this
  ·rename_i i hi
   have h2 := List.mem_range.1 (List.mem_of_find?_eq_some hi)
   exact normN_red n _ (by rw [List.length_eraseIdx_of_lt h2]; omega)
theorem normN_len : ∀ (n : Nat) (p : List TmD), (normN n p).length <= p.length
 | 0, p => Nat.le_refl _
 | n + 1, p => by
  rw [normN]
  split
  ·exact Nat.le_refl _
  ·exact Nat.le_trans (normN_len n _) (List.length_eraseIdx_le _ _)
theorem normP_ok {p : List TmD} (h : OkP p) : OkP (normP p) := normN_ok _ p h
theorem normP_eq (p : List TmD) : EqP p (normP p) := normN_eq _ p
theorem normP_red (p : List TmD) : redP (normP p) := normN_red _ p (Nat.le_refl _)
theorem normP_len (p : List TmD) : (normP p).length <= p.length := normN_len _ p
theorem red_suffix : ∀ (n : Nat) (q : List TmD) (u : TmD) (s a : List TmD), q.length <= n -> q = a ++ s -> redP (u :: q) -> OkP (u :: q) -> leqP (u :: q) s = false
 | n, q, u, [], a, _, _, hr, _ => by
  rw [leqP_none]
  have := hr.head
  cases h : u.ls with
  | nil => exact absurd h this
  | cons x l => rfl
 | 0, q, u, v :: s, a, hn, hq, _, _ => by
  subst hq
  simp only [List.length_append, List.length_cons] at hn
  omega
 | n + 1, q, u, v :: s, a, hn, hq, hr, hok => by
  have hvq : v ∈ q := by rw [hq]; simp
  rw [leqP_cons, if_neg (by rw [nil_iff]; exact hr.head)]
  cases hw : witT u v with
  | false =>
   rw [if_pos (show (!false) = true from rfl)]
   exact red_suffix (n + 1) q u s (a ++ [v]) hn (by rw [hq]; simp) hr hok
  | true =>
   rw [if_neg (by simp)]
   by_cases hs : v.star = true
   ·rw [if_pos hs]
    cases a with
    | nil =>
     subst hq
     exact absurd ⟨hs, hw⟩ hr.2.1.1
    | cons c a =>
     subst hq
     simp only [List.cons_append, List.length_cons] at hn
     exact red_suffix n (a ++ v :: s) c (v :: s) a (by omega) rfl hr.tail hok.tail
   ·rw [if_neg hs]
    cases a with
    | nil =>
     subst hq
     simp only [List.nil_append, List.length_cons] at hn
     exact red_suffix n s v s [] (by omega) rfl hr.tail hok.tail
    | cons c a =>
     subst hq
     simp only [List.cons_append, List.length_cons] at hn
     exact red_suffix n (a ++ v :: s) c s (a ++ [v]) (by omega) (by simp) hr.tail hok.tail
termination_by n _q _u s => (n, s.length)
theorem asc_lt : ∀ {x : Int} {l : List Int}, ascI (x :: l) = true -> (∀ y ∈ l, x < y) /\ ascI l = true
 | x, [], _ => ⟨fun y hy => absurd hy (by simp), rfl⟩
 | x, z :: l, h => by
  rw [ascI, Bool.and_eq_true, decide_eq_true_eq] at h
  obtain ⟨a, b⟩ := asc_lt h.2
  refine ⟨fun y hy => ?_, h.2⟩
  rcases List.mem_cons.1 hy with rfl | hy
  ·exact h.1
  ·have := a y hy; omega
theorem asc_same : ∀ {a b : List Int}, ascI a = true -> ascI b = true -> (∀ x ∈ a, x ∈ b) -> (∀ x ∈ b, x ∈ a) -> a = b
 | [], [], _, _, _, _ => rfl
 | [], y :: b, _, _, _, h => by have := h y (by simp); cases this
 | x :: a, [], _, _, h, _ => by have := h x (by simp); cases this
 | x :: a, y :: b, ha, hb, h1, h2 => by
  obtain ⟨a1, a2⟩ := asc_lt ha
  obtain ⟨b1, b2⟩ := asc_lt hb
  have e : x = y := by
   rcases List.mem_cons.1 (h1 x (by simp)) with e | hx
   ·exact e
   ·rcases List.mem_cons.1 (h2 y (by simp)) with e | hy
    ·exact e.symm
    ·have := b1 x hx; have := a1 y hy; omega
  subst e
  have key : ∀ {c d : List Int}, (∀ y ∈ c, x < y) -> (∀ z ∈ x :: c, z ∈ x :: d) -> ∀ z ∈ c, z ∈ d := by
   intro c d hc hcd z hz
   rcases List.mem_cons.1 (hcd z (by simp [hz])) with e | h
   ·have := hc z hz; omega
   ·exact h
  rw [asc_same a2 b2 (key a1 h1) (key b1 h2)]
theorem wit_same {t u : TmD} (ht : t.Ok) (hu : u.Ok) (htn : t.ls ≠ []) (hun : u.ls ≠ []) (h1 : witT t u = true) (h2 : witT u t = true) : t = u := by
 cases hts : t.star with
 | true =>
  cases hus : u.star with
  | true =>
   have := asc_same ht.asc hu.asc ((wit_star hus).1 h1) ((wit_star hts).1 h2)
   cases t; cases u; simp_all
  | false =>
   obtain ⟨y, hy⟩ := hu.one hus
   have := ((wit_one hus hy ht htn).1 h1).1
   rw [hts] at this; cases this
 | false =>
  obtain ⟨y, hy⟩ := ht.one hts
  obtain ⟨h3, h4⟩ := (wit_one hts hy hu hun).1 h2
  cases t; cases u; simp_all
theorem red_unique : ∀ (p q : List TmD), OkP p -> OkP q -> redP p -> redP q -> leqP p q = true -> leqP q p = true -> p = q
 | [], [], _, _, _, _, _, _ => rfl
 | [], u :: q, _, _, _, hr, _, h => by
  rw [leqP_none, Bool.and_eq_true, nil_iff] at h
  exact absurd h.1 hr.head
 | t :: p, [], _, _, hr, _, h, _ => by
  rw [leqP_none, Bool.and_eq_true, nil_iff] at h
  exact absurd h.1 hr.head
 | t :: p, u :: q, hp, hq, hrp, hrq, h1, h2 => by
  have key : ∀ (t u : TmD) (p q : List TmD), OkP (t :: p) -> OkP (u :: q) -> redP (t :: p) -> redP (u :: q) -> leqP (t :: p) (u :: q) = true -> leqP (u :: q) (t :: p) = true -> witT t u = true := by
   intro t u p q hp hq hrp hrq h1 h2
   cases hw : witT t u with
   | true => rfl
   | false =>
    rw [leqP_cons, if_neg (by rw [nil_iff]; exact hrp.head), hw, if_pos (show (!false) = true from rfl)] at h1
    have := leq_trans hq hp hq.tail h2 h1
    rw [red_suffix _ q u q [] (Nat.le_refl _) rfl hrq hq] at this
    cases this
  have w1 := key t u p q hp hq hrp hrq h1 h2
  have w2 := key u t q p hq hp hrq hrp h2 h1
  have e := wit_same hp.head hq.head hrp.head hrq.head w1 w2
  subst e
  rw [leqP_cons, if_neg (by rw [nil_iff]; exact hrp.head), w1, if_neg (by simp)] at h1
  rw [leqP_cons, if_neg (by rw [nil_iff]; exact hrp.head), w1, if_neg (by simp)] at h2
  have recu := red_unique p q hp.tail hq.tail hrp.tail hrq.tail
  by_cases hs : t.star = true
  ·rw [if_pos hs] at h1 h2
   have key2 : ∀ (p q : List TmD), redP (t :: p) -> leqP p (t :: q) = true -> leqP p q = true := by
    intro p q hr h
    cases p with
    | nil => exact leqP_nil _
    | cons c p =>
     have hc : witT c t = false := by
      cases hb : witT c t with
      | false => rfl
      | true => exact absurd ⟨hs, hb⟩ hr.2.1.2
     rw [leqP_cons, if_neg (by rw [nil_iff]; exact hr.tail.head), hc, if_pos (show (!false) = true from rfl)] at h
     exact h
   rw [recu (key2 p q hrp h1) (key2 q p hrq h2)]
  ·rw [if_neg hs] at h1 h2
   rw [recu h1 h2]
theorem red_eq {p q : List TmD} (hp : OkP p) (hq : OkP q) (hrp : redP p) (hrq : redP q) (h : EqP p q) : p = q :=
 red_unique p q hp hq hrp hrq ((leq_iff hp hq).2 fun w hw => by rw [<- h w]; exact hw) ((leq_iff hq hp).2 fun w hw => by rw [h w]; exact hw)
def anyP (l : List (List TmD)) (w : List Int) : Bool := l.any fun p => memP p w
theorem any_cons (p : List TmD) (l : List (List TmD)) (w : List Int) : anyP (p :: l) w = (memP p w || anyP l w) := by
 unfold anyP; rw [List.any_cons]
def insM (out : List (List TmD)) (p : List TmD) : List (List TmD) :=
 if (out.any fun q => leqP p q) = true then out else (out.filter fun q => !leqP q p) ++ [p]
def maxL (l : List (List TmD)) : List (List TmD) := l.foldl (fun out p => insM out (normP p)) []
def hdP (t : TmD) (l : List (List TmD)) : List (List TmD) := l.map (t :: ·)
def bothL (a b : List Int) : List Int := a.filter fun x => decide (x ∈ b)
def meetP : List TmD -> List TmD -> List (List TmD)
 | [], _ => [[]]
 | _ :: _, [] => [[]]
 | t :: p, u :: q =>
  if !t.star && !u.star && t.ls.head? == u.ls.head? then hdP t (meetP p q)
  else if !t.star && u.star && witT t u then hdP t (meetP p (u :: q))
  else if t.star && !u.star && witT u t then hdP u (meetP (t :: p) q)
  else if !t.star || !u.star then meetP p (u :: q) ++ meetP (t :: p) q
  else hdP ⟨true, bothL t.ls u.ls⟩ (meetP p (u :: q) ++ meetP (t :: p) q)
termination_by p q => p.length + q.length
theorem asc_filter {p : Int -> Bool} : ∀ {l : List Int}, ascI l = true -> ascI (l.filter p) = true
 | [], _ => rfl
 | x :: l, h => by
  obtain ⟨h1, h2⟩ := asc_lt h
  have ih := asc_filter (p := p) h2
  rw [List.filter_cons]
  split
  ·cases hf : l.filter p with
   | nil => rfl
   | cons y k =>
    have : y ∈ l := (List.mem_filter.1 (show y ∈ l.filter p by rw [hf]; simp)).1
    rw [ascI, decide_eq_true (h1 y this), Bool.true_and, <- hf]; exact ih
  ·exact ih
theorem okP_cons {t : TmD} {p : List TmD} (ht : t.Ok) (hp : OkP p) : OkP (t :: p) := fun x hx => by
 rcases List.mem_cons.1 hx with rfl | hx
 ·exact ht
 ·exact hp x hx
theorem okP_nil : OkP [] := fun x hx => by cases hx
theorem hd_ok {t : TmD} {l : List (List TmD)} (ht : t.Ok) (h : ∀ p ∈ l, OkP p) : ∀ p ∈ hdP t l, OkP p := fun p hp => by
 obtain ⟨q, hq, rfl⟩ := List.mem_map.1 hp
 exact okP_cons ht (h q hq)
theorem both_ok {t u : TmD} (ht : t.Ok) : (TmD.mk true (bothL t.ls u.ls)).Ok := ⟨fun h => by simp at h, asc_filter ht.asc⟩
theorem meet_ok : ∀ (n : Nat) (p q : List TmD), p.length + q.length <= n -> OkP p -> OkP q -> ∀ x ∈ meetP p q, OkP x
 | _, [], q, _, _, _, x, hx => by rw [meetP] at hx; rw [List.mem_singleton.1 hx]; exact okP_nil
 | _, t :: p, [], _, _, _, x, hx => by rw [meetP] at hx; rw [List.mem_singleton.1 hx]; exact okP_nil
 | 0, t :: p, u :: q, h, _, _, _, _ => by simp only [List.length_cons] at h; omega
 | n + 1, t :: p, u :: q, h, hp, hq, x, hx => by
  simp only [List.length_cons] at h
  have h1 := meet_ok n p q (by omega) hp.tail hq.tail
  have h2 := meet_ok n p (u :: q) (by simp only [List.length_cons]; omega) hp.tail hq
  have h3 := meet_ok n (t :: p) q (by simp only [List.length_cons]; omega) hp hq.tail
  have h4 : ∀ x ∈ meetP p (u :: q) ++ meetP (t :: p) q, OkP x := fun x hx => (List.mem_append.1 hx).elim (h2 x) (h3 x)
  rw [meetP] at hx
  split at hx
  ·exact hd_ok hp.head h1 x hx
  ·split at hx
   ·exact hd_ok hp.head h2 x hx
   ·split at hx
    ·exact hd_ok hq.head h3 x hx
    ·split at hx
     ·exact h4 x hx
     ·exact hd_ok (both_ok hp.head) h4 x hx
def allL (n : Nat) (b : Int) : List Int := ((List.range n).map Int.ofNat).filter fun x => decide (x ≠ b)
def allT (n : Nat) (b : Int) : TmD := ⟨true, allL n b⟩
def withoutP (n : Nat) : List Int -> List TmD
 | [] => []
 | [x] => [allT n x]
 | x :: y :: w => allT n x :: ⟨false, [x]⟩ :: withoutP n (y :: w)
theorem asc_range : ∀ (n k : Nat), ascI ((List.range' k n).map Int.ofNat) = true
 | 0, _ => rfl
 | 1, _ => rfl
 | n + 2, k => by
  have := asc_range (n + 1) (k + 1)
  simp only [List.range'_succ, List.map_cons] at this ⊢
  rw [ascI, this, Bool.and_true]
  exact decide_eq_true (by show (k : Int) < ((k + 1 : Nat) : Int); omega)
theorem allT_ok (n : Nat) (b : Int) : (allT n b).Ok := ⟨fun h => by simp [allT] at h, asc_filter (by rw [List.range_eq_range']; exact asc_range n 0)⟩
theorem one_ok (x : Int) : (TmD.mk false [x]).Ok := ⟨fun _ => ⟨x, rfl⟩, rfl⟩
theorem without_ok (n : Nat) : ∀ w, OkP (withoutP n w)
 | [] => okP_nil
 | [x] => okP_cons (allT_ok n x) okP_nil
 | x :: y :: w => okP_cons (allT_ok n x) (okP_cons (one_ok x) (without_ok n (y :: w)))
def belowStep (n : Nat) (out : List (List TmD)) (w : List Int) : List (List TmD) := out.flatMap fun p => meetP p (withoutP n w)
def behP (x : Int) : List TmD -> Option (List TmD)
 | [] => none
 | u :: p => if x ∈ u.ls then some (if u.star then u :: p else p) else behP x p
def ofW (w : List Int) : List TmD := w.map fun x => ⟨false, [x]⟩
theorem ofW_ok (w : List Int) : OkP (ofW w) := fun t ht => by
 obtain ⟨x, _, rfl⟩ := List.mem_map.1 ht
 exact one_ok x
theorem leq_of : ∀ (n : Nat) (w : List Int) (p : List TmD), w.length + p.length <= n -> OkP p -> leqP (ofW w) p = memP p w
 | _, [], p, _, _ => by rw [memP_nil]; exact leqP_nil p
 | 0, x :: w, p, h, _ => by simp only [List.length_cons] at h; omega
 | n + 1, x :: w, [], h, _ => by
  rw [memP_none]
  show leqP (⟨false, [x]⟩ :: ofW w) [] = false
  rw [leqP_none]; rfl
 | n + 1, x :: w, u :: p, h, hp => by
  simp only [List.length_cons] at h
  have h1 := leq_of n w (u :: p) (by simp only [List.length_cons]; omega) hp
  have h2 := leq_of n w p (by omega) hp.tail
  have h3 := leq_of n (x :: w) p (by simp only [List.length_cons]; omega) hp.tail
  have hw : witT ⟨false, [x]⟩ u = decide (x ∈ u.ls) := by
   rw [Bool.eq_iff_iff, decide_eq_true_eq]
   cases hs : u.star with
   | true => rw [wit_star hs]; simp
   | false =>
    obtain ⟨y, hy⟩ := hp.head.one hs
    rw [wit_one hs hy (one_ok x) (by simp), hy]
    simp
  show leqP (⟨false, [x]⟩ :: ofW w) (u :: p) = _
  rw [leqP_cons, memP_cons, hw, if_neg (by simp)]
  by_cases hx : x ∈ u.ls
  ·rw [if_pos hx, decide_eq_true hx, if_neg (by simp)]
   by_cases hs : u.star = true
   ·rw [if_pos hs, if_pos hs]; exact h1
   ·rw [if_neg hs, if_neg hs]; exact h2
  ·rw [if_neg hx, decide_eq_false hx, if_pos (show (!false) = true from rfl)]; exact h3
theorem leqP_of {p : List TmD} (hp : OkP p) (w : List Int) : leqP (ofW w) p = memP p w := leq_of _ w p (Nat.le_refl _) hp
end Go.AM
namespace Go.AM
open Go Go.Proofs
theorem tinfo_3 : tinfo Tryz.prog 3 = some (1, 8, some (Value.int IntKind.i64 (0))) := by kernel_rfl
theorem agg_3 : aggT Tryz.prog 3 = some false := by kernel_rfl
theorem tinfo_4 : tinfo Tryz.prog 4 = some (1, 1, some (Value.bool false)) := by kernel_rfl
theorem agg_4 : aggT Tryz.prog 4 = some false := by kernel_rfl
theorem tinfo_22 : tinfo Tryz.prog 22 = some (1, 24, some (Value.slice none 0 0)) := by kernel_rfl
theorem agg_22 : aggT Tryz.prog 22 = some false := by kernel_rfl
theorem tinfo_23 : tinfo Tryz.prog 23 = some (1, 24, some (Value.slice none 0 0)) := by kernel_rfl
theorem agg_23 : aggT Tryz.prog 23 = some false := by kernel_rfl
theorem tinfo_30 : tinfo Tryz.prog 30 = some (2, 48, some (Value.agg (List.toArray [Value.slice none 0 0, Value.slice none 0 0]))) := by kernel_rfl
theorem agg_30 : aggT Tryz.prog 30 = some true := by kernel_rfl
theorem tinfo_47 : tinfo Tryz.prog 47 = some (1, 24, some (Value.slice none 0 0)) := by kernel_rfl
theorem agg_47 : aggT Tryz.prog 47 = some false := by kernel_rfl
theorem tinfo_57 : tinfo Tryz.prog 57 = some (2, 32, some (Value.agg (List.toArray [Value.bool false, Value.slice none 0 0]))) := by kernel_rfl
theorem agg_57 : aggT Tryz.prog 57 = some true := by kernel_rfl
theorem tinfo_58 : tinfo Tryz.prog 58 = some (1, 8, some (Value.int IntKind.u64 (0))) := by kernel_rfl
theorem agg_58 : aggT Tryz.prog 58 = some false := by kernel_rfl
theorem tinfo_60 : tinfo Tryz.prog 60 = some (3, 40, some (Value.agg (List.toArray [Value.slice none 0 0, Value.int IntKind.i64 (0), Value.int IntKind.u64 (0)]))) := by kernel_rfl
theorem tinfo_104 : tinfo Tryz.prog 104 = some (2, 16, some (Value.agg (List.toArray [Value.int IntKind.i64 (0), Value.int IntKind.i64 (0)]))) := by kernel_rfl
theorem places_30 : placesOf Tryz.prog 30 = some [(0, 1), (1, 1)] := by kernel_rfl
theorem places_57 : placesOf Tryz.prog 57 = some [(0, 1), (1, 1)] := by kernel_rfl
theorem field_57_0 : fieldOf Tryz.prog 57 0 = some (0, 4) := by kernel_rfl
theorem field_57_1 : fieldOf Tryz.prog 57 1 = some (1, 22) := by kernel_rfl
theorem places_60 : placesOf Tryz.prog 60 = some [(0, 1), (1, 1), (2, 1)] := by kernel_rfl
theorem field_60_0 : fieldOf Tryz.prog 60 0 = some (0, 22) := by kernel_rfl
theorem field_60_1 : fieldOf Tryz.prog 60 1 = some (1, 3) := by kernel_rfl
theorem field_60_2 : fieldOf Tryz.prog 60 2 = some (2, 58) := by kernel_rfl
theorem places_104 : placesOf Tryz.prog 104 = some [(0, 1), (1, 1)] := by kernel_rfl
theorem mixed : Tryz.prog.follows .mixedOrders = true := by kernel_rfl
attribute [go_sem] Tryz.underlying0 Tryz.underlying1 Tryz.underlying2 tinfo_3 agg_3 Tryz.underlying3 tinfo_4 agg_4 Tryz.underlying4 Tryz.underlying5 Tryz.underlying6 Tryz.underlying7 Tryz.underlying8 Tryz.underlying9 Tryz.underlying10 Tryz.underlying11 Tryz.underlying12 Tryz.underlying13 Tryz.underlying14 Tryz.underlying15 Tryz.underlying16 Tryz.underlying17 Tryz.underlying18 Tryz.underlying19 Tryz.underlying20 Tryz.underlying21 tinfo_22 agg_22 Tryz.underlying22 tinfo_23 agg_23 Tryz.underlying23 Tryz.underlying24 Tryz.underlying25 Tryz.underlying26 Tryz.underlying27 Tryz.underlying28 Tryz.underlying29 tinfo_30 agg_30 Tryz.underlying30 Tryz.underlying31 Tryz.underlying32 Tryz.underlying33 Tryz.underlying34 Tryz.underlying35 Tryz.underlying36 Tryz.underlying37 Tryz.underlying38 Tryz.underlying39 Tryz.underlying40 Tryz.underlying41 Tryz.underlying42 Tryz.underlying43 Tryz.underlying44 Tryz.underlying45 Tryz.underlying46 tinfo_47 agg_47 Tryz.underlying47 Tryz.underlying48 Tryz.underlying49 Tryz.underlying50 Tryz.underlying51 Tryz.underlying52 Tryz.underlying53 Tryz.underlying54 Tryz.underlying55 Tryz.underlying56 tinfo_57 agg_57 Tryz.underlying57 tinfo_58 agg_58 Tryz.underlying58 Tryz.underlying59 tinfo_60 Tryz.underlying60 Tryz.underlying61 Tryz.underlying62 Tryz.underlying63 Tryz.underlying64 Tryz.underlying65 Tryz.underlying66 Tryz.underlying67 Tryz.underlying68 Tryz.underlying69 Tryz.underlying70 Tryz.underlying71 Tryz.underlying72 Tryz.underlying73 Tryz.underlying74 Tryz.underlying75 Tryz.underlying76 Tryz.underlying77 Tryz.underlying78 Tryz.underlying79 Tryz.underlying80 Tryz.underlying81 Tryz.underlying82 Tryz.underlying83 Tryz.underlying84 Tryz.underlying85 Tryz.underlying86 Tryz.underlying87 Tryz.underlying88 Tryz.underlying89 Tryz.underlying90 Tryz.underlying91 Tryz.underlying92 Tryz.underlying93 Tryz.underlying94 Tryz.underlying95 Tryz.underlying96 Tryz.underlying97 Tryz.underlying98 Tryz.underlying99 Tryz.underlying100 Tryz.underlying101 Tryz.underlying102 Tryz.underlying103 tinfo_104 Tryz.underlying104 Tryz.underlying105 Tryz.underlying106 Tryz.underlying107 Tryz.underlying108 Tryz.underlying109 Tryz.underlying110 Tryz.underlying111 Tryz.underlying112 Tryz.underlying113 Tryz.underlying114 Tryz.underlying115 Tryz.underlying116 Tryz.underlying117 Tryz.underlying118 Tryz.underlying119 Tryz.underlying120 Tryz.underlying121 Tryz.underlying122 Tryz.underlying123 Tryz.underlying124 Tryz.underlying125 Tryz.underlying126 Tryz.underlying127 Tryz.underlying128 Tryz.underlying129 Tryz.underlying130 Tryz.underlying131 Tryz.underlying132 Tryz.underlying133 Tryz.underlying134 Tryz.underlying135 Tryz.underlying136 Tryz.underlying137 Tryz.underlying138 Tryz.underlying139 Tryz.underlying140 Tryz.underlying141 Tryz.underlying142 Tryz.underlying143 Tryz.underlying144 Tryz.underlying145 places_30 places_57 field_57_0 field_57_1 places_60 field_60_0 field_60_1 field_60_2 places_104
end Go.AM

namespace Go.AM
open Go Go.Proofs Go.RowKit
def diceA (l : List Int) (at_ : Nat) : List AV := [.sl 0 1 (l.map vu), .sc (.int .i64 at_)]
attribute [go_sem] diceA
end Go.AM

namespace Go.AM
open Go Go.Proofs Go.RowKit
def vAtom (a : AtomD) : AV := .ag [vs 0 a.coefs, vi a.mod, vs 0 a.values]
attribute [go_sem] vAtom
end Go.AM

namespace Go.AM
open Go Go.Proofs Go.RowKit
def u8v (c : UInt8) : AV := .sc (.int .u8 c.toNat)
attribute [go_sem] u8v vStr vss
set_option maxRecDepth 100000
theorem mem_bangI {α : Type} [Inhabited α] {l : List α} {i : Nat} (h : i < l.length) : l[i]! ∈ l := by rw [getElem!_pos l i h]; exact List.getElem_mem h
def TellsI (f : FuncId) (caps : List AV) (l : List Int) (p : Int -> Bool) : Prop := ∀ x ∈ l, Con Tryz.prog f ([vi x] ++ caps) [] fun r _ => r = .sc (.bool (p x))
theorem con_indexInt (l : List Int) (f : FuncId) (caps : List AV) (p : Int -> Bool) (hc : mapTops (viewV []) caps = caps) (hf : TellsI f caps l p) (hl : l.length <= 9223372036854775806) : Con Tryz.prog 100 [vs 0 l, .fn f caps] [] fun r _ => r = vi (findI p l) := by
 refine Con.intro Tryz.func100 rfl Tryz.ntmps100 Tryz.results100 (by kernel_rfl) (by simp) 0 (by simp) ?_
 simp only [go_sem]
 refine LoopK.intro (fun i : Nat => ⟨19, [(0, vs 0 l), (1, .fn f caps), (7, vi l.length), (8, vi i)], []⟩)
  (fun i => l.length - i) (fun i => i <= l.length /\ ∀ j, j < i -> p l[j]! = false) 0 ⟨by omega, fun j hj => by omega⟩ ?_ ?_
 ·simp only [go_sem]
  all_goals exact leV_refl _
 ·rintro i ⟨hi, hb⟩
  by_cases h : i < l.length
  ·have hg := getv h
   have hw : IntKind.i64.wrap (i + 1) = i + 1 := wrap_in (by omega) (by omega)
   simp only [go_sem, h, hg]
   refine CallU.look (hf l[i]! (mem_bangI h)) (by simp only [go_sem]) (by simp only [go_sem, hc]) ?_
   rintro r bx rfl
   cases hp : p l[i]!
   ·simp only [go_sem, hw]
    refine roundK.intro (i + 1) ⟨by omega, fun j hj => ?_⟩ (by omega) ?_
    ·by_cases hji : j = i
     ·subst hji; exact hp
     ·exact hb j (by omega)
    ·simp only [go_sem]
   ·simp only [go_sem]
    rw [findI_stop h hb hp]
  ·simp only [go_sem, h]
   rw [findI_none (fun j hj => hb j (by omega))]
theorem con_containsInt (l : List Int) (f : FuncId) (caps : List AV) (p : Int -> Bool) (hc : mapTops (viewV []) caps = caps) (hf : TellsI f caps l p) (hl : l.length <= 9223372036854775806) : Con Tryz.prog 68 [vs 0 l, .fn f caps] [] fun r _ => r = .sc (.bool (l.any p)) := by
 refine Con.intro Tryz.func68 rfl Tryz.ntmps68 Tryz.results68 (by kernel_rfl) (by simp) 0 (by simp) ?_
 simp only [go_sem]
 refine CallU.look (con_indexInt l f caps p hc hf hl) (by simp only [go_sem]) (by simp only [go_sem]) ?_
 rintro r bx rfl
 simp only [go_sem, findI_ge]
attribute [go_sem] vRule
def vm (t : Nat) (m : List (List Int)) : AV := .sl t 1 (m.map (vs 0))
attribute [go_sem] vm
theorem getm {l : List (List Int)} {i : Nat} (h : i < l.length) : (l.map (vs 0))[i]? = some (.sl 0 1 (l[i]!.map vi)) := by simp [vs, h]
theorem con_few (l : List Int) (t : Nat) (_ht : t < 2) : Con Tryz.prog 6 [vs t l] [] fun r _ => r = .sc (.bool (decide (l.length <= 400))) := by
 refine Con.intro Tryz.func6 rfl Tryz.ntmps6 Tryz.results6 (by kernel_rfl) (by simp) 0 (by simp) ?_
 simp only [go_sem]
theorem con_mxIndex (l : List Int) (v : Int) (hl : l.length <= 9223372036854775806) : Con Tryz.prog 86 [vs 0 l, vi v] [] fun r _ => r = vi (findI (fun x => v == x) l) := by
 refine Con.intro Tryz.func86 rfl Tryz.ntmps86 Tryz.results86 (by kernel_rfl) (by simp) 0 (by simp) ?_
 simp only [go_sem]
 refine LoopK.intro (fun i : Nat => ⟨19, [(0, .sl 0 1 (l.map vi)), (1, .sc (.int .i64 v)), (7, .sc (.int .i64 l.length)), (8, .sc (.int .i64 i))], []⟩)
  (fun i => l.length - i) (fun i => i <= l.length /\ ∀ j, j < i -> (v == l[j]!) = false) 0 ⟨by omega, fun j hj => by omega⟩ ?_ ?_
 ·simp only [go_sem]
 ·rintro i ⟨hi, hb⟩
  by_cases h : i < l.length
  ·have hg := getv h
   have hw : IntKind.i64.wrap (i + 1) = i + 1 := wrap_in (by omega) (by omega)
   cases hp : (v == l[i]!)
   ·simp only [go_sem, h, hg, hw, hp]
    refine roundK.intro (i + 1) ⟨by omega, fun j hj => ?_⟩ (by omega) ?_
    ·by_cases hji : j = i
     ·subst hji; exact hp
     ·exact hb j (by omega)
    ·simp only [go_sem]
   ·simp only [go_sem, h, hg, hp]
    rw [findI_stop h hb hp]
  ·simp only [go_sem, h]
   rw [findI_none (fun j hj => hb j (by omega))]
   
theorem con_mxContains (l : List Int) (v : Int) (hl : l.length <= 9223372036854775806) : Con Tryz.prog 59 [vs 0 l, vi v] [] fun r _ => r = .sc (.bool (l.any fun x => v == x)) := by
 refine Con.intro Tryz.func59 rfl Tryz.ntmps59 Tryz.results59 (by kernel_rfl) (by simp) 0 (by simp) ?_
 simp only [go_sem]
 refine CallU.free (con_mxIndex l v hl) (by simp only [go_sem]) (by simp only [go_sem]) ?_
 rintro r bx rfl
 simp only [go_sem, findI_ge]
end Go.AM

namespace Go.AM
open Go Go.Proofs Go.RowKit
attribute [go_sem] vM cM
end Go.AM

