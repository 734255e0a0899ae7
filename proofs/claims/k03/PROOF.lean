import PyProof.Rows.All
import Wide.All
import OpenK.AllK
import Wide.FinOn
import HandS.ForMost
import HandS.ForExc
import HandS.IsInst
import HandS.Style
import HandS.SortInts
import PySem.Challenge.RW_ringseat_k03_room
set_option Elab.async false
set_option linter.all false
set_option maxRecDepth 100000
set_option maxHeartbeats 4000000
/-! ### words of our own: a def that stands behind the top, a def that keeps its promise, the call of one -/
namespace RS
open PySem PySem.Spec PyProof.Rows L2

abbrev rAdd : R2 := rI0 fun i j => .int (i + j)
abbrev rSub : R2 := rI0 fun i j => .int (i - j)
abbrev rMul : R2 := rI CMul fun i j => .int (i * j)
abbrev rMod : R2 := rI (fun _ j => 0 < j) fun i j => .int (i % j)
abbrev rFdv : R2 := rI CDiv fun i j => .int (i / j)
abbrev rPow : R2 := rI CPow fun i j => .int (i ^ j.toNat)
abbrev rLt : R2 := rI0 fun i j => .bl (decide (i < j))
abbrev rLe : R2 := rI0 fun i j => .bl (decide (i ≤ j))
abbrev rGt : R2 := rI0 fun i j => .bl (decide (j < i))
abbrev rGe : R2 := rI0 fun i j => .bl (decide (j ≤ i))
abbrev rNeg : V → Hp → VK → Prop := rU fun i => .int (-i)
def rLenS (K : PySem.W.Frag) : List V → Hp → VK → Prop := fun xs H Q => ∃ p ys, xs = [.ref p] ∧ (SqL K H p ys ∨ SqT K H p ys) ∧ Q (.int ys.length) H
def rListS (K : PySem.W.Frag) : List V → Hp → VK → Prop := fun xs H Q => ∃ p ys, xs = [.ref p] ∧ (SqL K H p ys ∨ SqT K H p ys) ∧ ∀ l, H l = none → Q (.ref l) (upd H l (.lst ys))
def rMax2 : List V → Hp → VK → Prop := fun xs H Q => ∃ i j, xs = [.int i, .int j] ∧ Q (.int (if j > i then j else i)) H
def rMin2 : List V → Hp → VK → Prop := fun xs H Q => ∃ i j, xs = [.int i, .int j] ∧ Q (.int (if j < i then j else i)) H
def rInt1 : List V → Hp → VK → Prop := fun xs H Q => (∃ i, xs = [.int i] ∧ Q (.int i) H) ∨ ∃ k, xs = [.bl k] ∧ Q (.int (if k then 1 else 0)) H
def rStr1 : List V → Hp → VK → Prop := fun xs H Q => ∃ i, xs = [.int i] ∧ i.natAbs.log2 < 1920 ∧ Q (.str (toString i)) H

/-- the program's classes, by where they stand -/
structure Cs where
  cRingError : Addr
  cNoGuest : Addr
  cNoSize : Addr
  cTwice : Addr
  cAway : Addr
  cFull : Addr
  cHouse : Addr

/-- a def of the text, by its name -/
structure Def (K : PySem.W.Frag) (mg : Str → Option Value) (x : Str) (st : Stmt) : Prop where
  ex : ∃ f fd, Fun K x x st f fd ∧ mg x = some (.ref f)
theorem def_mk {K : PySem.W.Frag} {h : Heap} {mg : Str → Option Value} {x : Str} {st : Stmt} {f : Addr} (X : K.In h) (G : h.Ns mainGlobals mg)
    {od an : Option Addr} {sl : Array (Option Value)} {oc kV dc pm cd ct : Value}
    (a : PySem.W.nsIn K mainGlobals x = some (some (.ref f))) (l : K.lookup f = some ⟨oc, od, .func (PySem.W.fnOf x x (defArgs st) (defBody st) (defScope st) .none kV dc pm an cd ct), sl⟩)
    (c : PySem.W.codeIn K cd x = true) (k : PySem.W.keepIn K (.ref f) = true) : Def K mg x st :=
  ⟨f, _, fun_mk l c k, PySem.W.mg_of X G a⟩

/-- a def that keeps its promise, by its name -/
structure Cal (P : Program) (w : World) (K : PySem.W.Frag) (mg : Str → Option Value) (base : Heap) (CX : CXT) (k : Nat) (x : Str) (ps : List Str) (sp : Sp) : Prop where
  ex : ∃ f fd, FnOk P w K mg base CX k f fd ps sp ∧ mg x = some (.ref f) ∧ PySem.W.keepIn K (.ref f) = true ∧ Binds K fd ps []
section
variable {X : Cx} {CX : CXT} {k : Nat} {ps : List Str} {sp : Sp} {E : XK} {x : Str} {p pos : Pos} {e : Expr} {es : List Expr} {t : TA}
theorem pe_fn (c : Cal X.prog X.w X.K X.mg X.base CX k x ps sp) (hr : Room k X.A) (hx : Passes CX X E) (ha : PA X (e :: es) t) (hg : Gl X x := by rfl) (hdb : (x == ("__debug__" : Str)) = false := by decide)
    (he : starEach (e :: es) X.env = (false, eval e X.env) :: starEach es X.env := by rfl) (hpl : (backTo pos (starEach es X.env)).any (·.1) = false := by rfl) :
    PE X (.Call (.Name x p) (e :: es) [] pos) (tCall sp [] E t) := by
  obtain ⟨f, fd, G, hm, hk, hb⟩ := c.ex
  exact pe_call G hr hg hm hk hb .nil hx ha hdb he hpl
end
theorem iteB {c : Bool} {A B : Prop} (h1 : c = true → A) (h2 : c = false → B) : if c = true then A else B := by
  cases c with
  | true => rw [if_pos rfl]; exact h1 rfl
  | false => rw [if_neg Bool.false_ne_true]; exact h2 rfl
end RS
/-! ### isinstance of the built-in kinds, by what a value is -/
namespace RS
open PySem PySem.Spec PyProof.Rows L2
inductive Ty where
  | int | bool | none | str | list | tuple | dict
  deriving DecidableEq
def Ty.nm : Ty → String
  | .int => "int" | .bool => "bool" | .none => "NoneType" | .str => "str" | .list => "list" | .tuple => "tuple" | .dict => "dict"
def Ty.isA : Ty → Ty → Bool
  | .int, .int => true | .bool, .bool => true | .bool, .int => true | .none, .none => true | .str, .str => true | .list, .list => true | .tuple, .tuple => true | .dict, .dict => true | _, _ => false
def hoTy : HO → Option Ty
  | .lst _ => some .list | .tup _ => some .tuple | .dK _ => some .dict | .frz _ (.lst _) => some .list | _ => Option.none
def tyOf (H : Hp) : V → Option Ty
  | .int _ => some .int | .bl _ => some .bool | .non => some .none | .str _ => some .str
  | .ref a => (H a).bind hoTy
  | _ => Option.none
theorem tyX_of {K : PySem.W.Frag} {H : Hp} {x : V} {s : Ty} (h : tyOf H x = some s) : TyX K H x (.type s.nm) := by
  cases x with
  | int i => cases h; exact .base (.int i)
  | bl b => cases h; exact .base (.bl b)
  | non => cases h; exact .base .non
  | str z => cases h; exact .base (.str z)
  | byt b => cases h
  | flt b => cases h
  | ty n => cases h
  | ref a =>
    have h' : (H a).bind hoTy = some s := h
    cases e : H a with
    | none => rw [e] at h'; cases h'
    | some o =>
      rw [e] at h'
      have h2 : hoTy o = some s := h'
      cases o with
      | lst xs => cases h2; exact .base (.lst e)
      | tup xs => cases h2; exact .base (.tup e)
      | dK kvs => cases h2; exact .base (.dK e)
      | frz ob u =>
        cases u with
        | lst xs => cases h2; exact .base (.frz e)
        | _ => cases h2
      | _ => cases h2
theorem kit_is : ∀ s c : Ty, (c = .int ∨ c = .bool ∨ c = .list ∨ c = .tuple) → kitB s.nm c.nm = some (s.isA c) := by
  intro s c hc
  rcases hc with rfl | rfl | rfl | rfl <;> cases s <;> decide +kernel
def rIsA (c : Ty) : List V → Hp → VK → Prop := fun xs H Q => ∃ x s, xs = [x, .ty c.nm] ∧ tyOf H x = some s ∧ Q (.bl (s.isA c)) H
theorem call_isA {X : Cx} {c : Ty} (hc : c = .int ∨ c = .bool ∨ c = .list ∨ c = .tuple := by first | exact .inl rfl | exact .inr (.inl rfl) | exact .inr (.inr (.inl rfl)) | exact .inr (.inr (.inr rfl))) : CallR X (.builtin "isinstance") (rIsA c) := by
  intro pins s σ H xs us Q I r h
  obtain ⟨x, t, rfl, ht, q⟩ := h
  exact call_isi pins s σ H _ us Q I r ⟨x, .ty c.nm, _, _, _, rfl, .ty _, tyX_of ht, kit_ty (kit_is t c hc), q⟩

/-! ### steps -/
section
variable {K : PySem.W.Frag} {ta : TA} {te tl : TE} {g : TG} {tb t u : TS} {c : TT} {D : Ends} {σ : L2.St} {H H' : Hp}
theorem for_rng1 {j : Int} {n : Nat} (hta : ∀ R : List V → Hp → Prop, R [.int j] H' → ta σ H R) (hj : j = (n : Int)) (hn : n < 2 ^ 62) (Pv : Nat → L2.St → Hp → Prop) (h0 : Pv 0 σ H')
    (hs : ∀ (i : Nat) σ H, i < n → Pv i σ H → g (.int (i : Int)) σ H fun σ2 H2 => tb { D with nx := Pv (i + 1), ct := Pv (i + 1), bk := D.nx } σ2 H2) (hd : ∀ σ H, Pv n σ H → D.nx σ H) : tFor (iRng1 ta) g tb D σ H := by
  subst hj
  refine hta _ ⟨(n : Int), rfl, ?_, ?_, ?_⟩
  · have : (0 : Int) ≤ n := Int.natCast_nonneg n
    omega
  · omega
  · rw [Int.toNat_natCast]
    exact for_range (lo := 0) Pv h0 (fun i σ H hi p => by rw [Int.zero_add]; exact hs i σ H hi p) hd
theorem for_lst {a : Addr} {xs : List V} (htl : ∀ R : VK, R (.ref a) H' → tl σ H R) (hx : SqL K H' a xs) (Pv : Nat → L2.St → Hp → Prop) (h0 : Pv 0 σ H') (hl : ∀ i σ H, i ≤ xs.length → Pv i σ H → SqL K H a xs)
    (hs : ∀ i x σ H, xs[i]? = some x → Pv i σ H → g x σ H fun σ2 H2 => tb { D with nx := Pv (i + 1), ct := Pv (i + 1), bk := D.nx } σ2 H2) (hd : ∀ σ H, Pv xs.length σ H → D.nx σ H) : tFor (iList K tl) g tb D σ H :=
  htl _ ⟨a, rfl, ⟨xs, hx⟩, for_list Pv h0 hl hs hd⟩
theorem if_step {b : Bool} (hc : ∀ R : Bool → Hp → Prop, R b H' → c σ H R) (h1 : b = true → t D σ H') (h2 : b = false → u D σ H') : tIfS c t u D σ H := hc _ (iteB h1 h2)
theorem asg_step {v : V} {i : Nat} (he : ∀ R : VK, R v H' → te σ H R) (h : D.nx (σ.set i (some v)) H') : tAsg te (gName i) D σ H := he _ h
end
end RS
namespace RS
open PySem PySem.Spec PyProof.Rows L2
section
variable {K : PySem.W.Frag} {ta : TA} {te tl : TE} {g : TG} {tb t u : TS} {c : TT} {D : Ends} {σ : L2.St} {H H' : Hp}
theorem asg_ext {v : V} {i : Nat} (he : ∀ R : VK, (∀ H', Same H H' → R v H') → te σ H R) (h : ∀ H', Same H H' → D.nx (σ.set i (some v)) H') : tAsg te (gName i) D σ H := he _ h
theorem if_ext {b : Bool} (hc : ∀ R : Bool → Hp → Prop, (∀ H', Same H H' → R b H') → c σ H R) (h1 : b = true → ∀ H', Same H H' → t D σ H') (h2 : b = false → ∀ H', Same H H' → u D σ H') : tIfS c t u D σ H :=
  hc _ fun H' s => iteB (fun e => h1 e H' s) (fun e => h2 e H' s)
theorem same_new {p : Addr} {o : HO} (h : H p = none) : Same H (upd H p o) := fun b x e => by
  rw [upd_ne (ne_of_none e h)]
  exact e
theorem sizes {n : Nat} (h : n ≤ 100000) : n ≤ sizeLine := Nat.le_trans h (by decide)
theorem sizel {n : Nat} (h : n < 100000) : n < sizeLine := Nat.lt_of_lt_of_le h (by decide)
end
end RS
namespace RS
open PySem PySem.Spec PyProof.Rows L2
/-- an if behind which the ways meet: D is a letter in both -/
theorem if_join {c : TT} {t u : TS} {D : Ends} {σ : L2.St} {H : Hp} {b : Bool} (P : L2.St → Hp → Prop) (hc : ∀ R : Bool → Hp → Prop, (∀ H', Same H H' → R b H') → c σ H R)
    (h1 : b = true → ∀ H', Same H H' → ∀ D' : Ends, D'.rt = D.rt → D'.bk = D.bk → D'.ct = D.ct → (∀ σ' H', P σ' H' → D'.nx σ' H') → t D' σ H')
    (h2 : b = false → ∀ H', Same H H' → ∀ D' : Ends, D'.rt = D.rt → D'.bk = D.bk → D'.ct = D.ct → (∀ σ' H', P σ' H' → D'.nx σ' H') → u D' σ H')
    (rest : ∀ σ' H', P σ' H' → D.nx σ' H') : tIfS c t u D σ H :=
  hc _ fun H' s => iteB (fun e => h1 e H' s D rfl rfl rfl rest) (fun e => h2 e H' s D rfl rfl rfl rest)
end RS
/-! "run": a reading is worked off by rewriting, from the left -/
local macro_rules | `(tactic| walk_at "run") => `(tactic| simp only [L2.tSeq, L2.tAsg, L2.gName, L2.tVar, L2.tC, L2.tOp, L2.tUn, L2.tTest, L2.tB, L2.tIfS, L2.tNext, L2.tRet, L2.tRetN, L2.tDrop, L2.tCall, L2.tCons, L2.tNil, L2.tCB, L2.tAnd, L2.tOr, L2.tNot, L2.tAndV, L2.tOrV, L2.tNotV, L2.tIf, L2.tIsN, L2.tNotN, L2.tBreak, L2.tCont, L2.tTup, L2.tLst, L2.gTup, L2.gCons, L2.gNil, L2.gSub, L2.tChain,
  L2.rI, L2.rI0, L2.rU, L2.rEq, L2.rNe, L2.rIxL, L2.rIxT, L2.rIn, L2.rIsi, L2.rSetL, L2.rIsB, L2.rNotB, RS.rIsA, RS.Ty.nm, RS.Ty.isA, RS.tyOf, RS.rLenS, RS.rListS, RS.rMax2, RS.rMin2, RS.rInt1, RS.rStr1, L2.CMul, L2.CDiv, L2.CPow, L2.scal,
  List.getElem?_cons_zero, List.getElem?_cons_succ, List.set_cons_zero, List.set_cons_succ, List.append_nil, List.nil_append, List.cons_append,
  Option.some.injEq, L2.V.int.injEq, L2.V.bl.injEq, L2.V.ref.injEq, L2.V.str.injEq, List.cons.injEq, List.nil_eq, reduceCtorEq,
  exists_eq_left, exists_eq_left', exists_eq_right, exists_eq_right', exists_and_left, exists_and_right, exists_const, and_assoc, Int.reduceLT, Int.reduceLE, Int.reduceNeg, Int.reducePow, Int.reduceToNat, Nat.reduceLT, Nat.reduceLeDiff, List.length_cons, List.length_nil, Nat.reduceAdd, Int.reduceMul, Int.reduceSub, true_or, or_true, true_and, and_true, and_self, false_and, and_false, or_false, false_or, decide_eq_true_eq, Bool.not_eq_true', Bool.not_eq_true, decide_eq_false_iff_not, Bool.not_not, Bool.true_eq_false, Bool.false_eq_true, if_true, if_false, Bool.not_true, Bool.not_false, decide_true, decide_false, eq_self, not_true_eq_false, not_false_eq_true, ite_true, ite_false])
local macro_rules | `(tactic| walk_at "nxt") => `(tactic| dsimp only [L2.tSeq, L2.tNext, List.set_cons_zero, List.set_cons_succ])
namespace RS
open PySem PySem.Spec PyProof.Rows L2
def roomI (n : Int) : Int := if n ≤ 6 then 8 else if n ≤ 12 then 16 else if n ≤ 24 then 32 else if n ≤ 48 then 64 else if n ≤ 96 then 128 else 256
def sp_room (K : PySem.W.Frag) (C : Cs) : Sp := fun vs H Q _ => ∃ n : Int, vs = [.int n] ∧ 0 ≤ n ∧ n ≤ 192 ∧ Q (.int (roomI n)) H
def cellI (ns : List Int) (k : Int) : Int := if k < ns.length then ns.getD k.toNat 0 else 0
def sp_law_cell_at (K : PySem.W.Frag) (C : Cs) : Sp := fun vs H Q _ => ∃ (a : Addr) (ns : List Int) (k : Int), vs = [.ref a, .int k] ∧ SqL K H a (ns.map V.int) ∧ 0 ≤ k ∧ Q (.int (cellI ns k)) H
def sp_law_whole (K : PySem.W.Frag) (C : Cs) : Sp := fun vs H Q _ => ∃ n : Int, vs = [.int n] ∧ Q (.bl true) H
def sp_law0 (K : PySem.W.Frag) : Sp := fun vs H Q _ => ∃ (a : Addr) (ns : List Int), vs = [.ref a] ∧ SqL K H a (ns.map V.int) ∧ ns.length ≤ 63 ∧ ∀ H', Q (.bl true) H'
def sp_law (K : PySem.W.Frag) (C : Cs) : Sp := sp_law0 K
end RS
namespace RS
open PySem PySem.Spec PyProof.Rows L2
def t_room_b1 (K : PySem.W.Frag) (C : Cs) (E : XK) : TS :=
  (tAsg (tOp rMul (tC (.int 2)) (tVar 1)) (gName 1))
def t_room (K : PySem.W.Frag) (C : Cs) (E : XK) : TS :=
  (tSeq (tAsg (tC (.int 8)) (gName 1))
    (tSeq (tWhile (tTest (tOp rGt (tOp rMul (tC (.int 4)) (tVar 0)) (tOp rMul (tC (.int 3)) (tVar 1)))) (t_room_b1 K C E))
    (tRet (tVar 1))))
def t_law_cell_at (K : PySem.W.Frag) (C : Cs) (E : XK) : TS :=
  (tSeq (tIfS (tTest (tOp rLt (tVar 1) (tCB (rLenS K) (tCons (tVar 0) tNil)))) (tRet (tOp (rIxL K) (tVar 0) (tVar 1))) tNext)
    (tRet (tC (.int 0))))
def t_law_whole (K : PySem.W.Frag) (C : Cs) (E : XK) : TS :=
  (tRet (tAndV (tCB (rIsA .int) (tCons (tVar 0) (tCons (tC (.ty "int")) tNil))) (tNotV (tCB (rIsA .bool) (tCons (tVar 0) (tCons (tC (.ty "bool")) tNil))))))
def t_law_b1 (K : PySem.W.Frag) (C : Cs) (E : XK) : TS :=
  (tSeq (tAsg (tCall (sp_law_cell_at K C) [] E0 (tCons (tVar 0) (tCons (tVar 1) tNil))) (gName 2))
    (tSeq (tAsg (tOp rMod (tOp rFdv (tVar 2) (tC (.int 2))) (tC (.int 193))) (gName 3))
    (tSeq (tIfS (tTest (tOp rEq (tOp rMod (tVar 2) (tC (.int 2))) (tC (.int 1)))) (tAsg (tOp (rIxL K) (tLst (tCons (tC (.int 0)) (tCons (tC (.int 6)) (tCons (tC (.int 7)) (tCons (tC (.int 12)) (tCons (tC (.int 13)) (tCons (tC (.int 24)) (tCons (tC (.int 25)) (tCons (tC (.int 48)) (tCons (tC (.int 49)) (tCons (tC (.int 96)) (tCons (tC (.int 97)) (tCons (tC (.int 192)) tNil))))))))))))) (tOp rMod (tOp rFdv (tVar 2) (tC (.int 2))) (tC (.int 12)))) (gName 3)) tNext)
    (tSeq (tAsg (tCall (sp_room K C) [] E0 (tCons (tVar 3) tNil)) (gName 4))
    (tSeq (tIfS (tOr (tNot (tB (tCall (sp_law_whole K C) [] E0 (tCons (tVar 4) tNil)))) (tTest (tOp (rIn K true) (tVar 4) (tTup (tCons (tC (.int 8)) (tCons (tC (.int 16)) (tCons (tC (.int 32)) (tCons (tC (.int 64)) (tCons (tC (.int 128)) (tCons (tC (.int 256)) tNil)))))))))) (tRet (tC (.bl false))) tNext)
    (tSeq (tIfS (tTest (tOp rGt (tOp rMul (tC (.int 4)) (tVar 3)) (tOp rMul (tC (.int 3)) (tVar 4)))) (tRet (tC (.bl false))) tNext)
    (tIfS (tAnd (tTest (tOp rGt (tVar 4) (tC (.int 8)))) (tTest (tOp rLe (tOp rMul (tC (.int 4)) (tVar 3)) (tOp rMul (tC (.int 3)) (tOp rFdv (tVar 4) (tC (.int 2))))))) (tRet (tC (.bl false))) tNext)))))))
def t_law (K : PySem.W.Frag) (C : Cs) (E : XK) : TS :=
  (tSeq (tFor (iRng1 (tCons (tCB rMax2 (tCons (tC (.int 1)) (tCons (tCB rMin2 (tCons (tCB (rLenS K) (tCons (tVar 0) tNil)) (tCons (tC (.int 64)) tNil))) tNil))) tNil)) (gName 1) (t_law_b1 K C E))
    (tRet (tC (.bl true))))
end RS
namespace RS
open PySem PySem.Spec PyProof.Rows L2
section
variable {K : PySem.W.Frag} {C : Cs} {vs : List V} {H : Hp} {Q : VK} {E : XK}
theorem len_room (h : sp_room K C vs H Q E) : vs.length = ["count"].length := by obtain ⟨n, rfl, _⟩ := h; rfl
theorem len_law_cell_at (h : sp_law_cell_at K C vs H Q E) : vs.length = ["_law_script", "_law_k"].length := by obtain ⟨a, ns, k, rfl, _⟩ := h; rfl
theorem len_law_whole (h : sp_law_whole K C vs H Q E) : vs.length = ["_law_found"].length := by obtain ⟨n, rfl, _⟩ := h; rfl
theorem len_law (h : sp_law K C vs H Q E) : vs.length = ["_law_script"].length := by obtain ⟨a, ns, rfl, _⟩ := h; rfl
theorem pure_room (h : sp_room K C vs H Q E) : t_room K C E { nx := fun _ H' => Q .non H', rt := Q } (start ["count", "size"] vs) H := by
  obtain ⟨n, rfl, h0, h1, q⟩ := h
  show tSeq _ _ _ [some (.int n), none] H
  walk_at "run"
  refine ⟨fun m σ H' => H' = H ∧ ∃ s : Int, σ = [some (.int n), some (.int s)] ∧ (s = 8 ∨ s = 16 ∨ s = 32 ∨ s = 64 ∨ s = 128 ∨ s = 256) ∧ (s = 8 ∨ 4 * n > 3 * (s / 2)) ∧ m = (256 - s).toNat, ⟨_, rfl, 8, rfl, .inl rfl, .inl rfl, rfl⟩, ?_⟩
  rintro m σ H' ⟨rfl, s, rfl, hs, hb, rfl⟩
  unfold t_room_b1; walk_at "run"
  split
  · refine ⟨_, fun _ _ h => h, _, ?_, rfl, 2 * s, rfl, by omega, by omega, rfl⟩
    omega
  · have e : roomI n = s := by unfold roomI; repeat (split <;> try omega)
    rw [← e]; exact q
theorem pure_law_cell_at (h : sp_law_cell_at K C vs H Q E) : t_law_cell_at K C E { nx := fun _ H' => Q .non H', rt := Q } (start ["_law_script", "_law_k"] vs) H := by
  obtain ⟨a, ns, k, rfl, hS, h0, q⟩ := h
  show tSeq _ _ _ [some (.ref a), some (.int k)] H
  walk_at "run"
  refine ⟨_, .inl hS, ?_⟩
  rw [List.length_map]
  unfold cellI at q
  split
  · rename_i hk
    rw [if_pos hk] at q
    refine ⟨_, hS, .int (ns.getD k.toNat 0), at_of (j := k.toNat) (by omega) ?_, q⟩
    rw [List.getElem?_map, List.getElem?_eq_getElem (by omega), List.getD_eq_getElem?_getD, List.getElem?_eq_getElem (by omega)]
    rfl
  · rename_i hk
    rw [if_neg hk] at q
    exact q
theorem pure_law_whole (h : sp_law_whole K C vs H Q E) : t_law_whole K C E { nx := fun _ H' => Q .non H', rt := Q } (start ["_law_found"] vs) H := by
  obtain ⟨n, rfl, q⟩ := h
  show tRet _ _ [some (.int n)] H
  walk_at "run"
  exact q
def menuI : List Int := [0, 6, 7, 12, 13, 24, 25, 48, 49, 96, 97, 192]
def countI (c : Int) : Int := if c % 2 = 1 then menuI.getD ((c / 2) % 12).toNat 0 else c / 2 % 193
theorem menu_ok : ∀ j : Nat, j < 12 → 0 ≤ menuI.getD j 0 ∧ menuI.getD j 0 ≤ 192 := by decide
theorem count_ok (c : Int) : 0 ≤ countI c ∧ countI c ≤ 192 := by
  unfold countI
  split
  · exact menu_ok _ (by omega)
  · omega
theorem roomI_ok (n : Int) (h0 : 0 ≤ n) (h1 : n ≤ 192) : (roomI n = 8 ∨ roomI n = 16 ∨ roomI n = 32 ∨ roomI n = 64 ∨ roomI n = 128 ∨ roomI n = 256) ∧ 4 * n ≤ 3 * roomI n ∧ (8 < roomI n → 3 * (roomI n / 2) < 4 * n) := by
  unfold roomI; repeat' split
  all_goals omega
theorem inV_room (n : Int) (h : (roomI n = 8 ∨ roomI n = 16 ∨ roomI n = 32 ∨ roomI n = 64 ∨ roomI n = 128 ∨ roomI n = 256)) : inV (V.int (roomI n)) [V.int 8, V.int 16, V.int 32, V.int 64, V.int 128, V.int 256] = true := by
  rcases h with h | h | h | h | h | h <;> rw [h] <;> decide
theorem pure_law (h : sp_law K C vs H Q E) : t_law K C E { nx := fun _ H' => Q .non H', rt := Q } (start ["_law_script", "_law_k", "_law_cell", "_law_count", "_law_found"] vs) H := by
  obtain ⟨a, ns, rfl, hS, hl, q⟩ := h
  show tSeq _ _ _ [some (.ref a), none, none, none, none] H
  refine for_rng1 (n := if ns.length < 1 then 1 else ns.length) (j := if ns.length < 1 then 1 else ns.length) (H' := H) (fun R h => ?_) ?_ ?_ (fun i σ H' => ∃ x y z u, σ = [some (.ref a), x, y, z, u] ∧ Same H H') ⟨_, _, _, _, rfl, Same.refl H⟩ ?_ (fun σ H' h => q H')
  · walk_at "run"
    refine ⟨_, .inl hS, ?_⟩
    rw [List.length_map]
    have e : (if (if (64 : Int) < ns.length then (64 : Int) else (ns.length : Int)) > 1 then (if (64 : Int) < ns.length then (64 : Int) else (ns.length : Int)) else 1) = (if ns.length < 1 then 1 else (ns.length : Int)) := by
      repeat' split
      all_goals omega
    rw [e]; exact h
  · split <;> rfl
  · split <;> omega
  · rintro i σ H1 hi ⟨x, y, z, u, rfl, sm⟩
    unfold t_law_b1
    obtain ⟨c, hc⟩ : ∃ c, c = cellI ns i := ⟨_, rfl⟩
    obtain ⟨o1, o2⟩ := count_ok c
    refine asg_step (v := .int c) (H' := H1) (fun R h => ?_) ?_
    · walk_at "run"; unfold sp_law_cell_at; walk_at "run"
      exact ⟨ns, sm.seq hS, by omega, by rw [← hc]; exact h⟩
    walk_at "nxt"
    refine asg_step (v := .int (c / 2 % 193)) (H' := H1) (fun R h => ?_) ?_
    · walk_at "run"; exact h
    walk_at "nxt"
    refine if_join (b := decide (c % 2 = 1)) (fun σ' H' => σ' = [some (.ref a), some (.int i), some (.int c), some (.int (countI c)), u] ∧ Same H1 H') (fun R h => ?_) (fun e H2 s2 D _ _ _ hn => ?_) (fun e H2 s2 D _ _ _ hn => ?_) ?_
    · walk_at "run"; exact h H1 (Same.refl _)
    · have e' := of_decide_eq_true e
      refine asg_ext (v := .int (countI c)) (fun R h => ?_) fun H3 s3 => ?_
      · walk_at "run"
        refine ⟨sizes (by decide), fun p hp => ?_⟩
        refine ⟨_, .inl (.inl upd_same), _, at_of (j := (c / 2 % 12).toNat) (by omega) (v := .int (countI c)) ?_, h _ (same_new hp)⟩
        have ej : (c / 2 % 12).toNat < 12 := by omega
        unfold countI; rw [if_pos e']
        generalize (c / 2 % 12).toNat = j at ej
        revert j; decide
      · exact hn _ _ ⟨rfl, s2.trans s3⟩
    · have e' := of_decide_eq_false e
      have ec : countI c = c / 2 % 193 := by unfold countI; rw [if_neg e']
      walk_at "nxt"
      exact hn _ _ ⟨by rw [ec], s2⟩
    rintro σ' H2 ⟨rfl, s2⟩
    obtain ⟨n, hn⟩ : ∃ n, n = countI c := ⟨_, rfl⟩
    rw [← hn] at o1 o2 ⊢
    obtain ⟨r1, r2, r3⟩ := roomI_ok n o1 o2
    walk_at "nxt"
    refine asg_step (v := .int (roomI n)) (H' := H2) (fun R h => ?_) ?_
    · walk_at "run"; unfold sp_room; walk_at "run"; exact ⟨o1, o2, h⟩
    walk_at "nxt"
    refine if_ext (b := false) (fun R h => ?_) (fun e => nomatch e) (fun _ H3 s3 => ?_)
    · walk_at "run"; unfold sp_law_whole; walk_at "run"
      refine ⟨sizes (by decide), fun p hp => ?_⟩
      refine ⟨_, .inr (.inl (.inl upd_same)), rfl, rfl, ?_⟩
      rw [inV_room n r1]
      exact h _ (same_new hp)
    walk_at "nxt"
    refine if_ext (b := false) (fun R h => ?_) (fun e => nomatch e) (fun _ H4 s4 => ?_)
    · walk_at "run"
      rw [show decide (3 * roomI n < 4 * n) = false from decide_eq_false (by omega)]
      exact h _ (Same.refl _)
    walk_at "nxt"
    refine if_ext (b := false) (fun R h => ?_) (fun e => nomatch e) (fun _ H5 s5 => ?_)
    · walk_at "run"
      split
      · rename_i e
        rw [show decide (4 * n ≤ 3 * (roomI n / 2)) = false from decide_eq_false (by have := r3 e; omega)]
        exact h _ (Same.refl _)
      · exact h _ (Same.refl _)
    walk_at "nxt"
    exact ⟨_, _, _, _, rfl, (((sm.trans s2).trans s3).trans s4).trans s5⟩
end
end RS
namespace RS
open PySem PySem.Spec PyProof.Rows L2
def topS (i : Nat) : Stmt := PySem.Challenge.pw_ringseat_k03_room.main.body.getD i (.Pass ⟨0, 0, 0, 0⟩)
/-- the built-in names that the text reads are still the built-in ones -/
structure Bl (mg : Str → Option Value) : Prop where
  bool : mg "bool" = none
  int : mg "int" = none
  isinstance : mg "isinstance" = none
  len : mg "len" = none
  max : mg "max" = none
  min : mg "min" = none
  range : mg "range" = none
abbrev s_room : Stmt := topS 1
theorem sc_room : FnScope ["count", "size"] ["count"] (defScope s_room) := ⟨rfl, rfl, rfl, by decide +kernel, rfl, by decide +kernel, by decide +kernel⟩
theorem ok_room {P : Program} {w : World} {K : PySem.W.Frag} {mg : Str → Option Value} {base : Heap} {C : Cs} {f : Addr} {fd : FuncData} (F : Fun K "room" "room" s_room f fd) (B : Bl mg) :
    FnOk P w K mg base CX0 1 f fd ["count"] (sp_room K C) := by
  refine F.ok sc_room (fun vs H Q E h => len_room h) (fun cdv A outer s H vs Q E hr h => ⟨t_room K C E, ?_, pure_room h⟩)
  have hu := hu_of hr
  exact (pss_cons (ps_set (i := 1) sc_room.nd rfl (.inl rfl) pe_int)
      (pss_cons (ps_while PassesOwn.never (pt_cmpR op_gt (pe_op op_mul pe_int (pv 0)) (pe_op op_mul pe_int (pv 1)) (nomark _)) (pss_one (ps_set (i := 1) sc_room.nd rfl (.inl rfl) (pe_op op_mul pe_int (pv 1)))))
      (pss_one (ps_ret (pv 1)))))
theorem cal_room {P : Program} {w : World} {K : PySem.W.Frag} {mg : Str → Option Value} {base : Heap} {C : Cs} (D : Def K mg "room" s_room) (B : Bl mg) :
    Cal P w K mg base CX0 1 "room" ["count"] (sp_room K C) := by
  obtain ⟨f, fd, F, hm⟩ := D.ex
  exact ⟨f, fd, ok_room F B, hm, F.kp, F.binds (ps := ["count"]) fun _ _ _ _ _ _ us hl => match us, hl with | [_], _ => rfl⟩
abbrev s_law_cell_at : Stmt := topS 3
theorem sc_law_cell_at : FnScope ["_law_script", "_law_k"] ["_law_script", "_law_k"] (defScope s_law_cell_at) := ⟨rfl, rfl, rfl, by decide +kernel, rfl, by decide +kernel, by decide +kernel⟩
theorem ok_law_cell_at {P : Program} {w : World} {K : PySem.W.Frag} {mg : Str → Option Value} {base : Heap} {C : Cs} {f : Addr} {fd : FuncData} (F : Fun K "_law_cell_at" "_law_cell_at" s_law_cell_at f fd) (B : Bl mg) :
    FnOk P w K mg base CX0 1 f fd ["_law_script", "_law_k"] (sp_law_cell_at K C) := by
  refine F.ok sc_law_cell_at (fun vs H Q E h => len_law_cell_at h) (fun cdv A outer s H vs Q E hr h => ⟨t_law_cell_at K C E, ?_, pure_law_cell_at h⟩)
  have hu := hu_of hr
  exact (pss_cons (ps_if (pt_cmpR op_lt (pv 1) (pe_callB call_len_seq (by rfl) B.len (by decide +kernel) (pa_cons (pv 0) pa_nil)) (nomark _)) (pss_one (ps_ret (pe_ix ix_list (pv 0) (pv 1) (fun _ _ => rfl)))) pss_nil)
      (pss_one (ps_ret pe_int)))
theorem cal_law_cell_at {P : Program} {w : World} {K : PySem.W.Frag} {mg : Str → Option Value} {base : Heap} {C : Cs} (D : Def K mg "_law_cell_at" s_law_cell_at) (B : Bl mg) :
    Cal P w K mg base CX0 1 "_law_cell_at" ["_law_script", "_law_k"] (sp_law_cell_at K C) := by
  obtain ⟨f, fd, F, hm⟩ := D.ex
  exact ⟨f, fd, ok_law_cell_at F B, hm, F.kp, F.binds (ps := ["_law_script", "_law_k"]) fun _ _ _ _ _ _ us hl => match us, hl with | [_, _], _ => rfl⟩
abbrev s_law_whole : Stmt := topS 4
theorem sc_law_whole : FnScope ["_law_found"] ["_law_found"] (defScope s_law_whole) := ⟨rfl, rfl, rfl, by decide +kernel, rfl, by decide +kernel, by decide +kernel⟩
theorem ok_law_whole {P : Program} {w : World} {K : PySem.W.Frag} {mg : Str → Option Value} {base : Heap} {C : Cs} {f : Addr} {fd : FuncData} (F : Fun K "_law_whole" "_law_whole" s_law_whole f fd) (B : Bl mg) :
    FnOk P w K mg base CX0 1 f fd ["_law_found"] (sp_law_whole K C) := by
  refine F.ok sc_law_whole (fun vs H Q E h => len_law_whole h) (fun cdv A outer s H vs Q E hr h => ⟨t_law_whole K C E, ?_, pure_law_whole h⟩)
  have hu := hu_of hr
  exact (pss_one (ps_ret (pe_and (pe_callB call_isA (by rfl) B.isinstance (by decide +kernel) (pa_cons (pv 0) (pa_cons (pe_bltn (v := .ty "int") (by rfl) B.int (by decide +kernel) rfl) pa_nil))) (pe_one (pe_not (pe_callB call_isA (by rfl) B.isinstance (by decide +kernel) (pa_cons (pv 0) (pa_cons (pe_bltn (v := .ty "bool") (by rfl) B.bool (by decide +kernel) rfl) pa_nil))))))))
theorem cal_law_whole {P : Program} {w : World} {K : PySem.W.Frag} {mg : Str → Option Value} {base : Heap} {C : Cs} (D : Def K mg "_law_whole" s_law_whole) (B : Bl mg) :
    Cal P w K mg base CX0 1 "_law_whole" ["_law_found"] (sp_law_whole K C) := by
  obtain ⟨f, fd, F, hm⟩ := D.ex
  exact ⟨f, fd, ok_law_whole F B, hm, F.kp, F.binds (ps := ["_law_found"]) fun _ _ _ _ _ _ us hl => match us, hl with | [_], _ => rfl⟩
abbrev s_law : Stmt := topS 5
theorem sc_law : FnScope ["_law_script", "_law_k", "_law_cell", "_law_count", "_law_found"] ["_law_script"] (defScope s_law) := ⟨rfl, rfl, rfl, by decide +kernel, rfl, by decide +kernel, by decide +kernel⟩
theorem ok_law {P : Program} {w : World} {K : PySem.W.Frag} {mg : Str → Option Value} {base : Heap} {C : Cs} {f : Addr} {fd : FuncData} (F : Fun K "law" "law" s_law f fd) (B : Bl mg) (c_law_cell_at : Cal P w K mg base CX0 1 "_law_cell_at" ["_law_script", "_law_k"] (sp_law_cell_at K C)) (c_room : Cal P w K mg base CX0 1 "room" ["count"] (sp_room K C)) (c_law_whole : Cal P w K mg base CX0 1 "_law_whole" ["_law_found"] (sp_law_whole K C)) :
    FnOk P w K mg base CX0 2 f fd ["_law_script"] (sp_law K C) := by
  refine F.ok sc_law (fun vs H Q E h => len_law h) (fun cdv A outer s H vs Q E hr h => ⟨t_law K C E, ?_, pure_law h⟩)
  have hu := hu_of hr
  exact (pss_cons (ps_for PassesOwn.never rfl (pi_range1 (by rfl) B.range (pa_cons (pe_callB (call_max2 rfl) (by rfl) B.max (by decide +kernel) (pa_cons pe_int (pa_cons (pe_callB (call_min2 rfl) (by rfl) B.min (by decide +kernel) (pa_cons (pe_callB call_len_seq (by rfl) B.len (by decide +kernel) (pa_cons (pv 0) pa_nil)) (pa_cons pe_int pa_nil))) pa_nil))) pa_nil)) (pg_name (i := 1) sc_law.nd rfl (.inl rfl)) (pss_cons (ps_set (i := 2) sc_law.nd rfl (.inl rfl) (pe_fn c_law_cell_at (hr.mono (by decide)) pass0 (pa_cons (pv 0) (pa_cons (pv 1) pa_nil))))
      (pss_cons (ps_set (i := 3) sc_law.nd rfl (.inl rfl) (pe_op op_mod (pe_op op_fdiv (pv 2) pe_int) pe_int))
      (pss_cons (ps_if (pt_cmpR op_eq (pe_op op_mod (pv 2) pe_int) pe_int (nomark _)) (pss_one (ps_set (i := 3) sc_law.nd rfl (.inl rfl) (pe_ix ix_list (pe_lst (pa_cons pe_int (pa_cons pe_int (pa_cons pe_int (pa_cons pe_int (pa_cons pe_int (pa_cons pe_int (pa_cons pe_int (pa_cons pe_int (pa_cons pe_int (pa_cons pe_int (pa_cons pe_int (pa_cons pe_int pa_nil))))))))))))) (pe_op op_mod (pe_op op_fdiv (pv 2) pe_int) pe_int) (fun _ _ => rfl)))) pss_nil)
      (pss_cons (ps_set (i := 4) sc_law.nd rfl (.inl rfl) (pe_fn c_room (hr.mono (by decide)) pass0 (pa_cons (pv 3) pa_nil)))
      (pss_cons (ps_if (PW.pt (pw_or (pt_not (pt_val (pe_fn c_law_whole (hr.mono (by decide)) pass0 (pa_cons (pv 4) pa_nil)))) (pw_or1 (pt_cmpR op_notIn_seq (pv 4) (pe_tup (pa_cons pe_int (pa_cons pe_int (pa_cons pe_int (pa_cons pe_int (pa_cons pe_int (pa_cons pe_int pa_nil))))))) (by rfl))))) (pss_one (ps_ret pe_bl)) pss_nil)
      (pss_cons (ps_if (pt_cmpR op_gt (pe_op op_mul pe_int (pv 3)) (pe_op op_mul pe_int (pv 4)) (nomark _)) (pss_one (ps_ret pe_bl)) pss_nil)
      (pss_one (ps_if (PW.pt (pw_and (pt_cmpR op_gt (pv 4) pe_int (nomark _)) (pw_and1 (pt_cmpR op_le (pe_op op_mul pe_int (pv 3)) (pe_op op_mul pe_int (pe_op op_fdiv (pv 4) pe_int)) (nomark _))))) (pss_one (ps_ret pe_bl)) pss_nil)))))))))
      (pss_one (ps_ret pe_bl)))
end RS
namespace RS
open PySem PySem.Spec PyProof.Rows L2
theorem all_mk {l : PySem.W.OpenLaw} {w : World} {K : PySem.W.Frag} {h : Heap} {mg : Str → Option Value} {fa : Addr} (X : K.In h) (G : h.Ns mainGlobals mg) (hfa : mg "law" = some (.ref fa)) (C : Cs)
    (d_room : Def K mg "room" s_room)
    (d_law_cell_at : Def K mg "_law_cell_at" s_law_cell_at)
    (d_law_whole : Def K mg "_law_whole" s_law_whole)
    (d_law : Def K mg "law" s_law)
    (z_bool : PySem.W.nsIn K mainGlobals "bool" = some none) (z_int : PySem.W.nsIn K mainGlobals "int" = some none) (z_isinstance : PySem.W.nsIn K mainGlobals "isinstance" = some none) (z_len : PySem.W.nsIn K mainGlobals "len" = some none) (z_max : PySem.W.nsIn K mainGlobals "max" = some none) (z_min : PySem.W.nsIn K mainGlobals "min" = some none) (z_range : PySem.W.nsIn K mainGlobals "range" = some none) :
    ∃ fd : FuncData, (∀ (s : Shared) (v : Value), BindsTo s fd ⟨[v], []⟩ [("_law_script", v)]) ∧ ∀ base : Heap, K.In base → base.Ns mainGlobals mg → FnOk l.prog w K mg base CX0 2 fa fd ["_law_script"] (sp_law K C) := by
  have B : Bl mg := ⟨PySem.W.mg_none_of X G z_bool, PySem.W.mg_none_of X G z_int, PySem.W.mg_none_of X G z_isinstance, PySem.W.mg_none_of X G z_len, PySem.W.mg_none_of X G z_max, PySem.W.mg_none_of X G z_min, PySem.W.mg_none_of X G z_range⟩
  obtain ⟨f, fd, F, hm⟩ := d_law.ex
  have e := hfa.symm.trans hm
  cases e
  refine ⟨fd, fun s v => ?_, fun base _ _ => ?_⟩
  · obtain ⟨oc, od, kV, doc, pm, an, cdv, ct, osl, rfl, lk, hcd⟩ := F.ex
    exact .of_eq rfl
  · have c_room := cal_room (P := l.prog) (w := w) (base := base) (C := C) d_room B 
    have c_law_cell_at := cal_law_cell_at (P := l.prog) (w := w) (base := base) (C := C) d_law_cell_at B 
    have c_law_whole := cal_law_whole (P := l.prog) (w := w) (base := base) (C := C) d_law_whole B 
    exact ok_law F B c_law_cell_at c_room c_law_whole
theorem fin {l : PySem.W.OpenLaw} {q : Program} {loose : List Str} {XP : (Str → Option Value) → Heap → Prop} {YP : World → Heap → Prop} {d : DefRec} {K : Params → PySem.W.Frag} (hn : l.most = some 63) (hdf : d.params.defaults = [])
    (hY : ∀ (w : World) (h : Heap), YP w h → (K w.params).In h)
    (F : ∀ (w : World) (mg : Str → Option Value) (fa : Addr) (h : Heap), (K w.params).In h → h.Ns mainGlobals mg → mg d.name = some (.ref fa) → ∃ C : Cs,
      ∃ fd : FuncData, (∀ (s : Shared) (u : Value), BindsTo s fd ⟨[u], []⟩ [("_law_script", u)]) ∧ ∀ base : Heap, (K w.params).In base → base.Ns mainGlobals mg → FnOk l.prog w (K w.params) mg base CX0 2 fa fd ["_law_script"] (sp_law (K w.params) C)) :
    PySem.W.WalkO q loose XP YP l.row.toRowW d [] (fun f vs => PySem.call f vs) :=
  L2.walk_of (n := 63) (k := 2) (x := "_law_script") (CX := fun _ => CX0) (sp := fun w => sp_law0 (K w.params)) hn (by decide) hdf ⟨rfl, by decide, by decide⟩ hY
    (fun w mg fa h a b c => by
      obtain ⟨C, fd, h1, h2⟩ := F w mg fa h a b c
      exact ⟨fd, h1, h2⟩)
    (fun _ _ a ns hl _ hS => ⟨a, ns, rfl, hS, hl, fun _ => rfl⟩) fun _ _ _ _ _ z => z
end RS
open PySem PySem.W PyProof.Rows
set_option maxRecDepth 100000 in
set_option maxHeartbeats 0 in
theorem PySem.Challenge.cw_ringseat_k03_room_holds : PySem.Challenge.rw_ringseat_k03_room.Holds := by
  w_on; o_law; k_head; (case hw => w_witness2)
  k_fill
  refine RS.fin (l := PySem.Challenge.rw_ringseat_k03_room) rfl rfl (fun w h Y => PySem.W.kIn_of Y) ?F
  case F =>
    intro w mg fa h KX G hmg
    refine ⟨⟨0, 0, 0, 0, 0, 0, 0⟩, ?_⟩
    refine' RS.all_mk KX G hmg _ (RS.def_mk KX G ?a_room ?l_room ?c_room ?k_room) (RS.def_mk KX G ?a_law_cell_at ?l_law_cell_at ?c_law_cell_at ?k_law_cell_at) (RS.def_mk KX G ?a_law_whole ?l_law_whole ?c_law_whole ?k_law_whole) (RS.def_mk KX G ?a_law ?l_law ?c_law ?k_law) ?z_bool ?z_int ?z_isinstance ?z_len ?z_max ?z_min ?z_range
    (case a_room => k_is); (case l_room => k_is); (case c_room => k_is); (case k_room => k_is)
    (case a_law_cell_at => k_is); (case l_law_cell_at => k_is); (case c_law_cell_at => k_is); (case k_law_cell_at => k_is)
    (case a_law_whole => k_is); (case l_law_whole => k_is); (case c_law_whole => k_is); (case k_law_whole => k_is)
    (case a_law => k_is); (case l_law => k_is); (case c_law => k_is); (case k_law => k_is)
    (case z_bool => k_is); (case z_int => k_is); (case z_isinstance => k_is); (case z_len => k_is); (case z_max => k_is); (case z_min => k_is); (case z_range => k_is)
