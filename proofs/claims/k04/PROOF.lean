import PyProof.Rows.All
import Wide.All
import OpenK.AllK
import Wide.FinOn
import HandS.ForMost
import HandS.Exc
import HandS.Wide
import HandS.WideBits
import HandS.IsInst
import HandS.Flow
import HandS.EndBits
import PySem.Challenge.RW_feastwheel_k04_ahead_and_back
set_option Elab.async false
set_option linter.all false
set_option maxRecDepth 100000
set_option maxHeartbeats 4000000
namespace FW
open PySem PySem.Spec PyProof.Rows L2
/-! ### heaps -/
theorem same_t {K : PySem.W.Frag} {H H' : Hp} {a : Addr} {xs : List V} (e : Same H H') (h : SqT K H a xs) : SqT K H' a xs := by
  rcases h with (h | ⟨o, h⟩) | h
  · exact .inl (.inl (e _ _ h))
  · exact .inl (.inr ⟨o, e _ _ h⟩)
  · exact .inr h
theorem same_l {K : PySem.W.Frag} {H H' : Hp} {a : Addr} {xs : List V} (e : Same H H') (h : SqL K H a xs) : SqL K H' a xs := e.seq h
theorem same_at {H H' : Hp} {a : Addr} {o : HO} (e : Same H H') (h : H a = some o) : H' a = some o := e _ _ h
theorem same_new {H : Hp} {p : Addr} {o : HO} (h : H p = none) : Same H (upd H p o) := fun b x e => by
  rw [upd_ne (ne_of_none e h)]
  exact e
theorem same_mut {H H' : Hp} {p : Addr} {o : HO} (e : Same H H') (h : H p = none) : Same H (upd H' p o) := fun a u ha => by
  rw [upd_ne (ne_of_none ha h)]
  exact e a u ha
section
variable {K : PySem.W.Frag} {σ : L2.St} {H H1 : Hp} {Q : VK} {D : Ends} {i : Nat} {v x y : V} {ta tb tc te : TE} {t u : TT} {tr : TA} {m n : Int} {a b : Int} {r r' : R2}
/-! ### steps: expressions -/
theorem k_var (h : σ[i]? = some (some v)) (q : Q v H) : tVar i σ H Q := ⟨v, h, q⟩
theorem k_c (q : Q v H) : tC v σ H Q := q
theorem k_op (h : ta σ H fun x H1 => tb σ H1 fun y H2 => r x y H2 Q) : tOp r ta tb σ H Q := h
theorem k_un {r : V → Hp → VK → Prop} (h : ta σ H fun x H1 => r x H1 Q) : tUn r ta σ H Q := h
theorem k_I0 {g : Int → Int → V} (q : Q (g a b) H) : rI0 g (.int a) (.int b) H Q := ⟨a, b, rfl, rfl, q⟩
theorem k_I {C : Int → Int → Prop} {g : Int → Int → V} (c : C a b) (q : Q (g a b) H) : rI C g (.int a) (.int b) H Q := ⟨a, b, rfl, rfl, c, q⟩
theorem k_U {g : Int → V} (q : Q (g a) H) : rU g (.int a) H Q := ⟨a, rfl, q⟩
theorem k_nil {Q : List V → Hp → Prop} (q : Q [] H) : tNil σ H Q := q
theorem k_cons {Q : List V → Hp → Prop} (h : ta σ H fun x H1 => tr σ H1 fun xs H2 => Q (x :: xs) H2) : tCons ta tr σ H Q := h
theorem k_cb {r : List V → Hp → VK → Prop} (h : tr σ H fun vs H1 => r vs H1 Q) : tCB r tr σ H Q := h
theorem k_call {sp : Sp} {E : XK} (h : tr σ H fun vs H1 => sp vs H1 Q E) : tCall sp [] E tr σ H Q := by
  show tr σ H fun vs H1 => sp (vs ++ []) H1 Q E
  simp only [List.append_nil]
  exact h
def NewT (xs : List V) (H : Hp) (Q : VK) : Prop := xs.length ≤ sizeLine ∧ ∀ p, H p = none → Q (.ref p) (upd H p (.tup xs))
def NewL (xs : List V) (H : Hp) (Q : VK) : Prop := xs.length ≤ sizeLine ∧ ∀ p, H p = none → Q (.ref p) (upd H p (.lst xs))
theorem k_tup (h : tr σ H fun xs H1 => NewT xs H1 Q) : tTup tr σ H Q := h
theorem k_lst (h : tr σ H fun xs H1 => NewL xs H1 Q) : tLst tr σ H Q := h
theorem k_newtup {xs : List V} (hl : xs.length ≤ 1000) (h : ∀ p H2, H p = none → Same H H2 → SqT K H2 p xs → Q (.ref p) H2) : NewT xs H Q :=
  ⟨Nat.le_trans hl (by decide), fun p hp => h p _ hp (same_new hp) (SqT.of upd_same)⟩
theorem k_newlst {xs : List V} (hl : xs.length ≤ 1000) (h : ∀ p H2, H p = none → Same H H2 → H2 p = some (.lst xs) → Q (.ref p) H2) : NewL xs H Q :=
  ⟨Nat.le_trans hl (by decide), fun p hp => h p _ hp (same_new hp) upd_same⟩
theorem k_ifx {Q : VK} (h : t σ H fun c H1 => if c = true then ta σ H1 Q else tb σ H1 Q) : tIf t ta tb σ H Q := h
theorem k_andV (h : ta σ H fun x H1 => ∃ c, x = .bl c ∧ if c = true then tb σ H1 Q else Q (.bl false) H1) : tAndV ta tb σ H Q := h
theorem k_orV (h : ta σ H fun x H1 => ∃ c, x = .bl c ∧ if c = true then Q (.bl true) H1 else tb σ H1 Q) : tOrV ta tb σ H Q := h
theorem k_notV (h : ta σ H fun x H1 => ∃ c, x = .bl c ∧ Q (.bl (!c)) H1) : tNotV ta σ H Q := h
theorem k_chain (h : ta σ H fun x H1 => tb σ H1 fun y H2 => r x y H2 fun z H3 => ∃ k, z = .bl k ∧ (if k = true then tc σ H3 fun w' H4 => r' y w' H4 Q else Q (.bl false) H3)) : tChain r r' ta tb tc σ H Q := h
/-- a truth value told -/
theorem k_bl {p : Bool → Prop} {c : Bool} (h : p c) : ∃ k, V.bl c = .bl k ∧ p k := ⟨c, rfl, h⟩
/-! ### steps: tests -/
theorem k_test {Q : Bool → Hp → Prop} (h : ta σ H fun x H' => ∃ k, x = .bl k ∧ Q k H') : tTest ta σ H Q := h
theorem k_B {Q : Bool → Hp → Prop} (h : ta σ H fun x H' => ∃ k, x = .bl k ∧ Q k H') : tB ta σ H Q := h
theorem k_and {Q : Bool → Hp → Prop} (h : t σ H fun c H1 => if c = true then u σ H1 Q else Q false H1) : tAnd t u σ H Q := h
theorem k_or {Q : Bool → Hp → Prop} (h : t σ H fun c H1 => if c = true then Q true H1 else u σ H1 Q) : tOr t u σ H Q := h
theorem k_not {Q : Bool → Hp → Prop} (h : t σ H fun c H1 => Q (!c) H1) : tNot t σ H Q := h
/-! ### branches -/
theorem if_dec {p A B : Prop} [Decidable p] (h1 : p → A) (h2 : ¬ p → B) : if decide p = true then A else B := by
  by_cases h : p
  · rw [if_pos (decide_eq_true h)]; exact h1 h
  · rw [if_neg (by rw [decide_eq_false h]; decide)]; exact h2 h
theorem if_ndec {p A B : Prop} [Decidable p] (h1 : ¬ p → A) (h2 : p → B) : if (!decide p) = true then A else B := by
  by_cases h : p
  · rw [if_neg (by rw [decide_eq_true h]; decide)]; exact h2 h
  · rw [if_pos (by rw [decide_eq_false h]; rfl)]; exact h1 h
theorem if_b {c : Bool} {A B : Prop} (h1 : c = true → A) (h2 : c = false → B) : if c = true then A else B := by
  cases c with
  | true => rw [if_pos rfl]; exact h1 rfl
  | false => rw [if_neg Bool.false_ne_true]; exact h2 rfl
theorem if_t {A B : Prop} (h : A) : if true = true then A else B := iteT h
theorem if_f {A B : Prop} (h : B) : if false = true then A else B := iteF h
theorem if_nt {A B : Prop} (h : A) : if (!false) = true then A else B := iteT h
theorem if_nf {A B : Prop} (h : B) : if (!true) = true then A else B := iteF h
theorem fin_t {c : Bool} (hc : c = true) (q : Q (.bl true) H) : Q (.bl c) H := by rw [hc]; exact q
/-! ### steps: statements -/
theorem k_seq {t u : TS} (h : t { D with nx := u D } σ H) : tSeq t u D σ H := h
theorem k_seqA {g : TG} {u : TS} (h : tAsg te g { D with nx := u D } σ H) : tSeq (tAsg te g) u D σ H := h
theorem k_seqD {u : TS} (h : tDrop te { D with nx := u D } σ H) : tSeq (tDrop te) u D σ H := h
theorem k_seqP {i j : Nat} {u : TS} (h : tPar i j tr { D with nx := u D } σ H) : tSeq (tPar i j tr) u D σ H := h
theorem k_seqI {t u : TS} {c : TT} {w : TS} (h : c σ H fun b H1 => if b = true then t { D with nx := w D } σ H1 else u { D with nx := w D } σ H1) : tSeq (tIfS c t u) w D σ H := h
theorem k_nx {f : L2.St → Hp → Prop} {r : VK} {b c : L2.St → Hp → Prop} (h : f σ H) : Ends.nx ⟨f, r, b, c⟩ σ H := h
theorem k_rt {f : L2.St → Hp → Prop} {r : VK} {b c : L2.St → Hp → Prop} (h : r v H) : Ends.rt ⟨f, r, b, c⟩ v H := h
theorem k_next (h : D.nx σ H) : tNext D σ H := h
theorem k_asg {i : Nat} (h : te σ H fun x H1 => D.nx (σ.set i (some x)) H1) : tAsg te (gName i) D σ H := h
theorem k_asgG {g : TG} (h : te σ H fun x H1 => g x σ H1 D.nx) : tAsg te g D σ H := h
theorem k_gname {Q : L2.St → Hp → Prop} (h : Q (σ.set i (some v)) H) : gName i v σ H Q := h
theorem k_par {i j : Nat} (h : tr σ H fun vs H1 => ∃ v w, vs = [v, w] ∧ D.nx ((σ.set i (some v)).set j (some w)) H1) : tPar i j tr D σ H := h
theorem k_par2 {P : V → V → Prop} {x y : V} (h : P x y) : ∃ v w, [x, y] = [v, w] ∧ P v w := ⟨x, y, rfl, h⟩
theorem k_drop (h : te σ H fun _ H1 => D.nx σ H1) : tDrop te D σ H := h
theorem k_ret (h : te σ H D.rt) : tRet te D σ H := h
theorem k_retN (h : D.rt .non H) : tRetN D σ H := h
theorem k_if {t u : TS} {c : TT} (h : c σ H fun b H1 => if b = true then t D σ H1 else u D σ H1) : tIfS c t u D σ H := h
theorem k_cutI {t u w : TS} {c : TT} (P : L2.St → Hp → Prop) (h1 : ∀ N : L2.St → Hp → Prop, (∀ σ' H', P σ' H' → N σ' H') → c σ H fun b H1 => if b = true then t { D with nx := N } σ H1 else u { D with nx := N } σ H1) (h2 : ∀ σ' H', P σ' H' → w D σ' H') : tSeq (tIfS c t u) w D σ H := h1 _ h2
/-- the ways of a statement meet again: what holds behind it -/
theorem k_cut {t u : TS} (P : L2.St → Hp → Prop) (h1 : ∀ N : L2.St → Hp → Prop, (∀ σ' H', P σ' H' → N σ' H') → t { D with nx := N } σ H) (h2 : ∀ σ' H', P σ' H' → u D σ' H') : tSeq t u D σ H := h1 _ h2
/-! ### operators by values -/
def rAddA : R2 := fun x y H Q => rI0 (fun i j => .int (i + j)) x y H Q ∨ (∃ i j, x = .str i ∧ y = .str j ∧ i.length + j.length ≤ sizeLine ∧ Q (.str (i ++ j)) H) ∨ rCat x y H Q
theorem op_addA {X : Cx} : OpR X (binaryOp .Add) rAddA := op_add.or (op_add_str.or op_cat)
theorem k_add (q : Q (.int (a + b)) H) : rAddA (.int a) (.int b) H Q := .inl ⟨a, b, rfl, rfl, q⟩
def rEqA (K : PySem.W.Frag) : R2 := fun x y H Q => rEq x y H Q ∨ rEqD K x y H Q
def rNeA (K : PySem.W.Frag) : R2 := fun x y H Q => rNe x y H Q ∨ rNeD K x y H Q
theorem op_eqA {X : Cx} (hu : X.A.units + 64 < cLine) : OpR X (compareOp .Eq) (rEqA X.K) := op_eq.or (op_eqD hu)
theorem op_neA {X : Cx} (hu : X.A.units + 64 < cLine) : OpR X (compareOp .NotEq) (rNeA X.K) := op_ne.or (op_neD hu)
theorem dec_i : decide (V.int a = V.int b) = decide (a = b) := by
  by_cases h : a = b
  · subst h; simp
  · rw [decide_eq_false h, decide_eq_false (fun e => h (V.int.inj e))]
theorem dec_b {a b : Bool} : decide (V.bl a = V.bl b) = decide (a = b) := by
  by_cases h : a = b
  · subst h; simp
  · rw [decide_eq_false h, decide_eq_false (fun e => h (V.bl.inj e))]
theorem dec_s {a b : Str} : decide (V.str a = V.str b) = decide (a = b) := by
  by_cases h : a = b
  · subst h; simp
  · rw [decide_eq_false h, decide_eq_false (fun e => h (V.str.inj e))]
theorem k_eq (q : Q (.bl (decide (a = b))) H) : rEqA K (.int a) (.int b) H Q := .inl ⟨rfl, by rw [dec_i]; exact q⟩
theorem k_ne (q : Q (.bl (!decide (a = b))) H) : rNeA K (.int a) (.int b) H Q := .inl ⟨rfl, by rw [dec_i]; exact q⟩
theorem k_eqb {a b : Bool} (q : Q (.bl (decide (a = b))) H) : rEqA K (.bl a) (.bl b) H Q := .inl ⟨rfl, by rw [dec_b]; exact q⟩
theorem k_neb {a b : Bool} (q : Q (.bl (!decide (a = b))) H) : rNeA K (.bl a) (.bl b) H Q := .inl ⟨rfl, by rw [dec_b]; exact q⟩
theorem k_eqs {a b : Str} (q : Q (.bl (decide (a = b))) H) : rEqA K (.str a) (.str b) H Q := .inl ⟨rfl, by rw [dec_s]; exact q⟩
theorem k_nes {a b : Str} (q : Q (.bl (!decide (a = b))) H) : rNeA K (.str a) (.str b) H Q := .inl ⟨rfl, by rw [dec_s]; exact q⟩
theorem k_ixT {p : Addr} {xs : List V} {i : Int} (h : SqT K H p xs) (ha : atI xs i = some v) (q : Q v H) : rIx K (.ref p) (.int i) H Q := .inr (.inl ⟨p, xs, i, v, rfl, rfl, h, ha, q⟩)
theorem k_ixL {p : Addr} {xs : List V} {i : Int} (h : SqL K H p xs) (ha : atI xs i = some v) (q : Q v H) : rIx K (.ref p) (.int i) H Q := .inl ⟨p, xs, i, v, rfl, rfl, h, ha, q⟩
theorem inV_ints {a : Int} : ∀ l : List Int, inV (.int a) (l.map V.int) = decide (a ∈ l)
  | [] => rfl
  | x :: r => by
    have ih := inV_ints (a := a) r
    show (inV (.int a) (.int x :: r.map V.int)) = _
    unfold inV at ih ⊢
    rw [List.any_cons, ih]
    have e : eqV (.int x) (.int a) = decide (a = x) := by
      show (x == a) = decide (a = x)
      by_cases h : a = x
      · subst h; simp
      · rw [decide_eq_false h]; simpa using fun e => h e.symm
    by_cases h : a = x
    · subst h; simp [e]
    · simp [e, h]
theorem flat_ints : ∀ l : List Int, (l.map V.int).all flatV = true
  | [] => rfl
  | x :: r => by rw [List.map_cons, List.all_cons, flat_ints r]; rfl
theorem k_inL {neg : Bool} {p : Addr} {l : List Int} (h : SqL K H p (l.map V.int)) (q : Q (.bl (if neg then !decide (a ∈ l) else decide (a ∈ l))) H) : rIn K neg (.int a) (.ref p) H Q :=
  ⟨p, l.map V.int, rfl, .inl h, rfl, flat_ints l, by rw [inV_ints]; exact q⟩
theorem k_notinL {p : Addr} {l : List Int} (h : SqL K H p (l.map V.int)) (q : Q (.bl (!decide (a ∈ l))) H) : rIn K true (.int a) (.ref p) H Q := k_inL (neg := true) h q
theorem k_inL' {p : Addr} {l : List Int} (h : SqL K H p (l.map V.int)) (q : Q (.bl (decide (a ∈ l))) H) : rIn K false (.int a) (.ref p) H Q := k_inL (neg := false) h q
theorem inV2 {x y : Int} : inV (.int a) [.int x, .int y] = decide (a = x ∨ a = y) := by
  have h := inV_ints (a := a) [x, y]
  have e : (decide (a ∈ [x, y])) = decide (a = x ∨ a = y) := by
    have : a ∈ [x, y] ↔ (a = x ∨ a = y) := by simp
    simp [this]
  exact h.trans e
theorem k_notin2 {p : Addr} {x y : Int} (h : SqL K H p [.int x, .int y]) (q : Q (.bl (!decide (a = x ∨ a = y))) H) : rIn K true (.int a) (.ref p) H Q :=
  ⟨p, _, rfl, .inl h, rfl, rfl, by rw [inV2]; exact q⟩
theorem k_in2 {p : Addr} {x y : Int} (h : SqL K H p [.int x, .int y]) (q : Q (.bl (decide (a = x ∨ a = y))) H) : rIn K false (.int a) (.ref p) H Q :=
  ⟨p, _, rfl, .inl h, rfl, rfl, by rw [inV2]; exact q⟩
/-! ### calls of built-ins by values -/
def rAbs : List V → Hp → VK → Prop := fun xs H Q => ∃ i, xs = [.int i] ∧ Q (.int (if i < 0 then -i else i)) H
theorem cb_abs {X : Cx} : CallR X (.builtin "abs") rAbs := call_abs
theorem k_abs (q : Q (.int (if a < 0 then -a else a)) H) : rAbs [.int a] H Q := ⟨a, rfl, q⟩
def rMax2 : List V → Hp → VK → Prop := fun xs H Q => ∃ i j, xs = [.int i, .int j] ∧ Q (.int (if j > i then j else i)) H
theorem cb_max2 {X : Cx} (hc : X.calm = true) : CallR X (.builtin "max") rMax2 := call_max2 hc
theorem k_max2 (q : Q (.int (if b > a then b else a)) H) : rMax2 [.int a, .int b] H Q := ⟨a, b, rfl, q⟩
def rMin2 : List V → Hp → VK → Prop := fun xs H Q => ∃ i j, xs = [.int i, .int j] ∧ Q (.int (if j < i then j else i)) H
theorem cb_min2 {X : Cx} (hc : X.calm = true) : CallR X (.builtin "min") rMin2 := call_min2 hc
theorem k_min2 (q : Q (.int (if b < a then b else a)) H) : rMin2 [.int a, .int b] H Q := ⟨a, b, rfl, q⟩
def rLen (K : PySem.W.Frag) : List V → Hp → VK → Prop := fun xs H Q => ∃ x n, xs = [x] ∧ LenV K x H n ∧ Q (.int n) H
theorem cb_len {X : Cx} : CallR X (.builtin "len") (rLen X.K) := call_len
theorem k_lenL {p : Addr} {xs : List V} (h : SqL K H p xs) (q : Q (.int (xs.length : Int)) H) : rLen K [.ref p] H Q := ⟨.ref p, xs.length, rfl, .inl ⟨xs, h, rfl⟩, q⟩
theorem k_lenT {p : Addr} {xs : List V} (h : SqT K H p xs) (q : Q (.int (xs.length : Int)) H) : rLen K [.ref p] H Q := ⟨.ref p, xs.length, rfl, .inr ⟨xs, h, rfl⟩, q⟩
def rDivmod : List V → Hp → VK → Prop := fun xs H Q => ∃ i j, xs = [.int i, .int j] ∧ CDivP i j ∧ ∀ p, H p = none → Q (.ref p) (upd H p (.tup [.int (i / j), .int (i % j)]))
theorem cb_divmod {X : Cx} : CallR X (.builtin "divmod") rDivmod := call_divmodW
theorem k_divmod (c : CDivP a b) (h : ∀ p H2, H p = none → Same H H2 → SqT K H2 p [.int (a / b), .int (a % b)] → Q (.ref p) H2) : rDivmod [.int a, .int b] H Q :=
  ⟨a, b, rfl, c, fun p hp => h p _ hp (same_new hp) (SqT.of upd_same)⟩
def rInt : List V → Hp → VK → Prop := fun xs H Q => (∃ i, xs = [.int i] ∧ Q (.int i) H) ∨ ∃ k, xs = [.bl k] ∧ Q (.int (if k then 1 else 0)) H
theorem cb_int {X : Cx} : CallR X (.type "int") rInt := call_int1
theorem k_intI (q : Q (.int a) H) : rInt [.int a] H Q := .inl ⟨a, rfl, q⟩
theorem k_intB {c : Bool} (q : Q (.int (if c then 1 else 0)) H) : rInt [.bl c] H Q := .inr ⟨c, rfl, q⟩
theorem k_isi_ii (q : Q (.bl true) H) : rIsi K [.int a, .ty "int"] H Q := ⟨.int a, .ty "int", .type "int", .type "int", true, rfl, .ty _, .base (.int _), kit_ty (by decide +kernel), q⟩
theorem k_isi_ib (q : Q (.bl false) H) : rIsi K [.int a, .ty "bool"] H Q := ⟨.int a, .ty "bool", .type "int", .type "bool", false, rfl, .ty _, .base (.int _), kit_ty (by decide +kernel), q⟩
theorem k_isi_bb {c : Bool} (q : Q (.bl true) H) : rIsi K [.bl c, .ty "bool"] H Q := ⟨.bl c, .ty "bool", .type "bool", .type "bool", true, rfl, .ty _, .base (.bl _), kit_ty (by decide +kernel), q⟩
theorem k_isi_it (q : Q (.bl false) H) : rIsi K [.int a, .ty "tuple"] H Q := ⟨.int a, .ty "tuple", .type "int", .type "tuple", false, rfl, .ty _, .base (.int _), kit_ty (by decide +kernel), q⟩
theorem tyx_t {p : Addr} {xs : List V} (h : SqT K H p xs) : TyX K H (.ref p) (.type "tuple") := by
  rcases h with (h | ⟨o, h⟩) | ⟨o, its, n, l, c, _⟩
  · exact .base (.tup h)
  · exact .fTuple h
  · exact .kTuple l c
theorem k_isi_tt {p : Addr} {xs : List V} (h : SqT K H p xs) (q : Q (.bl true) H) : rIsi K [.ref p, .ty "tuple"] H Q := ⟨.ref p, .ty "tuple", .type "tuple", .type "tuple", true, rfl, .ty _, tyx_t h, kit_ty (by decide +kernel), q⟩
/-- a power of written numbers -/
theorem pe_powc {X : Cx} {b e n : Int} {j1 j2 : Nat} {p1 p2 pos : Pos} (h : (0 ≤ e ∧ e ≤ 1000000 ∧ b.natAbs < 2 ^ 64) ∧ b ^ e.toNat = n) : PE X (.BinOp (.Constant (.int b) j1 p1) .Pow (.Constant (.int e) j2 p2) pos) (tC (.int n)) :=
  ⟨fun pins s σ H Q I q => (pe_op (X := X) op_pow pe_int pe_int).run pins s σ H Q I ⟨b, e, rfl, rfl, h.1, by show Q (.int (b ^ e.toNat)) H; rw [h.2]; exact q⟩⟩
end
/-! ### sizes -/
structure Sm (n : Nat) (i : Int) : Prop where
  h : i.natAbs < 2 ^ n
theorem sm_mono {a b : Nat} {i : Int} (h : Sm a i) (hab : a ≤ b) : Sm b i := ⟨Nat.lt_of_lt_of_le h.h (Nat.pow_le_pow_right (by decide) hab)⟩
theorem sm41 {i : Int} (h1 : -100000000000000000000000000000000000000000 ≤ i) (h2 : i ≤ 100000000000000000000000000000000000000000) : Sm 137 i := by
  have e : (2 : Nat) ^ 137 = 174224571863520493293247799005065324265472 := by decide
  refine ⟨?_⟩
  rw [e]; omega
theorem sm_mul {i j : Int} {a b : Nat} (ha : Sm a i) (hb : Sm b j) : Sm (a + b) (i * j) := ⟨wide_lt ha.h hb.h⟩
theorem sm_bits {i : Int} {n : Nat} (h : Builtin.Int.intBits i ≤ n) : Sm n i := by
  unfold Builtin.Int.intBits at h
  split at h
  · rename_i z
    have : i = 0 := by simpa using z
    subst this
    exact ⟨Nat.pow_pos (by decide)⟩
  · rename_i z
    have hz : i.natAbs ≠ 0 := by
      intro q
      apply z
      have : i = 0 := by omega
      subst this
      decide
    exact ⟨Nat.lt_of_lt_of_le ((Nat.log2_lt hz).mp (Nat.lt_succ_self _)) (Nat.pow_le_pow_right (by decide) h)⟩
theorem sm_mulx {i j : Int} {a b : Nat} (ha : Sm a i) (hb : Sm b j) (h : a + b ≤ 134217728) : CMulX i j := mulx_ok ha.h hb.h h
theorem sm_div {i j : Int} {b : Nat} (h : 0 < j) (hb : Sm b j) (h0 : 0 < b) (h9 : b ≤ 9000) : CDivW i j := wide_div h hb.h h0 h9

/-! ### the walker: one step, by the head of the reading -/
local macro_rules | `(tactic| walk_at "hp") => `(tactic| first | assumption | (refine same_t (by assumption) ?_; walk_at "hp") | (refine same_l (by assumption) ?_; walk_at "hp") | (refine same_at (by assumption) ?_; walk_at "hp"))
local macro_rules | `(tactic| walk_at "hl") => `(tactic| first | walk_at "hp" | (refine SqL.of ?_; walk_at "hp"))
local macro_rules | `(tactic| walk_at "sm") => `(tactic| first | assumption | exact sm41 (by omega) (by omega) | (refine sm_mul ?_ ?_ <;> walk_at "sm"))
local macro_rules | `(tactic| walk_at "sd") => `(tactic| first
  | omega
  | decide +kernel
  | exact sm_div (b := 137) (by omega) (sm41 (by omega) (by omega)) (by decide) (by decide)
  | exact sm_mulx (by walk_at "sm") (by walk_at "sm") (by decide +kernel))
local macro_rules | `(tactic| walk_at "st") => `(tactic| first
  | (with_reducible apply k_seqA)
  | (with_reducible apply k_seqD)
  | (with_reducible apply k_seqP)
  | ((with_reducible apply k_var); (· rfl))
  | (with_reducible apply k_c)
  | (with_reducible apply k_op)
  | (with_reducible apply k_add)
  | (with_reducible apply k_I0)
  | (with_reducible apply k_asg)
  | (with_reducible apply k_call)
  | (with_reducible apply k_cb)
  | (with_reducible apply k_cons)
  | (with_reducible apply k_nil)
  | (with_reducible apply k_ret)
  | (with_reducible apply k_test)
  | (with_reducible apply k_eq)
  | (with_reducible apply k_ne)
  | (with_reducible apply k_bl)
  | ((with_reducible apply k_I); (· walk_at "sd"))
  | (with_reducible apply k_U)
  | (with_reducible apply k_un)
  | ((with_reducible apply k_ixT); (· walk_at "hp"); (· rfl))
  | ((with_reducible apply k_ixL); (· walk_at "hl"); (· rfl))
  | (with_reducible apply k_tup)
  | ((with_reducible apply k_newtup (K := K)); (· exact Nat.le_of_ble_eq_true rfl); intro p H' hn hs ht)
  | (with_reducible apply k_lst)
  | ((with_reducible apply k_newlst); (· exact Nat.le_of_ble_eq_true rfl); intro p H' hn hs ht)
  | (with_reducible apply k_B)
  | (with_reducible apply k_and)
  | (with_reducible apply k_or)
  | (with_reducible apply k_not)
  | (with_reducible apply k_andV)
  | (with_reducible apply k_orV)
  | (with_reducible apply k_notV)
  | (with_reducible apply k_chain)
  | (with_reducible apply k_eqb)
  | (with_reducible apply k_neb)
  | (with_reducible apply k_drop)
  | (with_reducible apply k_next)
  | (with_reducible apply if_t)
  | (with_reducible apply if_f)
  | (with_reducible apply if_nt)
  | (with_reducible apply if_nf)
  | (with_reducible apply k_isi_ii)
  | (with_reducible apply k_isi_ib)
  | (with_reducible apply k_isi_bb)
  | (with_reducible apply k_isi_it)
  | ((with_reducible apply k_isi_tt); (· walk_at "hp"))
  | (with_reducible apply k_abs)
  | (with_reducible apply k_max2)
  | (with_reducible apply k_min2)
  | ((with_reducible apply k_lenT); (· walk_at "hp"))
  | ((with_reducible apply k_lenL); (· walk_at "hl"))
  | (with_reducible apply k_intI)
  | (with_reducible apply k_intB)
  | (with_reducible apply k_par)
  | (with_reducible apply k_par2)
  | (with_reducible apply k_ifx)
  | (with_reducible apply k_gname)
  | (with_reducible apply k_asgG)
  | (with_reducible apply k_retN)
  | ((with_reducible apply k_notin2); (· walk_at "hl"))
  | ((with_reducible apply k_in2); (· walk_at "hl"))
  | ((with_reducible apply k_notinL); (· walk_at "hl"))
  | ((with_reducible apply k_inL'); (· walk_at "hl"))
  | ((with_reducible apply k_divmod); (· walk_at "sd"); intro p H' hn hs ht))
local macro_rules | `(tactic| walk_at "go") => `(tactic| repeat' walk_at "st")
/-- a branch: both ways, those that cannot be shut by omega -/
local macro_rules | `(tactic| walk_at "br") => `(tactic| (first | with_reducible apply if_dec | with_reducible apply if_ndec | with_reducible apply if_b) <;> intro hbr <;> first | (first | exact absurd (by assumption) hbr | exact absurd hbr (by assumption) | (exfalso; omega)) | skip)
/-- an if statement: its test walked, the ways that can be -/
local macro_rules | `(tactic| walk_at "if") => `(tactic| ((first | with_reducible apply k_seqI | with_reducible apply k_if); walk_at "go"; walk_at "br"))
/-- a branch of which omega shuts one way -/
local macro_rules | `(tactic| walk_at "br1") => `(tactic| first
  | (with_reducible apply if_dec; (· (intro hbr; first | exact absurd (by assumption) hbr | exact absurd hbr (by assumption) | (exfalso; omega))); intro hbr)
  | (with_reducible apply if_dec; rotate_left; (· (intro hbr; first | exact absurd (by assumption) hbr | exact absurd hbr (by assumption) | (exfalso; omega))); intro hbr)
  | (with_reducible apply if_ndec; (· (intro hbr; first | exact absurd (by assumption) hbr | exact absurd hbr (by assumption) | (exfalso; omega))); intro hbr)
  | (with_reducible apply if_ndec; rotate_left; (· (intro hbr; first | exact absurd (by assumption) hbr | exact absurd hbr (by assumption) | (exfalso; omega))); intro hbr))
local macro_rules | `(tactic| walk_at "run") => `(tactic| repeat' (first | walk_at "st" | walk_at "br1" | with_reducible apply k_seqI | with_reducible apply k_if))

theorem ahead_alike (r d s : Int) (hs : 1 ≤ s) : (d + (r - d) % s - r) % s = 0 := by
  have e : d + (r - d) % s - r = s * (-((r - d) / s)) := by
    have := Int.emod_add_mul_ediv (r - d) s
    rw [Int.mul_neg]; omega
  rw [e]; exact Int.mul_emod_right _ _
theorem back_alike (r d s : Int) (hs : 1 ≤ s) : (d - (d - r) % s - r) % s = 0 := by
  have e : d - (d - r) % s - r = s * ((d - r) / s) := by
    have := Int.emod_add_mul_ediv (d - r) s
    omega
  rw [e]; exact Int.mul_emod_right _ _
theorem two_mods (r d s : Int) (hs : 1 ≤ s) : ((r - d) % s = 0 ∧ (d - r) % s = 0) ∨ ((r - d) % s ≠ 0 ∧ (d - r) % s ≠ 0 ∧ (r - d) % s + (d - r) % s = s) := by
  have h1 := Int.emod_nonneg (r - d) (show s ≠ 0 by omega)
  have h2 := Int.emod_lt_of_pos (r - d) (show 0 < s by omega)
  have h3 := Int.emod_nonneg (d - r) (show s ≠ 0 by omega)
  have h4 := Int.emod_lt_of_pos (d - r) (show 0 < s by omega)
  have e1 := Int.emod_add_mul_ediv (r - d) s
  have e2 := Int.emod_add_mul_ediv (d - r) s
  have e3 : s * ((r - d) / s + (d - r) / s) = -((r - d) % s + (d - r) % s) := by rw [Int.mul_add]; omega
  generalize (r - d) % s = m at *
  generalize (d - r) % s = n at *
  generalize (r - d) / s + (d - r) / s = k at *
  by_cases hk : k ≥ 0
  · have : 0 ≤ s * k := Int.mul_nonneg (by omega) hk
    exact .inl ⟨by omega, by omega⟩
  · by_cases hk2 : k = -1
    · subst hk2
      refine .inr ⟨?_, ?_, ?_⟩ <;> omega
    · have h5 : s * (k + 2) ≤ s * 0 := Int.mul_le_mul_of_nonneg_left (by omega) (by omega)
      rw [Int.mul_add] at h5
      omega
theorem no_between (r d s t : Int) (hs : 1 ≤ s) : r + s * t ≤ d - (d - r) % s ∨ d + (r - d) % s ≤ r + s * t := by
  have h1 := Int.emod_nonneg (r - d) (show s ≠ 0 by omega)
  have h2 := Int.emod_lt_of_pos (r - d) (show 0 < s by omega)
  have h3 := Int.emod_nonneg (d - r) (show s ≠ 0 by omega)
  have h4 := Int.emod_lt_of_pos (d - r) (show 0 < s by omega)
  have e1 := Int.emod_add_mul_ediv (r - d) s
  have e2 := Int.emod_add_mul_ediv (d - r) s
  by_cases h : t ≤ (d - r) / s
  · have := Int.mul_le_mul_of_nonneg_left h (show (0 : Int) ≤ s by omega)
    exact .inl (by omega)
  · refine .inr ?_
    have : s * ((d - r) / s + 1) ≤ s * t := Int.mul_le_mul_of_nonneg_left (by omega) (show (0 : Int) ≤ s by omega)
    rw [Int.mul_add] at this
    have h5 := two_mods r d s hs
    omega

def topS (i : Nat) : Stmt := PySem.Challenge.pw_feastwheel_k04_ahead_and_back.main.body.getD i (.Pass ⟨0, 0, 0, 0⟩)
abbrev s_sized : Stmt := topS 4
theorem sc_sized : FnScope ["size"] ["size"] (defScope s_sized) := ⟨rfl, rfl, rfl, by decide +kernel, rfl, by decide +kernel, by decide +kernel⟩
abbrev s_ahead : Stmt := topS 5
theorem sc_ahead : FnScope ["rest", "size", "day"] ["rest", "size", "day"] (defScope s_ahead) := ⟨rfl, rfl, rfl, by decide +kernel, rfl, by decide +kernel, by decide +kernel⟩
abbrev s_back : Stmt := topS 6
theorem sc_back : FnScope ["rest", "size", "day"] ["rest", "size", "day"] (defScope s_back) := ⟨rfl, rfl, rfl, by decide +kernel, rfl, by decide +kernel, by decide +kernel⟩
abbrev s_Lcell_at : Stmt := topS 8
theorem sc_Lcell_at : FnScope ["_law_script", "_law_k"] ["_law_script", "_law_k"] (defScope s_Lcell_at) := ⟨rfl, rfl, rfl, by decide +kernel, rfl, by decide +kernel, by decide +kernel⟩
abbrev s_Lwhole : Stmt := topS 9
theorem sc_Lwhole : FnScope ["_law_found"] ["_law_found"] (defScope s_Lwhole) := ⟨rfl, rfl, rfl, by decide +kernel, rfl, by decide +kernel, by decide +kernel⟩
abbrev s_law : Stmt := topS 10
theorem sc_law : FnScope ["_law_script", "_law_size", "_law_rest", "_law_day", "_law_found", "_law_behind", "_law_alike"] ["_law_script"] (defScope s_law) := ⟨rfl, rfl, rfl, by decide +kernel, rfl, by decide +kernel, by decide +kernel⟩
structure Txt (K : PySem.W.Frag) (mg : Str → Option Value) where
  a_sized : Addr
  fd_sized : FuncData
  F_sized : Fun K "sized" "sized" s_sized a_sized fd_sized
  g_sized : mg "sized" = some (.ref a_sized)
  b_sized : Binds K fd_sized ["size"] []
  a_ahead : Addr
  fd_ahead : FuncData
  F_ahead : Fun K "ahead" "ahead" s_ahead a_ahead fd_ahead
  g_ahead : mg "ahead" = some (.ref a_ahead)
  b_ahead : Binds K fd_ahead ["rest", "size", "day"] []
  a_back : Addr
  fd_back : FuncData
  F_back : Fun K "back" "back" s_back a_back fd_back
  g_back : mg "back" = some (.ref a_back)
  b_back : Binds K fd_back ["rest", "size", "day"] []
  a_Lcell_at : Addr
  fd_Lcell_at : FuncData
  F_Lcell_at : Fun K "_law_cell_at" "_law_cell_at" s_Lcell_at a_Lcell_at fd_Lcell_at
  g_Lcell_at : mg "_law_cell_at" = some (.ref a_Lcell_at)
  b_Lcell_at : Binds K fd_Lcell_at ["_law_script", "_law_k"] []
  a_Lwhole : Addr
  fd_Lwhole : FuncData
  F_Lwhole : Fun K "_law_whole" "_law_whole" s_Lwhole a_Lwhole fd_Lwhole
  g_Lwhole : mg "_law_whole" = some (.ref a_Lwhole)
  b_Lwhole : Binds K fd_Lwhole ["_law_found"] []
  a_law : Addr
  fd_law : FuncData
  F_law : Fun K "law" "law" s_law a_law fd_law
  g_law : mg "law" = some (.ref a_law)
  b_law : Binds K fd_law ["_law_script"] []
  n_bool : mg "bool" = none
  n_int : mg "int" = none
  n_isinstance : mg "isinstance" = none
  n_len : mg "len" = none
section
variable {P : Program} {w : World} {K : PySem.W.Frag} {mg : Str → Option Value} {base : Heap}
/-! ### sized -/
def sp_sized (K : PySem.W.Frag) : Sp := fun vs H Q _ => ∃ i, vs = [.int i] ∧ 1 ≤ i ∧ Q .non H
theorem ok_sized (T : Txt K mg) : FnOk P w K mg base CX0 1 T.a_sized T.fd_sized ["size"] (sp_sized K) := by
  refine T.F_sized.ok sc_sized (fun vs H Q E h => ?_) (fun cdv A outer s H vs Q E hr h => ?_)
  · obtain ⟨i, rfl, _⟩ := h; rfl
  · obtain ⟨i, rfl, h1, q⟩ := h
    refine ⟨_, (pss_one (ps_if (pt_cmpR op_lt (pv 0) pe_int (nomark _)) (pss_one ps_never) pss_nil)), ?_⟩
    walk_at "if"; walk_at "go"; exact q
theorem k_sized {H : Hp} {Q : VK} {E : XK} {i : Int} (h1 : 1 ≤ i) (q : Q .non H) : sp_sized K [.int i] H Q E := ⟨i, rfl, h1, q⟩
local macro_rules | `(tactic| walk_at "st") => `(tactic| ((with_reducible apply k_sized); (· omega)))

/-! ### ahead -/
def sp_ahead (K : PySem.W.Frag) : Sp := fun vs H Q _ => ∃ r n d, vs = [.int r, .int n, .int d] ∧ 1 ≤ n ∧ Q (.int (d + (r - d) % n)) H
theorem ok_ahead (T : Txt K mg) : FnOk P w K mg base CX0 2 T.a_ahead T.fd_ahead ["rest", "size", "day"] (sp_ahead K) := by
  refine T.F_ahead.ok sc_ahead (fun vs H Q E h => ?_) (fun cdv A outer s H vs Q E hr h => ?_)
  · obtain ⟨_, _, _, rfl, _⟩ := h; rfl
  · obtain ⟨r, n, d, rfl, h1, q⟩ := h
    refine ⟨_, (pss_cons (ps_expr (pe_call (ok_sized T) (hr.mono (by decide)) (by rfl) T.g_sized T.F_sized.kp T.b_sized .nil pass0 (pa_cons (pv 1) pa_nil)))
        (pss_one (ps_ret (pe_op op_addA (pv 2) (pe_op op_mod (pe_op op_sub (pv 0) (pv 2)) (pv 1)))))), ?_⟩
    walk_at "go"
    exact q
theorem k_ahead {H : Hp} {Q : VK} {E : XK} {r n d : Int} (h1 : 1 ≤ n) (q : Q (.int (d + (r - d) % n)) H) : sp_ahead K [.int r, .int n, .int d] H Q E := ⟨r, n, d, rfl, h1, q⟩
local macro_rules | `(tactic| walk_at "st") => `(tactic| ((with_reducible apply k_ahead); (· omega)))

/-! ### back -/
def sp_back (K : PySem.W.Frag) : Sp := fun vs H Q _ => ∃ r n d, vs = [.int r, .int n, .int d] ∧ 1 ≤ n ∧ Q (.int (d - (d - r) % n)) H
theorem ok_back (T : Txt K mg) : FnOk P w K mg base CX0 2 T.a_back T.fd_back ["rest", "size", "day"] (sp_back K) := by
  refine T.F_back.ok sc_back (fun vs H Q E h => ?_) (fun cdv A outer s H vs Q E hr h => ?_)
  · obtain ⟨_, _, _, rfl, _⟩ := h; rfl
  · obtain ⟨r, n, d, rfl, h1, q⟩ := h
    refine ⟨_, (pss_cons (ps_expr (pe_call (ok_sized T) (hr.mono (by decide)) (by rfl) T.g_sized T.F_sized.kp T.b_sized .nil pass0 (pa_cons (pv 1) pa_nil)))
        (pss_one (ps_ret (pe_op op_sub (pv 2) (pe_op op_mod (pe_op op_sub (pv 2) (pv 0)) (pv 1)))))), ?_⟩
    walk_at "go"
    exact q
theorem k_back {H : Hp} {Q : VK} {E : XK} {r n d : Int} (h1 : 1 ≤ n) (q : Q (.int (d - (d - r) % n)) H) : sp_back K [.int r, .int n, .int d] H Q E := ⟨r, n, d, rfl, h1, q⟩
local macro_rules | `(tactic| walk_at "st") => `(tactic| ((with_reducible apply k_back); (· omega)))

/-! ### _law_cell_at -/
/-- a cell of the script; nought behind its end -/
def sp_Lcell_at (K : PySem.W.Frag) : Sp := fun vs H Q _ => ∃ (a : Addr) (ns : List Int) (k : Int), vs = [.ref a, .int k] ∧ SqL K H a (ns.map V.int) ∧ 0 ≤ k ∧ Q (.int (ns.getD k.toNat 0)) H
theorem ok_Lcell_at (T : Txt K mg) : FnOk P w K mg base CX0 1 T.a_Lcell_at T.fd_Lcell_at ["_law_script", "_law_k"] (sp_Lcell_at K) := by
  refine T.F_Lcell_at.ok sc_Lcell_at (fun vs H Q E h => ?_) (fun cdv A outer s H vs Q E hr h => ?_)
  · obtain ⟨_, _, _, rfl, _⟩ := h; rfl
  · obtain ⟨a, ns, k, rfl, hS, h0, q⟩ := h
    refine ⟨_, (pss_cons (ps_if (pt_cmpR op_lt (pv 1) (pe_callB cb_len (by rfl) T.n_len (by decide +kernel) (pa_cons (pv 0) pa_nil)) (nomark _)) (pss_one (ps_ret (pe_ix ix_seq (pv 0) (pv 1) (fun _ _ => rfl)))) pss_nil)
        (pss_one (ps_ret pe_int))), ?_⟩
    apply k_seqI; walk_at "go"
    refine if_dec (fun hk => ?_) (fun hk => ?_)
    · walk_at "go"
      rw [List.length_map] at hk
      have e : ((ns.map V.int)[k.toNat]?) = some (V.int (ns.getD k.toNat 0)) := by
        rw [List.getElem?_map, List.getElem?_eq_getElem (show k.toNat < ns.length by omega), List.getD_eq_getElem?_getD, List.getElem?_eq_getElem (show k.toNat < ns.length by omega)]
        rfl
      exact k_ixL hS (at_of (show k = ((k.toNat : Nat) : Int) by omega) e) q
    · walk_at "go"
      rw [List.length_map] at hk
      have e : ns.getD k.toNat 0 = 0 := by
        rw [List.getD_eq_getElem?_getD, List.getElem?_eq_none (by omega)]; rfl
      rw [e] at q
      exact q
theorem sm_getD {ns : List Int} {n : Nat} (hb : ∀ z ∈ ns, Builtin.Int.intBits z ≤ n) (k : Nat) : Sm n (ns.getD k 0) := by
  rw [List.getD_eq_getElem?_getD]
  by_cases h : k < ns.length
  · rw [List.getElem?_eq_getElem h]; exact sm_bits (hb _ (List.getElem_mem h))
  · rw [List.getElem?_eq_none (by omega)]; exact ⟨Nat.pow_pos (by decide)⟩
theorem k_cell {H : Hp} {Q : VK} {E : XK} {a : Addr} {ns : List Int} {k : Int} (hb : ∀ z ∈ ns, Builtin.Int.intBits z ≤ 1048576) (hS : SqL K H a (ns.map V.int)) (h0 : 0 ≤ k)
    (q : ∀ c, c = ns.getD k.toNat 0 → Sm 1048576 c → Q (.int c) H) : sp_Lcell_at K [.ref a, .int k] H Q E := ⟨a, ns, k, rfl, hS, h0, q _ rfl (sm_getD hb _)⟩
local macro_rules | `(tactic| walk_at "st") => `(tactic| ((with_reducible apply k_cell); (· assumption); (· walk_at "hp"); (· decide); intro c hc hm))

/-! ### _law_whole -/
def sp_Lwhole (K : PySem.W.Frag) : Sp := fun vs H Q _ => ∃ i, vs = [.int i] ∧ Q (.bl true) H
theorem ok_Lwhole (T : Txt K mg) : FnOk P w K mg base CX0 1 T.a_Lwhole T.fd_Lwhole ["_law_found"] (sp_Lwhole K) := by
  refine T.F_Lwhole.ok sc_Lwhole (fun vs H Q E h => ?_) (fun cdv A outer s H vs Q E hr h => ?_)
  · obtain ⟨_, rfl, _⟩ := h; rfl
  · obtain ⟨i, rfl, q⟩ := h
    refine ⟨_, (pss_one (ps_ret (pe_and (pe_callB call_isi (by rfl) T.n_isinstance (by decide +kernel) (pa_cons (pv 0) (pa_cons (pe_bltn (v := .ty "int") (by rfl) T.n_int (by decide +kernel) rfl) pa_nil))) (pe_one (pe_not (pe_callB call_isi (by rfl) T.n_isinstance (by decide +kernel) (pa_cons (pv 0) (pa_cons (pe_bltn (v := .ty "bool") (by rfl) T.n_bool (by decide +kernel) rfl) pa_nil)))))))), ?_⟩
    walk_at "go"
    exact q
theorem k_whole {H : Hp} {Q : VK} {E : XK} {i : Int} (q : Q (.bl true) H) : sp_Lwhole K [.int i] H Q E := ⟨i, rfl, q⟩
local macro_rules | `(tactic| walk_at "st") => `(tactic| (with_reducible apply k_whole))

/-! ### law -/
def sp_law (K : PySem.W.Frag) : Sp := fun vs H Q _ => ∃ (a : Addr) (ns : List Int), vs = [.ref a] ∧ SqL K H a (ns.map V.int) ∧ ns.length ≤ 63 ∧ (∀ z ∈ ns, Builtin.Int.intBits z ≤ 1048576) ∧ ∀ H', Q (.bl true) H'
set_option pp.maxSteps 400 in
theorem ok_law (T : Txt K mg) : FnOk P w K mg base CX0 3 T.a_law T.fd_law ["_law_script"] (sp_law K) := by
  refine T.F_law.ok sc_law (fun vs H Q E h => ?_) (fun cdv A outer s H vs Q E hr h => ?_)
  · obtain ⟨_, _, rfl, _⟩ := h; rfl
  · obtain ⟨a, ns, rfl, hS, hl, hb, q⟩ := h
    have hu := hr.units
    refine ⟨_, (pss_cons (ps_set (i := 1) sc_law.nd rfl (Or.inl rfl) (pe_op op_addA pe_int (pe_op op_mod (pe_call (ok_Lcell_at T) (hr.mono (by decide)) (by rfl) T.g_Lcell_at T.F_Lcell_at.kp T.b_Lcell_at .nil pass0 (pa_cons (pv 0) (pa_cons pe_int pa_nil))) (pe_powc (n := 10000000000000000000000000000000000000000) (by decide +kernel)))))
        (pss_cons (ps_if (pt_cmpR (op_eqA hu) (pe_op op_mod (pe_call (ok_Lcell_at T) (hr.mono (by decide)) (by rfl) T.g_Lcell_at T.F_Lcell_at.kp T.b_Lcell_at .nil pass0 (pa_cons (pv 0) (pa_cons pe_int pa_nil))) pe_int) pe_int (nomark _)) (pss_one (ps_set (i := 1) sc_law.nd rfl (Or.inl rfl) (pe_op op_addA pe_int (pe_op op_mod (pv 1) pe_int)))) pss_nil)
        (pss_cons (ps_set (i := 2) sc_law.nd rfl (Or.inl rfl) (pe_op op_sub (pe_op op_mod (pe_call (ok_Lcell_at T) (hr.mono (by decide)) (by rfl) T.g_Lcell_at T.F_Lcell_at.kp T.b_Lcell_at .nil pass0 (pa_cons (pv 0) (pa_cons pe_int pa_nil))) (pe_powc (n := 10000000000000000000000000000000000000000) (by decide +kernel))) (pe_powc (n := 1000000000000000000000000000000000000000) (by decide +kernel))))
        (pss_cons (ps_set (i := 3) sc_law.nd rfl (Or.inl rfl) (pe_op op_sub (pe_op op_mod (pe_call (ok_Lcell_at T) (hr.mono (by decide)) (by rfl) T.g_Lcell_at T.F_Lcell_at.kp T.b_Lcell_at .nil pass0 (pa_cons (pv 0) (pa_cons pe_int pa_nil))) (pe_powc (n := 10000000000000000000000000000000000000000) (by decide +kernel))) (pe_powc (n := 1000000000000000000000000000000000000000) (by decide +kernel))))
        (pss_cons (ps_if (pt_cmpR (op_eqA hu) (pe_op op_mod (pe_op op_fdivW (pe_call (ok_Lcell_at T) (hr.mono (by decide)) (by rfl) T.g_Lcell_at T.F_Lcell_at.kp T.b_Lcell_at .nil pass0 (pa_cons (pv 0) (pa_cons pe_int pa_nil))) pe_int) pe_int) pe_int (nomark _)) (pss_cons (ps_set (i := 2) sc_law.nd rfl (Or.inl rfl) (pe_op op_sub (pe_op op_mod (pv 2) pe_int) pe_int))
        (pss_one (ps_set (i := 3) sc_law.nd rfl (Or.inl rfl) (pe_op op_sub (pe_op op_mod (pv 3) pe_int) pe_int)))) pss_nil)
        (pss_cons (ps_if (pt_cmpR (op_eqA hu) (pe_op op_mod (pe_op op_fdivW (pe_call (ok_Lcell_at T) (hr.mono (by decide)) (by rfl) T.g_Lcell_at T.F_Lcell_at.kp T.b_Lcell_at .nil pass0 (pa_cons (pv 0) (pa_cons pe_int pa_nil))) pe_int) pe_int) pe_int (nomark _)) (pss_one (ps_set (i := 3) sc_law.nd rfl (Or.inl rfl) (pe_op op_sub (pe_op op_addA (pe_op op_addA (pv 2) (pe_op op_mulX (pv 1) (pe_op op_sub (pe_op op_mod (pv 3) pe_int) pe_int))) (pe_op op_mod (pe_op op_fdivW (pe_call (ok_Lcell_at T) (hr.mono (by decide)) (by rfl) T.g_Lcell_at T.F_Lcell_at.kp T.b_Lcell_at .nil pass0 (pa_cons (pv 0) (pa_cons pe_int pa_nil))) pe_int) pe_int)) pe_int))) pss_nil)
        (pss_cons (ps_set (i := 4) sc_law.nd rfl (Or.inl rfl) (pe_call (ok_ahead T) (hr.mono (by decide)) (by rfl) T.g_ahead T.F_ahead.kp T.b_ahead .nil pass0 (pa_cons (pv 2) (pa_cons (pv 1) (pa_cons (pv 3) pa_nil)))))
        (pss_cons (ps_if (PW.pt (pw_or (pt_not (pt_val (pe_call (ok_Lwhole T) (hr.mono (by decide)) (by rfl) T.g_Lwhole T.F_Lwhole.kp T.b_Lwhole .nil pass0 (pa_cons (pv 4) pa_nil)))) (pw_or (pt_cmpR (op_neA hu) (pe_op op_mod (pe_op op_sub (pv 4) (pv 2)) (pv 1)) pe_int (nomark _)) (pw_or1 (pt_not (pt_chain op_le op_lt (pv 3) (pv 4) (pe_op op_addA (pv 3) (pv 1)))))))) (pss_one (ps_ret pe_bl)) pss_nil)
        (pss_cons (ps_set (i := 5) sc_law.nd rfl (Or.inl rfl) (pe_call (ok_back T) (hr.mono (by decide)) (by rfl) T.g_back T.F_back.kp T.b_back .nil pass0 (pa_cons (pv 2) (pa_cons (pv 1) (pa_cons (pv 3) pa_nil)))))
        (pss_cons (ps_if (PW.pt (pw_or (pt_not (pt_val (pe_call (ok_Lwhole T) (hr.mono (by decide)) (by rfl) T.g_Lwhole T.F_Lwhole.kp T.b_Lwhole .nil pass0 (pa_cons (pv 5) pa_nil)))) (pw_or (pt_cmpR (op_neA hu) (pe_op op_mod (pe_op op_sub (pv 5) (pv 2)) (pv 1)) pe_int (nomark _)) (pw_or1 (pt_not (pt_chain op_lt op_le (pe_op op_sub (pv 3) (pv 1)) (pv 5) (pv 3))))))) (pss_one (ps_ret pe_bl)) pss_nil)
        (pss_cons (ps_if (PW.pt (pw_or (pt_cmpR (op_neA hu) (pe_cmpR (op_eqA hu) (pv 4) (pv 3) (nomark _)) (pe_cmpR (op_eqA hu) (pv 5) (pv 3) (nomark _)) (nomark _)) (pw_or1 (pt_cmpR op_notIn_seq (pe_op op_sub (pv 4) (pv 5)) (pe_lst (pa_cons pe_int (pa_cons (pv 1) pa_nil))) (by rfl))))) (pss_one (ps_ret pe_bl)) pss_nil)
        (pss_cons (ps_set (i := 6) sc_law.nd rfl (Or.inl rfl) (pe_op op_addA (pv 2) (pe_op op_mulX (pv 1) (pe_op op_sub (pe_op op_mod (pe_call (ok_Lcell_at T) (hr.mono (by decide)) (by rfl) T.g_Lcell_at T.F_Lcell_at.kp T.b_Lcell_at .nil pass0 (pa_cons (pv 0) (pa_cons pe_int pa_nil))) (pe_powc (n := 100000000000000000000000000000000000000000) (by decide +kernel))) (pe_powc (n := 10000000000000000000000000000000000000000) (by decide +kernel))))))
        (pss_one (ps_ret (pe_or (pe_cmpR op_le (pv 6) (pv 5) (nomark _)) (pe_one (pe_cmpR op_ge (pv 6) (pv 4) (nomark _)))))))))))))))))), ?_⟩
    walk_at "go"
    with_reducible refine k_cutI (fun σ' H' => ∃ s : Int, σ' = [some (.ref a), some (.int s), none, none, none, none, none] ∧ H = H' ∧ 1 ≤ s ∧ s ≤ 10000000000000000000000000000000000000000) (fun N hN => ?_) ?_
    · walk_at "go"; walk_at "br"
      all_goals (walk_at "go"; exact hN _ _ ⟨_, rfl, rfl, by omega, by omega⟩)
    rintro _ _ ⟨s, rfl, rfl, hs1, hs2⟩
    walk_at "go"
    with_reducible refine k_cutI (fun σ' H' => ∃ r d : Int, σ' = [some (.ref a), some (.int s), some (.int r), some (.int d), none, none, none] ∧ H = H') (fun N hN => ?_) ?_
    · walk_at "go"; walk_at "br"
      all_goals (walk_at "go"; exact hN _ _ ⟨_, _, rfl, rfl⟩)
    rintro _ _ ⟨r, d, rfl, rfl⟩
    with_reducible refine k_cutI (fun σ' H' => ∃ r d : Int, σ' = [some (.ref a), some (.int s), some (.int r), some (.int d), none, none, none] ∧ H = H') (fun N hN => ?_) ?_
    · walk_at "go"; walk_at "br"
      all_goals (walk_at "go"; exact hN _ _ ⟨_, _, rfl, rfl⟩)
    rintro _ _ ⟨r, d, rfl, rfl⟩
    have h1 := Int.emod_nonneg (r - d) (show s ≠ 0 by omega)
    have h2 := Int.emod_lt_of_pos (r - d) (show 0 < s by omega)
    have h3 := Int.emod_nonneg (d - r) (show s ≠ 0 by omega)
    have h4 := Int.emod_lt_of_pos (d - r) (show 0 < s by omega)
    have h5 := ahead_alike r d s hs1
    have h6 := back_alike r d s hs1
    have h7 := two_mods r d s hs1
    have h8 : decide (d + (r - d) % s = d) = decide (d - (d - r) % s = d) := by
      rcases h7 with ⟨e1, e2⟩ | ⟨e1, e2, _⟩
      · rw [decide_eq_true (by omega), decide_eq_true (by omega)]
      · rw [decide_eq_false (by omega), decide_eq_false (by omega)]
    walk_at "run"
    rename_i c _ _
    have h9 := no_between r d s (c % 100000000000000000000000000000000000000000 - 10000000000000000000000000000000000000000) hs1
    walk_at "br"
    · exact q _
    · walk_at "go"
      exact fin_t (decide_eq_true (by omega)) (q _)

end
theorem all_mk {l : PySem.W.OpenLaw} {w : World} {K : PySem.W.Frag} {h : Heap} {mg : Str → Option Value} {fa : Addr} (X : K.In h) (G : h.Ns mainGlobals mg) (hfa : mg "law" = some (.ref fa))
    {f_sized : Addr} {od_sized an_sized : Option Addr} {sl_sized : Array (Option Value)} {oc_sized kV_sized dc_sized pm_sized cd_sized ct_sized : Value}
    {f_ahead : Addr} {od_ahead an_ahead : Option Addr} {sl_ahead : Array (Option Value)} {oc_ahead kV_ahead dc_ahead pm_ahead cd_ahead ct_ahead : Value}
    {f_back : Addr} {od_back an_back : Option Addr} {sl_back : Array (Option Value)} {oc_back kV_back dc_back pm_back cd_back ct_back : Value}
    {f_Lcell_at : Addr} {od_Lcell_at an_Lcell_at : Option Addr} {sl_Lcell_at : Array (Option Value)} {oc_Lcell_at kV_Lcell_at dc_Lcell_at pm_Lcell_at cd_Lcell_at ct_Lcell_at : Value}
    {f_Lwhole : Addr} {od_Lwhole an_Lwhole : Option Addr} {sl_Lwhole : Array (Option Value)} {oc_Lwhole kV_Lwhole dc_Lwhole pm_Lwhole cd_Lwhole ct_Lwhole : Value}
    {f_law : Addr} {od_law an_law : Option Addr} {sl_law : Array (Option Value)} {oc_law kV_law dc_law pm_law cd_law ct_law : Value}
    (a_sized : PySem.W.nsIn K mainGlobals "sized" = some (some (.ref f_sized)))
    (l_sized : K.lookup f_sized = some ⟨oc_sized, od_sized, .func (PySem.W.fnOf "sized" "sized" (defArgs s_sized) (defBody s_sized) (defScope s_sized) .none kV_sized dc_sized pm_sized an_sized cd_sized ct_sized), sl_sized⟩)
    (c_sized : PySem.W.codeIn K cd_sized "sized" = true)
    (k_sized : PySem.W.keepIn K (.ref f_sized) = true)
    (a_ahead : PySem.W.nsIn K mainGlobals "ahead" = some (some (.ref f_ahead)))
    (l_ahead : K.lookup f_ahead = some ⟨oc_ahead, od_ahead, .func (PySem.W.fnOf "ahead" "ahead" (defArgs s_ahead) (defBody s_ahead) (defScope s_ahead) .none kV_ahead dc_ahead pm_ahead an_ahead cd_ahead ct_ahead), sl_ahead⟩)
    (c_ahead : PySem.W.codeIn K cd_ahead "ahead" = true)
    (k_ahead : PySem.W.keepIn K (.ref f_ahead) = true)
    (a_back : PySem.W.nsIn K mainGlobals "back" = some (some (.ref f_back)))
    (l_back : K.lookup f_back = some ⟨oc_back, od_back, .func (PySem.W.fnOf "back" "back" (defArgs s_back) (defBody s_back) (defScope s_back) .none kV_back dc_back pm_back an_back cd_back ct_back), sl_back⟩)
    (c_back : PySem.W.codeIn K cd_back "back" = true)
    (k_back : PySem.W.keepIn K (.ref f_back) = true)
    (a_Lcell_at : PySem.W.nsIn K mainGlobals "_law_cell_at" = some (some (.ref f_Lcell_at)))
    (l_Lcell_at : K.lookup f_Lcell_at = some ⟨oc_Lcell_at, od_Lcell_at, .func (PySem.W.fnOf "_law_cell_at" "_law_cell_at" (defArgs s_Lcell_at) (defBody s_Lcell_at) (defScope s_Lcell_at) .none kV_Lcell_at dc_Lcell_at pm_Lcell_at an_Lcell_at cd_Lcell_at ct_Lcell_at), sl_Lcell_at⟩)
    (c_Lcell_at : PySem.W.codeIn K cd_Lcell_at "_law_cell_at" = true)
    (k_Lcell_at : PySem.W.keepIn K (.ref f_Lcell_at) = true)
    (a_Lwhole : PySem.W.nsIn K mainGlobals "_law_whole" = some (some (.ref f_Lwhole)))
    (l_Lwhole : K.lookup f_Lwhole = some ⟨oc_Lwhole, od_Lwhole, .func (PySem.W.fnOf "_law_whole" "_law_whole" (defArgs s_Lwhole) (defBody s_Lwhole) (defScope s_Lwhole) .none kV_Lwhole dc_Lwhole pm_Lwhole an_Lwhole cd_Lwhole ct_Lwhole), sl_Lwhole⟩)
    (c_Lwhole : PySem.W.codeIn K cd_Lwhole "_law_whole" = true)
    (k_Lwhole : PySem.W.keepIn K (.ref f_Lwhole) = true)
    (a_law : PySem.W.nsIn K mainGlobals "law" = some (some (.ref f_law)))
    (l_law : K.lookup f_law = some ⟨oc_law, od_law, .func (PySem.W.fnOf "law" "law" (defArgs s_law) (defBody s_law) (defScope s_law) .none kV_law dc_law pm_law an_law cd_law ct_law), sl_law⟩)
    (c_law : PySem.W.codeIn K cd_law "law" = true)
    (k_law : PySem.W.keepIn K (.ref f_law) = true)
    (z_bool : PySem.W.nsIn K mainGlobals "bool" = some none)
    (z_int : PySem.W.nsIn K mainGlobals "int" = some none)
    (z_isinstance : PySem.W.nsIn K mainGlobals "isinstance" = some none)
    (z_len : PySem.W.nsIn K mainGlobals "len" = some none) :
    ∃ fd : FuncData, (∀ (s : Shared) (v : Value), BindsTo s fd ⟨[v], []⟩ [("_law_script", v)]) ∧ ∀ base : Heap, K.In base → base.Ns mainGlobals mg → FnOk l.prog w K mg base CX0 3 fa fd ["_law_script"] (sp_law K) := by
  have e := hfa.symm.trans (PySem.W.mg_of X G a_law)
  cases e
  have F_sized := fun_mk (st := s_sized) l_sized c_sized k_sized
  have b_sized := F_sized.binds (ps := ["size"]) fun _ _ _ _ _ _ us hl => match us, hl with | [_], _ => rfl
  have F_ahead := fun_mk (st := s_ahead) l_ahead c_ahead k_ahead
  have b_ahead := F_ahead.binds (ps := ["rest", "size", "day"]) fun _ _ _ _ _ _ us hl => match us, hl with | [_, _, _], _ => rfl
  have F_back := fun_mk (st := s_back) l_back c_back k_back
  have b_back := F_back.binds (ps := ["rest", "size", "day"]) fun _ _ _ _ _ _ us hl => match us, hl with | [_, _, _], _ => rfl
  have F_Lcell_at := fun_mk (st := s_Lcell_at) l_Lcell_at c_Lcell_at k_Lcell_at
  have b_Lcell_at := F_Lcell_at.binds (ps := ["_law_script", "_law_k"]) fun _ _ _ _ _ _ us hl => match us, hl with | [_, _], _ => rfl
  have F_Lwhole := fun_mk (st := s_Lwhole) l_Lwhole c_Lwhole k_Lwhole
  have b_Lwhole := F_Lwhole.binds (ps := ["_law_found"]) fun _ _ _ _ _ _ us hl => match us, hl with | [_], _ => rfl
  have F_law := fun_mk (st := s_law) l_law c_law k_law
  have b_law := F_law.binds (ps := ["_law_script"]) fun _ _ _ _ _ _ us hl => match us, hl with | [_], _ => rfl
  exact ⟨_, fun s v => .of_eq rfl, fun base _ _ => ok_law (⟨_, _, F_sized, (PySem.W.mg_of X G a_sized), b_sized, _, _, F_ahead, (PySem.W.mg_of X G a_ahead), b_ahead, _, _, F_back, (PySem.W.mg_of X G a_back), b_back, _, _, F_Lcell_at, (PySem.W.mg_of X G a_Lcell_at), b_Lcell_at, _, _, F_Lwhole, (PySem.W.mg_of X G a_Lwhole), b_Lwhole, _, _, F_law, (PySem.W.mg_of X G a_law), b_law, (PySem.W.mg_none_of X G z_bool), (PySem.W.mg_none_of X G z_int), (PySem.W.mg_none_of X G z_isinstance), (PySem.W.mg_none_of X G z_len)⟩ : Txt K mg)⟩
end FW
open PySem PySem.W PyProof.Rows
set_option maxRecDepth 100000 in
set_option maxHeartbeats 0 in
theorem PySem.Challenge.cw_feastwheel_k04_ahead_and_back_holds : PySem.Challenge.rw_feastwheel_k04_ahead_and_back.Holds := by
  w_on; o_law; k_head; (case hw => w_witness2)
  k_fill
  refine L2.walk_ofB (l := PySem.Challenge.rw_feastwheel_k04_ahead_and_back) (n := 63) (k := 3) (x := "_law_script") (CX := fun _ => L2.CX0) (sp := fun w => FW.sp_law _) rfl (by decide) rfl ⟨rfl, by decide, by decide⟩ (fun w h Y => PySem.W.kIn_of Y) ?F (fun _ _ a ns hl hb _ hS => ⟨a, ns, rfl, hS, hl, hb, fun _ => rfl⟩) (fun _ _ _ _ _ h => h)
  case F =>
    intro w mg fa h KX G hmg
    refine' FW.all_mk KX G hmg ?a_sized ?l_sized ?c_sized ?k_sized ?a_ahead ?l_ahead ?c_ahead ?k_ahead ?a_back ?l_back ?c_back ?k_back ?a_Lcell_at ?l_Lcell_at ?c_Lcell_at ?k_Lcell_at ?a_Lwhole ?l_Lwhole ?c_Lwhole ?k_Lwhole ?a_law ?l_law ?c_law ?k_law ?z_bool ?z_int ?z_isinstance ?z_len
    (case a_sized => k_is)
    (case l_sized => k_is)
    (case c_sized => k_is)
    (case k_sized => k_is)
    (case a_ahead => k_is)
    (case l_ahead => k_is)
    (case c_ahead => k_is)
    (case k_ahead => k_is)
    (case a_back => k_is)
    (case l_back => k_is)
    (case c_back => k_is)
    (case k_back => k_is)
    (case a_Lcell_at => k_is)
    (case l_Lcell_at => k_is)
    (case c_Lcell_at => k_is)
    (case k_Lcell_at => k_is)
    (case a_Lwhole => k_is)
    (case l_Lwhole => k_is)
    (case c_Lwhole => k_is)
    (case k_Lwhole => k_is)
    (case a_law => k_is)
    (case l_law => k_is)
    (case c_law => k_is)
    (case k_law => k_is)
    (case z_bool => k_is)
    (case z_int => k_is)
    (case z_isinstance => k_is)
    (case z_len => k_is)
