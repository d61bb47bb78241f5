import PyProof.Rows.All
import Wide.All
import OpenK.AllK
import Wide.FinOn
import HandS.ForMost
import HandS.Exc
import HandS.Wide
import HandS.WideBits
import HandS.IsInst
import HandS.Flow
import HandS.EndBits
import HandS.Conv
import HandS.ExcIs
import HandS.ExcField
import HandS.TryMany
import KE.KExcIs
import HandS.HotCalls
import HandS.ForExc
import HandS.ExcInit
import HandS.ClsMeth
import HandS.Replace
import HandS.StrMore
import HandS.Codes
import HandS.Walk
import KE.IntTextLaws
import PySem.Challenge.RW_feastwheel_k70_numbers_as_texts
set_option Elab.async false
set_option linter.all false
set_option maxRecDepth 100000
set_option maxHeartbeats 4000000
namespace FW
open PySem PySem.Spec PyProof.Rows L2
/-! ### heaps -/
theorem same_t {K : PySem.W.Frag} {H H' : Hp} {a : Addr} {xs : List V} (e : Same H H') (h : SqT K H a xs) : SqT K H' a xs := by
  rcases h with (h | ⟨o, h⟩) | h
  · exact .inl (.inl (e _ _ h))
  · exact .inl (.inr ⟨o, e _ _ h⟩)
  · exact .inr h
theorem same_l {K : PySem.W.Frag} {H H' : Hp} {a : Addr} {xs : List V} (e : Same H H') (h : SqL K H a xs) : SqL K H' a xs := e.seq h
theorem same_at {H H' : Hp} {a : Addr} {o : HO} (e : Same H H') (h : H a = some o) : H' a = some o := e _ _ h
theorem same_new {H : Hp} {p : Addr} {o : HO} (h : H p = none) : Same H (upd H p o) := fun b x e => by
  rw [upd_ne (ne_of_none e h)]
  exact e
theorem same_mut {H H' : Hp} {p : Addr} {o : HO} (e : Same H H') (h : H p = none) : Same H (upd H' p o) := fun a u ha => by
  rw [upd_ne (ne_of_none ha h)]
  exact e a u ha
section
variable {K : PySem.W.Frag} {σ : L2.St} {H H1 : Hp} {Q : VK} {D : Ends} {i : Nat} {v x y : V} {ta tb tc te : TE} {t u : TT} {tr : TA} {m n : Int} {a b : Int} {r r' : R2}
/-! ### steps: expressions -/
theorem k_var (h : σ[i]? = some (some v)) (q : Q v H) : tVar i σ H Q := ⟨v, h, q⟩
theorem k_c (q : Q v H) : tC v σ H Q := q
theorem k_op (h : ta σ H fun x H1 => tb σ H1 fun y H2 => r x y H2 Q) : tOp r ta tb σ H Q := h
theorem k_un {r : V → Hp → VK → Prop} (h : ta σ H fun x H1 => r x H1 Q) : tUn r ta σ H Q := h
theorem k_I0 {g : Int → Int → V} (q : Q (g a b) H) : rI0 g (.int a) (.int b) H Q := ⟨a, b, rfl, rfl, q⟩
theorem k_I {C : Int → Int → Prop} {g : Int → Int → V} (c : C a b) (q : Q (g a b) H) : rI C g (.int a) (.int b) H Q := ⟨a, b, rfl, rfl, c, q⟩
theorem k_U {g : Int → V} (q : Q (g a) H) : rU g (.int a) H Q := ⟨a, rfl, q⟩
theorem k_nil {Q : List V → Hp → Prop} (q : Q [] H) : tNil σ H Q := q
theorem k_cons {Q : List V → Hp → Prop} (h : ta σ H fun x H1 => tr σ H1 fun xs H2 => Q (x :: xs) H2) : tCons ta tr σ H Q := h
theorem k_cb {r : List V → Hp → VK → Prop} (h : tr σ H fun vs H1 => r vs H1 Q) : tCB r tr σ H Q := h
theorem k_call {sp : Sp} {E : XK} (h : tr σ H fun vs H1 => sp vs H1 Q E) : tCall sp [] E tr σ H Q := by
  show tr σ H fun vs H1 => sp (vs ++ []) H1 Q E
  simp only [List.append_nil]
  exact h
def NewT (xs : List V) (H : Hp) (Q : VK) : Prop := xs.length ≤ sizeLine ∧ ∀ p, H p = none → Q (.ref p) (upd H p (.tup xs))
def NewL (xs : List V) (H : Hp) (Q : VK) : Prop := xs.length ≤ sizeLine ∧ ∀ p, H p = none → Q (.ref p) (upd H p (.lst xs))
theorem k_tup (h : tr σ H fun xs H1 => NewT xs H1 Q) : tTup tr σ H Q := h
theorem k_lst (h : tr σ H fun xs H1 => NewL xs H1 Q) : tLst tr σ H Q := h
theorem k_newtup {xs : List V} (hl : xs.length ≤ 1000) (h : ∀ p H2, H p = none → Same H H2 → H2 p = some (.tup xs) → Q (.ref p) H2) : NewT xs H Q :=
  ⟨Nat.le_trans hl (by decide), fun p hp => h p _ hp (same_new hp) upd_same⟩
theorem k_newlst {xs : List V} (hl : xs.length ≤ 1000) (h : ∀ p H2, H p = none → Same H H2 → H2 p = some (.lst xs) → Q (.ref p) H2) : NewL xs H Q :=
  ⟨Nat.le_trans hl (by decide), fun p hp => h p _ hp (same_new hp) upd_same⟩
theorem k_ifx {Q : VK} (h : t σ H fun c H1 => if c = true then ta σ H1 Q else tb σ H1 Q) : tIf t ta tb σ H Q := h
theorem k_andV (h : ta σ H fun x H1 => ∃ c, x = .bl c ∧ if c = true then tb σ H1 Q else Q (.bl false) H1) : tAndV ta tb σ H Q := h
theorem k_orV (h : ta σ H fun x H1 => ∃ c, x = .bl c ∧ if c = true then Q (.bl true) H1 else tb σ H1 Q) : tOrV ta tb σ H Q := h
theorem k_notV (h : ta σ H fun x H1 => ∃ c, x = .bl c ∧ Q (.bl (!c)) H1) : tNotV ta σ H Q := h
theorem k_chain (h : ta σ H fun x H1 => tb σ H1 fun y H2 => r x y H2 fun z H3 => ∃ k, z = .bl k ∧ (if k = true then tc σ H3 fun w' H4 => r' y w' H4 Q else Q (.bl false) H3)) : tChain r r' ta tb tc σ H Q := h
theorem k_and2 {i j : Nat} {x y : Bool} (h1 : σ[i]? = some (some (.bl x))) (h2 : σ[j]? = some (some (.bl y))) (q : Q (.bl (x && y)) H) : tAndV (tVar i) (tVar j) σ H Q :=
  ⟨_, h1, x, rfl, by cases x with
    | true => rw [if_pos rfl]; exact ⟨_, h2, q⟩
    | false => rw [if_neg Bool.false_ne_true]; exact q⟩
theorem k_or2 {i j : Nat} {x y : Bool} (h1 : σ[i]? = some (some (.bl x))) (h2 : σ[j]? = some (some (.bl y))) (q : Q (.bl (x || y)) H) : tOrV (tVar i) (tVar j) σ H Q :=
  ⟨_, h1, x, rfl, by cases x with
    | true => rw [if_pos rfl]; exact q
    | false => rw [if_neg Bool.false_ne_true]; exact ⟨_, h2, q⟩⟩
theorem k_andn2 {i j : Nat} {x y : Bool} (h1 : σ[i]? = some (some (.bl x))) (h2 : σ[j]? = some (some (.bl y))) (q : Q (.bl (x && !y)) H) : tAndV (tVar i) (tNotV (tVar j)) σ H Q :=
  ⟨_, h1, x, rfl, by cases x with
    | true => rw [if_pos rfl]; exact ⟨_, h2, _, rfl, q⟩
    | false => rw [if_neg Bool.false_ne_true]; exact q⟩
/-- a truth value told -/
theorem k_bl {p : Bool → Prop} {c : Bool} (h : p c) : ∃ k, V.bl c = .bl k ∧ p k := ⟨c, rfl, h⟩
/-! ### steps: tests -/
theorem k_test {Q : Bool → Hp → Prop} (h : ta σ H fun x H' => ∃ k, x = .bl k ∧ Q k H') : tTest ta σ H Q := h
theorem k_B {Q : Bool → Hp → Prop} (h : ta σ H fun x H' => ∃ k, x = .bl k ∧ Q k H') : tB ta σ H Q := h
theorem k_and {Q : Bool → Hp → Prop} (h : t σ H fun c H1 => if c = true then u σ H1 Q else Q false H1) : tAnd t u σ H Q := h
theorem k_or {Q : Bool → Hp → Prop} (h : t σ H fun c H1 => if c = true then Q true H1 else u σ H1 Q) : tOr t u σ H Q := h
theorem k_not {Q : Bool → Hp → Prop} (h : t σ H fun c H1 => Q (!c) H1) : tNot t σ H Q := h
/-! ### branches -/
theorem if_dec {p A B : Prop} [Decidable p] (h1 : p → A) (h2 : ¬ p → B) : if decide p = true then A else B := by
  by_cases h : p
  · rw [if_pos (decide_eq_true h)]; exact h1 h
  · rw [if_neg (by rw [decide_eq_false h]; decide)]; exact h2 h
theorem if_ndec {p A B : Prop} [Decidable p] (h1 : ¬ p → A) (h2 : p → B) : if (!decide p) = true then A else B := by
  by_cases h : p
  · rw [if_neg (by rw [decide_eq_true h]; decide)]; exact h2 h
  · rw [if_pos (by rw [decide_eq_false h]; rfl)]; exact h1 h
theorem if_b {c : Bool} {A B : Prop} (h1 : c = true → A) (h2 : c = false → B) : if c = true then A else B := by
  cases c with
  | true => rw [if_pos rfl]; exact h1 rfl
  | false => rw [if_neg Bool.false_ne_true]; exact h2 rfl
theorem if_t {A B : Prop} (h : A) : if true = true then A else B := iteT h
theorem if_f {A B : Prop} (h : B) : if false = true then A else B := iteF h
theorem if_nt {A B : Prop} (h : A) : if (!false) = true then A else B := iteT h
theorem if_nf {A B : Prop} (h : B) : if (!true) = true then A else B := iteF h
theorem fin_t {c : Bool} (hc : c = true) (q : Q (.bl true) H) : Q (.bl c) H := by rw [hc]; exact q
/-! ### steps: statements -/
theorem k_seq {t u : TS} (h : t { D with nx := u D } σ H) : tSeq t u D σ H := h
theorem k_seqA {g : TG} {u : TS} (h : tAsg te g { D with nx := u D } σ H) : tSeq (tAsg te g) u D σ H := h
theorem k_seqD {u : TS} (h : tDrop te { D with nx := u D } σ H) : tSeq (tDrop te) u D σ H := h
theorem k_seqP {i j : Nat} {u : TS} (h : tPar i j tr { D with nx := u D } σ H) : tSeq (tPar i j tr) u D σ H := h
theorem k_seqI {t u : TS} {c : TT} {w : TS} (h : c σ H fun b H1 => if b = true then t { D with nx := w D } σ H1 else u { D with nx := w D } σ H1) : tSeq (tIfS c t u) w D σ H := h
theorem k_nx {f : L2.St → Hp → Prop} {r : VK} {b c : L2.St → Hp → Prop} (h : f σ H) : Ends.nx ⟨f, r, b, c⟩ σ H := h
theorem k_rt {f : L2.St → Hp → Prop} {r : VK} {b c : L2.St → Hp → Prop} (h : r v H) : Ends.rt ⟨f, r, b, c⟩ v H := h
theorem k_next (h : D.nx σ H) : tNext D σ H := h
theorem k_asg {i : Nat} (h : te σ H fun x H1 => D.nx (σ.set i (some x)) H1) : tAsg te (gName i) D σ H := h
theorem k_asgG {g : TG} (h : te σ H fun x H1 => g x σ H1 D.nx) : tAsg te g D σ H := h
theorem k_gname {Q : L2.St → Hp → Prop} (h : Q (σ.set i (some v)) H) : gName i v σ H Q := h
theorem k_gtup {tg : TGs} {n : Nat} {p : Addr} {xs : List V} {Q : L2.St → Hp → Prop} (h : SqT K H p xs) (hl : xs.length = n) (q : tg xs σ H Q) : gTup K n tg (.ref p) σ H Q := ⟨p, xs, rfl, h, hl, q⟩
theorem k_gcons {tg : TG} {ug : TGs} {vs : List V} {Q : L2.St → Hp → Prop} (q : tg v σ H fun σ' H' => ug vs σ' H' Q) : gCons tg ug (v :: vs) σ H Q := ⟨v, vs, rfl, q⟩
theorem k_gnil {Q : L2.St → Hp → Prop} (q : Q σ H) : gNil [] σ H Q := ⟨rfl, q⟩
theorem k_par {i j : Nat} (h : tr σ H fun vs H1 => ∃ v w, vs = [v, w] ∧ D.nx ((σ.set i (some v)).set j (some w)) H1) : tPar i j tr D σ H := h
theorem k_par2 {P : V → V → Prop} {x y : V} (h : P x y) : ∃ v w, [x, y] = [v, w] ∧ P v w := ⟨x, y, rfl, h⟩
theorem k_drop (h : te σ H fun _ H1 => D.nx σ H1) : tDrop te D σ H := h
theorem k_ret (h : te σ H D.rt) : tRet te D σ H := h
theorem k_retN (h : D.rt .non H) : tRetN D σ H := h
theorem k_if {t u : TS} {c : TT} (h : c σ H fun b H1 => if b = true then t D σ H1 else u D σ H1) : tIfS c t u D σ H := h
theorem k_cutI {t u w : TS} {c : TT} (P : L2.St → Hp → Prop) (h1 : ∀ N : L2.St → Hp → Prop, (∀ σ' H', P σ' H' → N σ' H') → c σ H fun b H1 => if b = true then t { D with nx := N } σ H1 else u { D with nx := N } σ H1) (h2 : ∀ σ' H', P σ' H' → w D σ' H') : tSeq (tIfS c t u) w D σ H := h1 _ h2
/-- the ways of a statement meet again: what holds behind it -/
theorem k_cut {t u : TS} (P : L2.St → Hp → Prop) (h1 : ∀ N : L2.St → Hp → Prop, (∀ σ' H', P σ' H' → N σ' H') → t { D with nx := N } σ H) (h2 : ∀ σ' H', P σ' H' → u D σ' H') : tSeq t u D σ H := h1 _ h2
/-! ### loops -/
theorem k_seqW {t : TT} {tb u : TS} (h : tWhile t tb { D with nx := u D } σ H) : tSeq (tWhile t tb) u D σ H := h
theorem k_seqF {wi : TI} {g : TG} {tb u : TS} (h : tFor wi g tb { D with nx := u D } σ H) : tSeq (tFor wi g tb) u D σ H := h
theorem k_while {t : TT} {tb : TS} (W : Nat → L2.St → Hp → Prop) (m : Nat) (h0 : W m σ H) (hs : ∀ m σ H, W m σ H → t σ H fun b H1 => if b = true then ∃ N : L2.St → Hp → Prop, (∀ σ' H', N σ' H' → ∃ m', m' < m ∧ W m' σ' H') ∧ tb { D with nx := N, ct := N, bk := D.nx } σ H1 else D.nx σ H1) : tWhile t tb D σ H := ⟨W, ⟨m, h0⟩, hs⟩
theorem k_turn {tb : TS} {W : Nat → L2.St → Hp → Prop} {m : Nat} (h : tb { D with nx := fun σ' H' => ∃ m', m' < m ∧ W m' σ' H', ct := fun σ' H' => ∃ m', m' < m ∧ W m' σ' H', bk := D.nx } σ H) : ∃ N : L2.St → Hp → Prop, (∀ σ' H', N σ' H' → ∃ m', m' < m ∧ W m' σ' H') ∧ tb { D with nx := N, ct := N, bk := D.nx } σ H := ⟨_, fun _ _ h => h, h⟩
def ForG (J : It) (g : TG) (tb : TS) (D : Ends) (σ : L2.St) (H1 : Hp) : Prop := ∃ W : Nat → Nat → L2.St → Hp → Prop, (∃ m, W 0 m σ H1) ∧ ∀ i m σ H, W i m σ H →
  (J.stop i H ∧ D.nx σ H) ∨ (J.go i H ∧ ∃ N : L2.St → Hp → Prop, (∀ σ' H', N σ' H' → ∃ m', m' < m ∧ W (i + 1) m' σ' H') ∧ ∀ x H', J.yld i H x H' → g x σ H' fun σ2 H2 => tb { D with nx := N, ct := N, bk := D.nx } σ2 H2)
theorem k_for {wi : TI} {g : TG} {tb : TS} (h : wi σ H fun J H1 => ForG J g tb D σ H1) : tFor wi g tb D σ H := h
/-! ### comprehensions over a range -/
def Rng1 (vs : List V) (H : Hp) (R : It → Hp → Prop) : Prop := ∃ j : Int, vs = [.int j] ∧ -(2 ^ 62) ≤ j ∧ j < 2 ^ 62 ∧ R (Itr 0 j.toNat) H
def Rng2 (vs : List V) (H : Hp) (R : It → Hp → Prop) : Prop := ∃ i j : Int, vs = [.int i, .int j] ∧ (-(2 ^ 62) ≤ i ∧ i < 2 ^ 62 ∧ -(2 ^ 62) ≤ j ∧ j < 2 ^ 62) ∧ R (Itr i (j - i).toNat) H
theorem k_irng1 {R : It → Hp → Prop} (h : tr σ H fun vs H1 => Rng1 vs H1 R) : iRng1 tr σ H R := h
theorem k_irng2 {R : It → Hp → Prop} (h : tr σ H fun vs H1 => Rng2 vs H1 R) : iRng2 tr σ H R := h
theorem k_rng1 {n : Int} {R : It → Hp → Prop} (h0 : -(2 ^ 62) ≤ n ∧ n < 2 ^ 62) (h : R (Itr 0 n.toNat) H) : Rng1 [V.int n] H R := ⟨n, rfl, h0.1, h0.2, h⟩
theorem k_rng2 {n : Int} {R : It → Hp → Prop} (h0 : -(2 ^ 62) ≤ m ∧ m < 2 ^ 62 ∧ -(2 ^ 62) ≤ n ∧ n < 2 ^ 62) (h : R (Itr m (n - m).toNat) H) : Rng2 [V.int m, V.int n] H R := ⟨m, n, rfl, h0, h⟩
def LcG (J : It) (H1 : Hp) (g : TG) (tt : TT) (te : TE) (vs : List Nat) (σ : L2.St) (Q : VK) : Prop := ∀ D, H1 D = none → ∃ W : Nat → Nat → Hp → Prop, (∃ m, W 0 m (upd H1 D (.lst []))) ∧ ∀ i m H, W i m H →
  (J.stop i H ∧ Q (.ref D) H) ∨ (J.go i H ∧ ∃ Nx : Hp → Prop, (∀ H', Nx H' → ∃ m', m' < m ∧ W (i + 1) m' H') ∧ ∀ x H', J.yld i H x H' → g x (wipe σ vs) H' fun σ2 H2 => wipe σ2 vs = wipe σ vs ∧ tt σ2 H2 fun b H3 =>
    if b = true then te σ2 H3 fun y H4 => ∃ acc, H4 D = some (.lst acc) ∧ acc.length < sizeLine ∧ Nx (upd H4 D (.lst (acc ++ [y]))) else Nx H3)
theorem k_lc {wi : TI} {g : TG} {tt : TT} {vs : List Nat} (h : wi σ H fun J H1 => LcG J H1 g tt te vs σ Q) : tLc wi g tt te vs σ H Q := h
/-- [e for k in range(..)]: the list of the values, each told by its place -/
theorem k_lcr {lo : Int} {n j : Nat} (L : List V) (hl : L.length = n) (hz : n ≤ 1000000)
    (hs : ∀ (i : Nat) (v : V) (H2 : Hp) (R : VK), L[i]? = some v → Same H1 H2 → (∀ H3, Same H2 H3 → R v H3) → te (σ.set j (some (.int (lo + i)))) H2 R)
    (q : ∀ D H2, H1 D = none → Same H1 H2 → H2 D = some (.lst L) → Q (.ref D) H2) :
    LcG (Itr lo n) H1 (gName j) tYes te [j] σ Q := by
  intro D hD
  refine lc_range (fun i H' => Same H1 H' ∧ H' D = some (.lst (L.take i))) ⟨same_new hD, by rw [upd_same]; rfl⟩ (fun i H' hi ⟨sm, hd⟩ => ?_) (fun H' ⟨sm, hd⟩ => q D H' hD sm (by rw [hd, List.take_of_length_le (by omega)]))
  have ew : ∀ y : V, (wipe σ [j]).set j (some y) = σ.set j (some y) := fun y => by
    show ((σ.set j none).set j (some y)) = _
    rw [List.set_set]
  show wipe ((wipe σ [j]).set j _) [j] = wipe σ [j] ∧ _
  rw [ew]
  refine ⟨by show (σ.set j _).set j none = σ.set j none; rw [List.set_set], ?_⟩
  refine hs i (L[i]'(by omega)) H' _ (List.getElem?_eq_getElem (by omega)) sm fun H3 s3 => ?_
  refine ⟨L.take i, s3 _ _ hd, Nat.lt_of_le_of_lt (Nat.le_trans (by rw [List.length_take]; exact Nat.min_le_left _ _) (show i ≤ 1000000 by omega)) (by rw [sizeLine_eq]; decide), same_mut (sm.trans s3) hD, ?_⟩
  rw [upd_same, List.take_add_one, List.getElem?_eq_getElem (show i < L.length by omega)]
  rfl
/-! ### comprehensions and loops over a list, a tuple -/
def SqI (J : Addr → It) (ok : Addr → Hp → Prop) (x : V) (H : Hp) (R : It → Hp → Prop) : Prop := ∃ a, x = .ref a ∧ ok a H ∧ R (J a) H
theorem k_itup {tl : TE} {R : It → Hp → Prop} (h : tl σ H fun x H1 => SqI (Itt K) (fun a H => ∃ xs, SqT K H a xs) x H1 R) : iTup K tl σ H R := h
theorem k_ilst {tl : TE} {R : It → Hp → Prop} (h : tl σ H fun x H1 => SqI (Itl K) (fun a H => ∃ xs, SqL K H a xs) x H1 R) : iList K tl σ H R := h
theorem k_sqt {p : Addr} {xs : List V} {R : It → Hp → Prop} (h : SqT K H p xs) (q : R (Itt K p) H) : SqI (Itt K) (fun a H => ∃ xs, SqT K H a xs) (.ref p) H R := ⟨p, rfl, ⟨xs, h⟩, q⟩
theorem k_sql {p : Addr} {xs : List V} {R : It → Hp → Prop} (h : SqL K H p xs) (q : R (Itl K p) H) : SqI (Itl K) (fun a H => ∃ xs, SqL K H a xs) (.ref p) H R := ⟨p, rfl, ⟨xs, h⟩, q⟩
theorem wipe_set {σ : L2.St} {j : Nat} {y : V} : (wipe σ [j]).set j (some y) = σ.set j (some y) := by
  show ((σ.set j none).set j (some y)) = _
  rw [List.set_set]
theorem wipe_set2 {σ : L2.St} {j : Nat} {y : V} : wipe (σ.set j (some y)) [j] = wipe σ [j] := by
  show (σ.set j _).set j none = σ.set j none
  rw [List.set_set]
/-- [e for x in t], t a tuple: the list of the values -/
theorem k_lct {a : Addr} {xs : List V} {j : Nat} (hx : SqT K H1 a xs) (L : List V) (hl : L.length = xs.length) (hz : xs.length ≤ 1000000)
    (hs : ∀ (i : Nat) (x v : V) (H2 : Hp) (R : VK), xs[i]? = some x → L[i]? = some v → Same H1 H2 → (∀ H3, Same H2 H3 → R v H3) → te (σ.set j (some x)) H2 R)
    (q : ∀ D H2, H1 D = none → Same H1 H2 → H2 D = some (.lst L) → Q (.ref D) H2) : LcG (Itt K a) H1 (gName j) tYes te [j] σ Q := by
  intro D hD
  refine lc_tup (fun i H' => Same H1 H' ∧ H' D = some (.lst (L.take i))) ⟨same_new hD, by rw [upd_same]; rfl⟩ (fun i H' _ ⟨sm, _⟩ => same_t sm hx) (fun i x H' hi ⟨sm, hd⟩ => ?_) (fun H' ⟨sm, hd⟩ => q D H' hD sm (by rw [hd, List.take_of_length_le (by omega)]))
  have hil := (List.getElem?_eq_some_iff.mp hi).1
  show wipe ((wipe σ [j]).set j _) [j] = wipe σ [j] ∧ _
  rw [wipe_set]
  refine ⟨wipe_set2, ?_⟩
  refine hs i x (L[i]'(by omega)) H' _ hi (List.getElem?_eq_getElem (by omega)) sm fun H3 s3 => ?_
  refine ⟨L.take i, s3 _ _ hd, Nat.lt_of_le_of_lt (Nat.le_trans (by rw [List.length_take]; exact Nat.min_le_left _ _) (show i ≤ 1000000 by omega)) (by rw [sizeLine_eq]; decide), same_mut (sm.trans s3) hD, ?_⟩
  rw [upd_same, List.take_add_one, List.getElem?_eq_getElem (show i < L.length by omega)]
  rfl
/-- [e for x in xs], xs a list -/
theorem k_lcl {a : Addr} {xs : List V} {j : Nat} (hx : SqL K H1 a xs) (L : List V) (hl : L.length = xs.length) (hz : xs.length ≤ 1000000)
    (hs : ∀ (i : Nat) (x v : V) (H2 : Hp) (R : VK), xs[i]? = some x → L[i]? = some v → Same H1 H2 → (∀ H3, Same H2 H3 → R v H3) → te (σ.set j (some x)) H2 R)
    (q : ∀ D H2, H1 D = none → Same H1 H2 → H2 D = some (.lst L) → Q (.ref D) H2) : LcG (Itl K a) H1 (gName j) tYes te [j] σ Q := by
  intro D hD
  refine lc_list (fun i H' => Same H1 H' ∧ H' D = some (.lst (L.take i))) ⟨same_new hD, by rw [upd_same]; rfl⟩ (fun i H' _ ⟨sm, _⟩ => same_l sm hx) (fun i x H' hi ⟨sm, hd⟩ => ?_) (fun H' ⟨sm, hd⟩ => q D H' hD sm (by rw [hd, List.take_of_length_le (by omega)]))
  have hil := (List.getElem?_eq_some_iff.mp hi).1
  show wipe ((wipe σ [j]).set j _) [j] = wipe σ [j] ∧ _
  rw [wipe_set]
  refine ⟨wipe_set2, ?_⟩
  refine hs i x (L[i]'(by omega)) H' _ hi (List.getElem?_eq_getElem (by omega)) sm fun H3 s3 => ?_
  refine ⟨L.take i, s3 _ _ hd, Nat.lt_of_le_of_lt (Nat.le_trans (by rw [List.length_take]; exact Nat.min_le_left _ _) (show i ≤ 1000000 by omega)) (by rw [sizeLine_eq]; decide), same_mut (sm.trans s3) hD, ?_⟩
  rw [upd_same, List.take_add_one, List.getElem?_eq_getElem (show i < L.length by omega)]
  rfl
theorem rgc_pos {a b c : Int} (ha : 0 ≤ a) (ha' : a ≤ 1000000000) (hb : 0 ≤ b) (hb' : b ≤ 1000000000) (hc : 1 ≤ c) (hc' : c ≤ 1000000000) :
    ∃ n : Nat, RgC a b c n ∧ (n : Int) ≤ b ∧ ∀ i : Nat, i < n ↔ a + i * c < b := by
  have hpos : (0 : Int) ≤ Builtin.Range.rangeSize a b c := by
    unfold Builtin.Range.rangeSize
    rw [if_pos (by omega)]
    split
    · have := Int.ediv_nonneg (a := b - a - 1) (b := c) (by omega) (by omega); omega
    · omega
  have hle : Builtin.Range.rangeSize a b c ≤ b := by
    unfold Builtin.Range.rangeSize
    rw [if_pos (by omega)]
    split
    · have := Int.ediv_le_self c (show 0 ≤ b - a - 1 by omega); omega
    · omega
  obtain ⟨n, hn⟩ := Int.eq_ofNat_of_zero_le hpos
  refine ⟨n, ⟨by omega, by omega, ?_, hn⟩, by omega, fun i => ?_⟩
  · unfold Builtin.Range.small
    simp only [Builtin.Range.rangeFitsLong, Bool.and_eq_true, Bool.or_eq_true, decide_eq_true_eq, beq_iff_eq]
    rw [if_pos (show c > 0 by omega)]
    simp only [Bool.and_eq_true, decide_eq_true_eq]
    refine ⟨⟨⟨⟨?_, ?_⟩, ?_⟩, ?_⟩, .inr ?_⟩ <;> omega
  · unfold Builtin.Range.rangeSize at hn
    rw [if_pos (show c > 0 by omega)] at hn
    have e1 := Int.emod_add_mul_ediv (b - a - 1) c
    have e2 := Int.emod_nonneg (b - a - 1) (show c ≠ 0 by omega)
    have e3 := Int.emod_lt_of_pos (b - a - 1) (show 0 < c by omega)
    by_cases hab : a < b
    · rw [if_pos hab] at hn
      generalize (b - a - 1) / c = q at *
      constructor
      · intro hi
        have : c * (i : Int) ≤ c * q := Int.mul_le_mul_of_nonneg_left (by omega) (by omega)
        rw [Int.mul_comm (i : Int)]; omega
      · intro hi
        by_cases h : (i : Int) ≤ q
        · omega
        · have : c * (q + 1) ≤ c * (i : Int) := Int.mul_le_mul_of_nonneg_left (by omega) (by omega)
          rw [Int.mul_add] at this
          rw [Int.mul_comm (i : Int)] at hi; omega
    · rw [if_neg hab] at hn
      constructor
      · intro hi; omega
      · intro hi
        have : 0 ≤ (i : Int) * c := Int.mul_nonneg (by omega) (by omega)
        omega
def Rng3 (vs : List V) (H : Hp) (R : It → Hp → Prop) : Prop := ∃ (i j c : Int) (n : Nat), vs = [.int i, .int j, .int c] ∧ RgC i j c n ∧ R (Itc i c n) H
theorem k_irng3 {R : It → Hp → Prop} (h : tr σ H fun vs H1 => Rng3 vs H1 R) : iRng3 tr σ H R := h
theorem k_rng3 {i j c : Int} {n : Nat} {R : It → Hp → Prop} (h0 : RgC i j c n) (h : R (Itc i c n) H) : Rng3 [V.int i, V.int j, V.int c] H R := ⟨i, j, c, n, rfl, h0, h⟩
/-! ### list(range(..)), list + list -/
def LstRg (x : V) (H : Hp) (Q : VK) : Prop := ∃ n, x = .int n ∧ (RgOk 0 n ∧ ∀ q, H q = none → Q (.ref q) (upd H q (.lst (rgV 0 n))))
theorem k_lstrg (h : ta σ H fun x H1 => LstRg x H1 Q) : tLstRg (tRg1 ta) σ H Q := h
theorem k_lstrgV (h0 : 0 ≤ a ∧ a ≤ 16777216) (h : ∀ p H2, H p = none → Same H H2 → H2 p = some (.lst (rgV 0 a)) → Q (.ref p) H2) : LstRg (.int a) H Q :=
  ⟨a, rfl, RgOk.of_le (by omega) h0.2 (by omega) h0.1, fun p hp => h p _ hp (same_new hp) upd_same⟩
/-! ### any comprehension: over what tells n items one by one, with a test -/
theorem k_lcG {J : It} {n j : Nat} {item : Nat → V} {tt : TT} (p : Nat → Bool) (g : Nat → V) (hz : n ≤ 1000000)
    (hgo : ∀ i H2, Same H1 H2 → i < n → J.go i H2) (hy : ∀ i H2 x H', Same H1 H2 → i < n → J.yld i H2 x H' → H' = H2 ∧ x = item i) (hst : ∀ H2, Same H1 H2 → J.stop n H2)
    (ht : ∀ i H2 (R : Bool → Hp → Prop), i < n → Same H1 H2 → (∀ H3, Same H2 H3 → R (p i) H3) → tt (σ.set j (some (item i))) H2 R)
    (hv : ∀ i H2 (R : VK), i < n → p i = true → Same H1 H2 → (∀ H3, Same H2 H3 → R (g i) H3) → te (σ.set j (some (item i))) H2 R)
    (q : ∀ D H2, H1 D = none → Same H1 H2 → H2 D = some (.lst (((List.range n).filter p).map g)) → Q (.ref D) H2) : LcG J H1 (gName j) tt te [j] σ Q := by
  intro D hD
  refine ⟨fun i m H' => m = n - i ∧ i ≤ n ∧ Same H1 H' ∧ H' D = some (.lst (((List.range i).filter p).map g)), ⟨n, rfl, Nat.zero_le _, same_new hD, by rw [upd_same]; rfl⟩, ?_⟩
  rintro i m H' ⟨rfl, hi, sm, hd⟩
  by_cases hlt : i < n
  · refine .inr ⟨hgo i H' sm hlt, fun H'' => i + 1 ≤ n ∧ Same H1 H'' ∧ H'' D = some (.lst (((List.range (i + 1)).filter p).map g)), fun H'' ⟨a, b, c⟩ => ⟨n - (i + 1), by omega, rfl, a, b, c⟩, fun x H'' y => ?_⟩
    obtain ⟨rfl, rfl⟩ := hy i H' x H'' sm hlt y
    show wipe ((wipe σ [j]).set j _) [j] = wipe σ [j] ∧ _
    rw [wipe_set]
    refine ⟨wipe_set2, ht i H'' _ hlt sm fun H3 s3 => ?_⟩
    have er : ((List.range (i + 1)).filter p).map g = ((List.range i).filter p).map g ++ (if p i = true then [g i] else []) := by
      rw [List.range_succ, List.filter_append, List.map_append]
      congr 1
      by_cases h : p i = true <;> simp [h]
    cases hp : p i with
    | true =>
      refine hv i H3 _ hlt hp (sm.trans s3) fun H4 s4 => ?_
      refine ⟨_, s4 _ _ (s3 _ _ hd), ?_, hlt, same_mut ((sm.trans s3).trans s4) hD, ?_⟩
      · rw [List.length_map]
        refine Nat.lt_of_le_of_lt (Nat.le_trans (List.length_filter_le _ _) (by rw [List.length_range]; exact (show i ≤ 1000000 by omega))) (by rw [sizeLine_eq]; decide)
      · rw [upd_same, er, if_pos hp]
    | false =>
      refine ⟨hlt, sm.trans s3, ?_⟩
      rw [s3 _ _ hd, er, if_neg (by rw [hp]; decide), List.append_nil]
  · have e : i = n := by omega
    subst e
    exact .inl ⟨hst H' sm, q D H' hD sm hd⟩
theorem k_lcrf {lo : Int} {n j : Nat} {tt : TT} (p : Nat → Bool) (g : Nat → V) (hz : n ≤ 1000000)
    (ht : ∀ i H2 (R : Bool → Hp → Prop), i < n → Same H1 H2 → (∀ H3, Same H2 H3 → R (p i) H3) → tt (σ.set j (some (.int (lo + i)))) H2 R)
    (hv : ∀ i H2 (R : VK), i < n → p i = true → Same H1 H2 → (∀ H3, Same H2 H3 → R (g i) H3) → te (σ.set j (some (.int (lo + i)))) H2 R)
    (q : ∀ D H2, H1 D = none → Same H1 H2 → H2 D = some (.lst (((List.range n).filter p).map g)) → Q (.ref D) H2) : LcG (Itr lo n) H1 (gName j) tt te [j] σ Q :=
  k_lcG (item := fun i => .int (lo + i)) p g hz (fun i H2 _ h => h) (fun i H2 x H' _ _ y => ⟨y.1, y.2⟩) (fun H2 _ => Nat.le_refl _) ht hv q
theorem k_lccf {lo c : Int} {n j : Nat} {tt : TT} (p : Nat → Bool) (g : Nat → V) (hz : n ≤ 1000000)
    (ht : ∀ i H2 (R : Bool → Hp → Prop), i < n → Same H1 H2 → (∀ H3, Same H2 H3 → R (p i) H3) → tt (σ.set j (some (.int (lo + (i : Nat) * c)))) H2 R)
    (hv : ∀ i H2 (R : VK), i < n → p i = true → Same H1 H2 → (∀ H3, Same H2 H3 → R (g i) H3) → te (σ.set j (some (.int (lo + (i : Nat) * c)))) H2 R)
    (q : ∀ D H2, H1 D = none → Same H1 H2 → H2 D = some (.lst (((List.range n).filter p).map g)) → Q (.ref D) H2) : LcG (Itc lo c n) H1 (gName j) tt te [j] σ Q :=
  k_lcG (item := fun i => .int (lo + (i : Nat) * c)) p g hz (fun i H2 _ h => h) (fun i H2 x H' _ _ y => ⟨y.1, y.2⟩) (fun H2 _ => Nat.le_refl _) ht hv q
theorem k_lclf {a : Addr} {xs : List V} {j : Nat} {tt : TT} (hx : SqL K H1 a xs) (p : Nat → Bool) (g : Nat → V) (hz : xs.length ≤ 1000000)
    (ht : ∀ i H2 (R : Bool → Hp → Prop), i < xs.length → Same H1 H2 → (∀ H3, Same H2 H3 → R (p i) H3) → tt (σ.set j (some (xs.getD i .non))) H2 R)
    (hv : ∀ i H2 (R : VK), i < xs.length → p i = true → Same H1 H2 → (∀ H3, Same H2 H3 → R (g i) H3) → te (σ.set j (some (xs.getD i .non))) H2 R)
    (q : ∀ D H2, H1 D = none → Same H1 H2 → H2 D = some (.lst (((List.range xs.length).filter p).map g)) → Q (.ref D) H2) : LcG (Itl K a) H1 (gName j) tt te [j] σ Q :=
  k_lcG (item := fun i => xs.getD i .non) p g hz (fun i H2 s h => ⟨xs, xs[i], same_l s hx, by simp [h]⟩) (fun i H2 x H' s h y => by
    obtain ⟨e, y⟩ := y
    refine ⟨e, ?_⟩
    have := y xs (same_l s hx)
    rw [List.getD_eq_getElem?_getD, this]; rfl) (fun H2 s => ⟨xs, same_l s hx, Nat.le_refl _⟩) ht hv q
theorem range_all {α : Type} (xs : List α) (d : α) : ((List.range xs.length).filter fun _ => true).map (fun i => xs.getD i d) = xs := by
  rw [List.filter_eq_self.mpr (fun _ _ => rfl)]
  apply List.ext_getElem
  · simp
  · intro i h1 h2
    simp [List.getD_eq_getElem?_getD, List.getElem?_eq_getElem h2]
/-! ### operators by values -/
def rAddA : R2 := fun x y H Q => rI0 (fun i j => .int (i + j)) x y H Q ∨ (∃ i j, x = .str i ∧ y = .str j ∧ i.length + j.length ≤ sizeLine ∧ Q (.str (i ++ j)) H) ∨ rCat x y H Q
theorem op_addA {X : Cx} : OpR X (binaryOp .Add) rAddA := op_add.or (op_add_str.or op_cat)
theorem k_add (q : Q (.int (a + b)) H) : rAddA (.int a) (.int b) H Q := .inl ⟨a, b, rfl, rfl, q⟩
theorem k_cat {l c : Addr} {xs zs : List V} (h1 : H l = some (.lst xs)) (h2 : H c = some (.lst zs)) (hl : xs.length + zs.length ≤ 16000000) (h : ∀ p H2, H p = none → Same H H2 → H2 p = some (.lst (xs ++ zs)) → Q (.ref p) H2) : rAddA (.ref l) (.ref c) H Q :=
  .inr (.inr ⟨l, c, xs, zs, rfl, rfl, h1, h2, Nat.le_trans hl (by rw [sizeLine_eq]; decide), fun p hp => h p _ hp (same_new hp) upd_same⟩)
def rEqA (K : PySem.W.Frag) : R2 := fun x y H Q => rEq x y H Q ∨ rEqD K x y H Q
def rNeA (K : PySem.W.Frag) : R2 := fun x y H Q => rNe x y H Q ∨ rNeD K x y H Q
theorem op_eqA {X : Cx} (hu : X.A.units + 64 < cLine) : OpR X (compareOp .Eq) (rEqA X.K) := op_eq.or (op_eqD hu)
theorem op_neA {X : Cx} (hu : X.A.units + 64 < cLine) : OpR X (compareOp .NotEq) (rNeA X.K) := op_ne.or (op_neD hu)
theorem dec_i : decide (V.int a = V.int b) = decide (a = b) := by
  by_cases h : a = b
  · subst h; simp
  · rw [decide_eq_false h, decide_eq_false (fun e => h (V.int.inj e))]
theorem dec_b {a b : Bool} : decide (V.bl a = V.bl b) = decide (a = b) := by
  by_cases h : a = b
  · subst h; simp
  · rw [decide_eq_false h, decide_eq_false (fun e => h (V.bl.inj e))]
theorem dec_s {a b : Str} : decide (V.str a = V.str b) = decide (a = b) := by
  by_cases h : a = b
  · subst h; simp
  · rw [decide_eq_false h, decide_eq_false (fun e => h (V.str.inj e))]
theorem k_eq (q : Q (.bl (decide (a = b))) H) : rEqA K (.int a) (.int b) H Q := .inl ⟨rfl, by rw [dec_i]; exact q⟩
theorem k_ne (q : Q (.bl (!decide (a = b))) H) : rNeA K (.int a) (.int b) H Q := .inl ⟨rfl, by rw [dec_i]; exact q⟩
theorem k_eqb {a b : Bool} (q : Q (.bl (decide (a = b))) H) : rEqA K (.bl a) (.bl b) H Q := .inl ⟨rfl, by rw [dec_b]; exact q⟩
theorem k_neb {a b : Bool} (q : Q (.bl (!decide (a = b))) H) : rNeA K (.bl a) (.bl b) H Q := .inl ⟨rfl, by rw [dec_b]; exact q⟩
theorem k_eqs {a b : Str} (q : Q (.bl (decide (a = b))) H) : rEqA K (.str a) (.str b) H Q := .inl ⟨rfl, by rw [dec_s]; exact q⟩
theorem k_nes {a b : Str} (q : Q (.bl (!decide (a = b))) H) : rNeA K (.str a) (.str b) H Q := .inl ⟨rfl, by rw [dec_s]; exact q⟩
theorem k_ixT {p : Addr} {xs : List V} {i : Int} (h : SqT K H p xs) (ha : atI xs i = some v) (q : Q v H) : rIx K (.ref p) (.int i) H Q := .inr (.inl ⟨p, xs, i, v, rfl, rfl, h, ha, q⟩)
theorem k_ixL {p : Addr} {xs : List V} {i : Int} (h : SqL K H p xs) (ha : atI xs i = some v) (q : Q v H) : rIx K (.ref p) (.int i) H Q := .inl ⟨p, xs, i, v, rfl, rfl, h, ha, q⟩
theorem inV_ints {a : Int} : ∀ l : List Int, inV (.int a) (l.map V.int) = decide (a ∈ l)
  | [] => rfl
  | x :: r => by
    have ih := inV_ints (a := a) r
    show (inV (.int a) (.int x :: r.map V.int)) = _
    unfold inV at ih ⊢
    rw [List.any_cons, ih]
    have e : eqV (.int x) (.int a) = decide (a = x) := by
      show (x == a) = decide (a = x)
      by_cases h : a = x
      · subst h; simp
      · rw [decide_eq_false h]; simpa using fun e => h e.symm
    by_cases h : a = x
    · subst h; simp [e]
    · simp [e, h]
theorem flat_ints : ∀ l : List Int, (l.map V.int).all flatV = true
  | [] => rfl
  | x :: r => by rw [List.map_cons, List.all_cons, flat_ints r]; rfl
theorem k_inL {neg : Bool} {p : Addr} {l : List Int} (h : SqL K H p (l.map V.int)) (q : Q (.bl (if neg then !decide (a ∈ l) else decide (a ∈ l))) H) : rIn K neg (.int a) (.ref p) H Q :=
  ⟨p, l.map V.int, rfl, .inl h, rfl, flat_ints l, by rw [inV_ints]; exact q⟩
theorem k_notinL {p : Addr} {l : List Int} (h : SqL K H p (l.map V.int)) (q : Q (.bl (!decide (a ∈ l))) H) : rIn K true (.int a) (.ref p) H Q := k_inL (neg := true) h q
theorem k_inL' {p : Addr} {l : List Int} (h : SqL K H p (l.map V.int)) (q : Q (.bl (decide (a ∈ l))) H) : rIn K false (.int a) (.ref p) H Q := k_inL (neg := false) h q
theorem inV2 {x y : Int} : inV (.int a) [.int x, .int y] = decide (a = x ∨ a = y) := by
  have h := inV_ints (a := a) [x, y]
  have e : (decide (a ∈ [x, y])) = decide (a = x ∨ a = y) := by
    have : a ∈ [x, y] ↔ (a = x ∨ a = y) := by simp
    simp [this]
  exact h.trans e
theorem k_notin2 {p : Addr} {x y : Int} (h : SqL K H p [.int x, .int y]) (q : Q (.bl (!decide (a = x ∨ a = y))) H) : rIn K true (.int a) (.ref p) H Q :=
  ⟨p, _, rfl, .inl h, rfl, rfl, by rw [inV2]; exact q⟩
theorem k_in2 {p : Addr} {x y : Int} (h : SqL K H p [.int x, .int y]) (q : Q (.bl (decide (a = x ∨ a = y))) H) : rIn K false (.int a) (.ref p) H Q :=
  ⟨p, _, rfl, .inl h, rfl, rfl, by rw [inV2]; exact q⟩
def rIsN : R2 := fun x y H Q => y = .non ∧ Q (.bl (decide (x = .non))) H
def rNotN : R2 := fun x y H Q => y = .non ∧ Q (.bl (!decide (x = .non))) H
theorem kb_isN {X : Cx} : OpR X (compareOp .Is) rIsN := op_isN
theorem kb_notN {X : Cx} : OpR X (compareOp .IsNot) rNotN := op_notN
theorem k_isN_n (q : Q (.bl true) H) : rIsN .non .non H Q := ⟨rfl, q⟩
theorem k_isN_i (q : Q (.bl false) H) : rIsN (.int a) .non H Q := ⟨rfl, q⟩
theorem k_isN_r {p : Addr} (q : Q (.bl false) H) : rIsN (.ref p) .non H Q := ⟨rfl, q⟩
theorem k_notN_n (q : Q (.bl false) H) : rNotN .non .non H Q := ⟨rfl, q⟩
theorem k_notN_i (q : Q (.bl true) H) : rNotN (.int a) .non H Q := ⟨rfl, q⟩
theorem k_notN_r {p : Addr} (q : Q (.bl true) H) : rNotN (.ref p) .non H Q := ⟨rfl, q⟩
/-! ### == of pairs and lists of ints -/
theorem dp_ints : ∀ l : List Int, DpAll K H (l.map V.int) (l.map PyData.int)
  | [] => .nil
  | x :: r => .cons (.int x) (dp_ints r)
theorem eqv_ints : ∀ l m : List Int, PyData.eqvAll (l.map PyData.int) (m.map PyData.int) = decide (l = m)
  | [], [] => by simp [PyData.eqvAll]
  | [], _ :: _ => by simp [PyData.eqvAll]
  | _ :: _, [] => by simp [PyData.eqvAll]
  | x :: r, y :: t => by
    rw [List.map_cons, List.map_cons, PyData.eqvAll, eqv_ints r t, PyData.eqv]
    by_cases h : x = y <;> simp [h]
theorem shaped_tints (l : List Int) : SeqAt.shaped (.tuple (l.map PyData.int)) = true := by
  have h1 : ∀ l : List Int, PyData.canLayAll0 (l.map PyData.int) = true := fun l => by
    induction l with
    | nil => rfl
    | cons x r ih => rw [List.map_cons]; simp [PyData.canLayAll0, PyData.canLay0, ih]
  have h2 : ∀ l : List Int, PyData.depthAll (l.map PyData.int) ≤ 1 := fun l => by
    induction l with
    | nil => simp [PyData.depthAll]
    | cons x r ih => rw [List.map_cons]; simp [PyData.depthAll, PyData.depth]; omega
  have := h2 l
  simp [SeqAt.shaped, PyData.canLay0, PyData.depth, h1 l]
  omega
theorem shaped_lints (l : List Int) : SeqAt.shaped (.list (l.map PyData.int)) = true := by
  have h1 : ∀ l : List Int, PyData.canLayAll0 (l.map PyData.int) = true := fun l => by
    induction l with
    | nil => rfl
    | cons x r ih => rw [List.map_cons]; simp [PyData.canLayAll0, PyData.canLay0, ih]
  have h2 : ∀ l : List Int, PyData.depthAll (l.map PyData.int) ≤ 1 := fun l => by
    induction l with
    | nil => simp [PyData.depthAll]
    | cons x r ih => rw [List.map_cons]; simp [PyData.depthAll, PyData.depth]; omega
  have := h2 l
  simp [SeqAt.shaped, PyData.canLay0, PyData.depth, h1 l]
  omega
theorem k_eqT {p q : Addr} {l m : List Int} (h1 : SqT K H p (l.map V.int)) (h2 : SqT K H q (m.map V.int)) (r : Q (.bl (decide (l = m))) H) : rEqA K (.ref p) (.ref q) H Q :=
  .inr ⟨_, _, .tup h1 (dp_ints l), .tup h2 (dp_ints m), shaped_tints l, shaped_tints m, by rw [PyData.eqv, eqv_ints]; exact r⟩
theorem k_neT {p q : Addr} {l m : List Int} (h1 : SqT K H p (l.map V.int)) (h2 : SqT K H q (m.map V.int)) (r : Q (.bl (!decide (l = m))) H) : rNeA K (.ref p) (.ref q) H Q :=
  .inr ⟨_, _, .tup h1 (dp_ints l), .tup h2 (dp_ints m), shaped_tints l, shaped_tints m, by rw [PyData.eqv, eqv_ints]; exact r⟩
theorem k_eqL {p q : Addr} {l m : List Int} (h1 : SqL K H p (l.map V.int)) (h2 : SqL K H q (m.map V.int)) (r : Q (.bl (decide (l = m))) H) : rEqA K (.ref p) (.ref q) H Q :=
  .inr ⟨_, _, .lst h1 (dp_ints l), .lst h2 (dp_ints m), shaped_lints l, shaped_lints m, by rw [PyData.eqv, eqv_ints]; exact r⟩
theorem k_neL {p q : Addr} {l m : List Int} (h1 : SqL K H p (l.map V.int)) (h2 : SqL K H q (m.map V.int)) (r : Q (.bl (!decide (l = m))) H) : rNeA K (.ref p) (.ref q) H Q :=
  .inr ⟨_, _, .lst h1 (dp_ints l), .lst h2 (dp_ints m), shaped_lints l, shaped_lints m, by rw [PyData.eqv, eqv_ints]; exact r⟩
theorem k_eqP {p q : Addr} {c d : Int} (h1 : SqT K H p [.int a, .int b]) (h2 : SqT K H q [.int c, .int d]) (r : Q (.bl (decide (a = c ∧ b = d))) H) : rEqA K (.ref p) (.ref q) H Q :=
  k_eqT (l := [a, b]) (m := [c, d]) h1 h2 (by
    have e : decide ([a, b] = [c, d]) = decide (a = c ∧ b = d) := by simp
    rw [e]; exact r)
theorem k_neP {p q : Addr} {c d : Int} (h1 : SqT K H p [.int a, .int b]) (h2 : SqT K H q [.int c, .int d]) (r : Q (.bl (!decide (a = c ∧ b = d))) H) : rNeA K (.ref p) (.ref q) H Q :=
  k_neT (l := [a, b]) (m := [c, d]) h1 h2 (by
    have e : decide ([a, b] = [c, d]) = decide (a = c ∧ b = d) := by simp
    rw [e]; exact r)
/-! ### calls of built-ins by values -/
def rAbs : List V → Hp → VK → Prop := fun xs H Q => ∃ i, xs = [.int i] ∧ Q (.int (if i < 0 then -i else i)) H
theorem cb_abs {X : Cx} : CallR X (.builtin "abs") rAbs := call_abs
theorem k_abs (q : Q (.int (if a < 0 then -a else a)) H) : rAbs [.int a] H Q := ⟨a, rfl, q⟩
def rMax2 : List V → Hp → VK → Prop := fun xs H Q => ∃ i j, xs = [.int i, .int j] ∧ Q (.int (if j > i then j else i)) H
theorem cb_max2 {X : Cx} (hc : X.calm = true) : CallR X (.builtin "max") rMax2 := call_max2 hc
theorem k_max2 (q : ∀ k : Int, (k = a ∨ k = b) → a ≤ k → b ≤ k → Q (.int k) H) : rMax2 [.int a, .int b] H Q := ⟨a, b, rfl, by split <;> exact q _ (by omega) (by omega) (by omega)⟩
def rMin2 : List V → Hp → VK → Prop := fun xs H Q => ∃ i j, xs = [.int i, .int j] ∧ Q (.int (if j < i then j else i)) H
theorem cb_min2 {X : Cx} (hc : X.calm = true) : CallR X (.builtin "min") rMin2 := call_min2 hc
theorem k_min2 (q : ∀ k : Int, (k = a ∨ k = b) → k ≤ a → k ≤ b → Q (.int k) H) : rMin2 [.int a, .int b] H Q := ⟨a, b, rfl, by split <;> exact q _ (by omega) (by omega) (by omega)⟩
def rLen (K : PySem.W.Frag) : List V → Hp → VK → Prop := fun xs H Q => ∃ x n, xs = [x] ∧ LenV K x H n ∧ Q (.int n) H
theorem cb_len {X : Cx} : CallR X (.builtin "len") (rLen X.K) := call_len
theorem k_lenL {p : Addr} {xs : List V} (h : SqL K H p xs) (q : Q (.int (xs.length : Int)) H) : rLen K [.ref p] H Q := ⟨.ref p, xs.length, rfl, .inl ⟨xs, h, rfl⟩, q⟩
theorem k_lenT {p : Addr} {xs : List V} (h : SqT K H p xs) (q : Q (.int (xs.length : Int)) H) : rLen K [.ref p] H Q := ⟨.ref p, xs.length, rfl, .inr ⟨xs, h, rfl⟩, q⟩
def rDivmod : List V → Hp → VK → Prop := fun xs H Q => ∃ i j, xs = [.int i, .int j] ∧ CDivP i j ∧ ∀ p, H p = none → Q (.ref p) (upd H p (.tup [.int (i / j), .int (i % j)]))
theorem cb_divmod {X : Cx} : CallR X (.builtin "divmod") rDivmod := call_divmodW
theorem k_divmod (c : CDivP a b) (h : ∀ p H2, H p = none → Same H H2 → H2 p = some (.tup [.int (a / b), .int (a % b)]) → Q (.ref p) H2) : rDivmod [.int a, .int b] H Q :=
  ⟨a, b, rfl, c, fun p hp => h p _ hp (same_new hp) upd_same⟩
theorem k_sum {p : Addr} {l : List Int} (h : SqL K H p (l.map V.int)) (q : Q (.int l.sum) H) : rSum K [.ref p] H Q := ⟨p, l, rfl, h, q⟩
theorem k_all {p : Addr} {l : List Bool} (h : SqL K H p (l.map V.bl)) (q : Q (.bl (l.all id)) H) : rAll K [.ref p] H Q := ⟨p, l, rfl, h, q⟩
theorem k_any {p : Addr} {l : List Bool} (h : SqL K H p (l.map V.bl)) (q : Q (.bl (l.any id)) H) : rAny K [.ref p] H Q := ⟨p, l, rfl, h, q⟩
def BitsV (x : V) (H : Hp) (Q : VK) : Prop := ∃ i, x = .int i ∧ Q (.int (Builtin.Int.intBits i : Nat)) H
theorem k_bits (h : ta σ H fun x H1 => BitsV x H1 Q) : tBits ta σ H Q := h
theorem k_bitsV (q : Q (.int (Builtin.Int.intBits a : Nat)) H) : BitsV (.int a) H Q := ⟨a, rfl, q⟩
def rInt : List V → Hp → VK → Prop := fun xs H Q => (∃ i, xs = [.int i] ∧ Q (.int i) H) ∨ ∃ k, xs = [.bl k] ∧ Q (.int (if k then 1 else 0)) H
theorem cb_int {X : Cx} : CallR X (.type "int") rInt := call_int1
theorem k_intI (q : Q (.int a) H) : rInt [.int a] H Q := .inl ⟨a, rfl, q⟩
theorem k_intB {c : Bool} (q : Q (.int (if c then 1 else 0)) H) : rInt [.bl c] H Q := .inr ⟨c, rfl, q⟩
theorem k_isi_ii (q : Q (.bl true) H) : rIsi K [.int a, .ty "int"] H Q := ⟨.int a, .ty "int", .type "int", .type "int", true, rfl, .ty _, .base (.int _), kit_ty (by decide +kernel), q⟩
theorem k_isi_ib (q : Q (.bl false) H) : rIsi K [.int a, .ty "bool"] H Q := ⟨.int a, .ty "bool", .type "int", .type "bool", false, rfl, .ty _, .base (.int _), kit_ty (by decide +kernel), q⟩
theorem k_isi_bb {c : Bool} (q : Q (.bl true) H) : rIsi K [.bl c, .ty "bool"] H Q := ⟨.bl c, .ty "bool", .type "bool", .type "bool", true, rfl, .ty _, .base (.bl _), kit_ty (by decide +kernel), q⟩
theorem k_isi_it (q : Q (.bl false) H) : rIsi K [.int a, .ty "tuple"] H Q := ⟨.int a, .ty "tuple", .type "int", .type "tuple", false, rfl, .ty _, .base (.int _), kit_ty (by decide +kernel), q⟩
theorem tyx_t {p : Addr} {xs : List V} (h : SqT K H p xs) : TyX K H (.ref p) (.type "tuple") := by
  rcases h with (h | ⟨o, h⟩) | ⟨o, its, n, l, c, _⟩
  · exact .base (.tup h)
  · exact .fTuple h
  · exact .kTuple l c
theorem k_isi_tt {p : Addr} {xs : List V} (h : SqT K H p xs) (q : Q (.bl true) H) : rIsi K [.ref p, .ty "tuple"] H Q := ⟨.ref p, .ty "tuple", .type "tuple", .type "tuple", true, rfl, .ty _, tyx_t h, kit_ty (by decide +kernel), q⟩
/-! ### the rules that speak of the written part, by its own letter -/
section
variable {X : Cx} (K : PySem.W.Frag) (hK : X.K = K := by rfl)
include hK
theorem kb_ix : IxR X (rIx K) := hK ▸ ix_seq
theorem kb_eq (hu : X.A.units + 64 < cLine) : OpR X (compareOp .Eq) (rEqA K) := hK ▸ op_eqA hu
theorem kb_ne (hu : X.A.units + 64 < cLine) : OpR X (compareOp .NotEq) (rNeA K) := hK ▸ op_neA hu
theorem kb_in : OpR X (compareOp .In) (rIn K false) := hK ▸ op_in_seq
theorem kb_notIn : OpR X (compareOp .NotIn) (rIn K true) := hK ▸ op_notIn_seq
theorem kb_len : CallR X (.builtin "len") (rLen K) := hK ▸ cb_len
theorem kb_isi : CallR X (.builtin "isinstance") (rIsi K) := hK ▸ call_isi
theorem kb_sum (hc : X.calm = true) : CallR X (.builtin "sum") (rSum K) := hK ▸ cr_sum hc
theorem kb_max (hc : X.calm = true) : CallR X (.builtin "max") (rMax K) := hK ▸ cr_max hc
theorem kb_min (hc : X.calm = true) : CallR X (.builtin "min") (rMin K) := hK ▸ cr_min hc
theorem kb_all (hc : X.calm = true) : CallR X (.builtin "all") (rAll K) := hK ▸ cr_all hc
theorem kb_any (hc : X.calm = true) : CallR X (.builtin "any") (rAny K) := hK ▸ cr_any hc
end
/-- // by any divisor but 0, below 2 ^ 9000 -/
def CDivX (_ j : Int) : Prop := j ≠ 0 ∧ j.natAbs.log2 < 9000
theorem op_fdivX {X : Cx} : OpR X (binaryOp .FloorDiv) (rI CDivX fun i j => .int (i.fdiv j)) := opI fun i j _ _ _ _ _ hc q => floordiv_int hc.1 q (.inl (PyProof.noPylong_of_log2 hc.2))
/-- a power of written numbers -/
theorem pe_powc {X : Cx} {b e n : Int} {j1 j2 : Nat} {p1 p2 pos : Pos} (h : (0 ≤ e ∧ e ≤ 1000000 ∧ b.natAbs < 2 ^ 64) ∧ b ^ e.toNat = n) : PE X (.BinOp (.Constant (.int b) j1 p1) .Pow (.Constant (.int e) j2 p2) pos) (tC (.int n)) :=
  ⟨fun pins s σ H Q I q => (pe_op (X := X) op_pow pe_int pe_int).run pins s σ H Q I ⟨b, e, rfl, rfl, h.1, by show Q (.int (b ^ e.toNat)) H; rw [h.2]; exact q⟩⟩
end
/-! ### sizes -/
structure Sm (n : Nat) (i : Int) : Prop where
  h : i.natAbs < 2 ^ n
theorem sm_lit {i : Int} (h : i.natAbs < 2 ^ 400) : Sm 400 i := ⟨h⟩
theorem sm_mono {a b : Nat} {i : Int} (h : Sm a i) (hab : a ≤ b) : Sm b i := ⟨Nat.lt_of_lt_of_le h.h (Nat.pow_le_pow_right (by decide) hab)⟩
theorem sm41 {i : Int} (h1 : -1000000000000000000000000000000000000000000000000000000000000 ≤ i) (h2 : i ≤ 1000000000000000000000000000000000000000000000000000000000000) : Sm 200 i := by
  have e : (2 : Nat) ^ 200 = 1606938044258990275541962092341162602522202993782792835301376 := by decide
  refine ⟨?_⟩
  rw [e]; omega
theorem mul_bd {x k X Y : Int} (h1 : 1 ≤ x) (h2 : x ≤ X) (h3 : 1 ≤ k) (h4 : k ≤ Y) : 1 ≤ x * k ∧ x * k ≤ X * Y := by
  refine ⟨Int.mul_pos (by omega) (by omega), ?_⟩
  exact Int.mul_le_mul h2 h4 (by omega) (by omega)
theorem mul_bd2 {x k X Y : Int} (h1 : -X ≤ x) (h2 : x ≤ X) (h3 : -Y ≤ k) (h4 : k ≤ Y) : -(X * Y) ≤ x * k ∧ x * k ≤ X * Y := by
  have e : (x * k).natAbs ≤ X.natAbs * Y.natAbs := by rw [Int.natAbs_mul]; exact Nat.mul_le_mul (by omega) (by omega)
  have e2 : ((X.natAbs * Y.natAbs : Nat) : Int) = X * Y := by
    rw [Int.natCast_mul, show ((X.natAbs : Nat) : Int) = X by omega, show ((Y.natAbs : Nat) : Int) = Y by omega]
  omega
theorem sm_mul {i j : Int} {a b : Nat} (ha : Sm a i) (hb : Sm b j) : Sm (a + b) (i * j) := ⟨wide_lt ha.h hb.h⟩
theorem sm_bits {i : Int} {n : Nat} (h : Builtin.Int.intBits i ≤ n) : Sm n i := by
  unfold Builtin.Int.intBits at h
  split at h
  · rename_i z
    have : i = 0 := by simpa using z
    subst this
    exact ⟨Nat.pow_pos (by decide)⟩
  · rename_i z
    have hz : i.natAbs ≠ 0 := by
      intro q
      apply z
      have : i = 0 := by omega
      subst this
      decide
    exact ⟨Nat.lt_of_lt_of_le ((Nat.log2_lt hz).mp (Nat.lt_succ_self _)) (Nat.pow_le_pow_right (by decide) h)⟩
theorem sm_mulx {i j : Int} {a b : Nat} (ha : Sm a i) (hb : Sm b j) (h : a + b ≤ 134217728) : CMulX i j := mulx_ok ha.h hb.h h
theorem modbd {y n B : Int} (hn : 1 ≤ n) (h : n ≤ B) : 0 ≤ y % n ∧ y % n ≤ B := ⟨Int.emod_nonneg _ (by omega), by have := Int.emod_lt_of_pos y (show 0 < n by omega); omega⟩
theorem sm_divx {i j : Int} {b : Nat} (h : j ≠ 0) (hb : Sm b j) (h0 : 0 < b) (h9 : b ≤ 9000) : CDivX i j := ⟨h, Nat.lt_of_lt_of_le (PySem.Flt.log2_lt_of h0 hb.h) h9⟩
theorem sm_div {i j : Int} {b : Nat} (h : 0 < j) (hb : Sm b j) (h0 : 0 < b) (h9 : b ≤ 9000) : CDivW i j := wide_div h hb.h h0 h9
/-! ### range of great numbers -/
theorem turn_rangeL {P : Program} {w : World} {K : PySem.W.Frag} {tg : Expr} (it : Addr) (lo c : Int) (n : Nat) : Turn P w K tg (Itc lo c n) [it] it (fun i h => PySem.IsLongIter h it (lo + (i : Nat) * c) ((n : Int) - (i : Nat)) c) where
  mem := by simp
  obj := fun i h st b hb => by
    have e : b = it := by simpa using hb
    subst e
    exact ⟨_, st, fun v z => nomatch z⟩
  keep := fun i h h' st k => k it (by simp) _ st
  item := by
    intro X hP hw hK hc i pins s σ H E I hf st hg
    subst hP hw hK
    obtain ⟨f0, f1, f2, f3, f4, f5⟩ := hf it (by simp)
    have W := Walks.longrange (prog := X.prog) (w := X.w) (I.ok.hd hc) it lo c n
    refine W.item i s _ _ hg st fun v h' tk hv st' kk => ?_
    obtain ⟨t, rfl⟩ := hv
    have I1 : Inv X pins σ H { s with heap := h', toks := tk } := I.turned (fun b o hb e => kk b o (by simpa using hb) e) f0 f1 f3 f4 f5
    exact ⟨_, rfl, go_of (s := { s with heap := h', toks := tk }) (n := "longrange_iterator") st' rfl rfl (by decide) ⟨.int (lo + (i : Nat) * c), H, I1, ⟨t, rfl⟩, ⟨rfl, rfl⟩, st', fun b hb => (hf b hb).1⟩⟩
  done := by
    intro X hP hw hK hc i pins s σ H E I hf st hg
    subst hP hw hK
    obtain ⟨f0, f1, f2, f3, f4, f5⟩ := hf it (by simp)
    exact PySem.wpAny_pyNext_long_end (I.ok.hd hc) st (by have : n ≤ i := hg; omega) fun h' eb => ⟨rfl, I.turned (t' := s.toks) (fun b o hb e => eb b o hb e) f0 f1 f3 f4 f5⟩
  self := fun A i s Q E st h => PySem.wpAny_pyIter_longiter st h
theorem itc_one (lo : Int) (n : Nat) : Itc lo 1 n = Itr lo n := by
  unfold Itc Itr
  simp only [Int.mul_one]
def Rng2L (vs : List V) (H : Hp) (R : It → Hp → Prop) : Prop := ∃ i j : Int, vs = [.int i, .int j] ∧ R (Itr i (j - i).toNat) H
def iRng2L (ta : TA) : TI := fun σ H R => ta σ H fun vs H1 => Rng2L vs H1 R
theorem pi_range2L {X : Cx} {tg : Expr} {a b : Expr} {ta : TA} {p pos : Pos} (hg : Gl X "range") (hm : X.mg "range" = none) (ha : PA X [a, b] ta) (hs : starEach [a, b] X.env = [(false, eval a X.env), (false, eval b X.env)] := by rfl) (hs2 : starEach [b] X.env = [(false, eval b X.env)] := by rfl) :
    PI X tg (.Call (.Name "range" p) [a, b] [] pos) (iRng2L ta) := by
  refine ⟨fun pins s σ H R I h => ?_⟩
  refine Call_ (ld_blt I hg hm boot_range (PyProof.Rows.callWith_type1 (thn (ha.run pos pins s σ H _ I h) fun us s1 ⟨vs, H1, I1, r1, q1⟩ => ?_) (by rw [hs, hs2]) (by rw [hs2]; rfl)))
  obtain ⟨i, j, e, q⟩ := q1
  subst e
  cases r1 with
  | cons r rr =>
    cases rr with
    | cons r' rr =>
      cases rr
      obtain ⟨t, rfl⟩ := r
      obtain ⟨t', rfl⟩ := r'
      refine PySem.call_range_2 ?_
      have I2 : Inv X pins σ H1 { s1 with heap := s1.heap.push { cls := .type "range", data := .fields #[.int i t, .int j t', .int 1 s1.toks] }, toks := s1.toks + 1 } := I1.kept (t' := s1.toks + 1) fun b o e => Heap.get?_push_of_some _ e
      have e1 : i + ((0 : Nat) : Int) * 1 = i := by simp
      have e2 : (((j - i).toNat : Nat) : Int) - ((0 : Nat) : Int) = Builtin.Range.rangeSize i j 1 := by rw [PyProof.Rows.rangeSize_nat]; simp
      rw [← itc_one] at q
      cases hsm : Builtin.Range.small i j 1 with
      | true =>
        refine wpAny_pyIter_range (IsRange.new ..) hsm ?_
        refine pi_one (tk := s1.toks + 1) I2 _ (turn_rangeC _ i 1 (j - i).toNat) ?_ q
        show IsRangeIter _ _ (i + ((0 : Nat) : Int) * 1) ((((j - i).toNat : Nat) : Int) - ((0 : Nat) : Int)) 1
        rw [e1, e2]
        exact Heap.get?_push_size _ rfl
      | false =>
        refine wpAny_pyIter_longrange (IsRange.new ..) hsm ?_
        refine pi_one (tk := s1.toks + 1) I2 _ (turn_rangeL _ i 1 (j - i).toNat) ?_ q
        show IsLongIter _ _ (i + ((0 : Nat) : Int) * 1) ((((j - i).toNat : Nat) : Int) - ((0 : Nat) : Int)) 1
        rw [e1, e2]
        exact Heap.get?_push_size _ rfl
section
variable {σ : L2.St} {H : Hp} {tr : TA} {m n : Int}
theorem k_irng2L {R : It → Hp → Prop} (h : tr σ H fun vs H1 => Rng2L vs H1 R) : iRng2L tr σ H R := h
theorem k_rng2L {R : It → Hp → Prop} (h : R (Itr m (n - m).toNat) H) : Rng2L [V.int m, V.int n] H R := ⟨m, n, rfl, h⟩
end
theorem b_dec {b : Bool} {p : Prop} [Decidable p] (h : b = true ↔ p) : b = decide p := by
  by_cases hp : p
  · rw [decide_eq_true hp]; exact h.mpr hp
  · rw [decide_eq_false hp]
    cases hb : b with
    | false => rfl
    | true => exact absurd (h.mp hb) hp
/-- a test that something differs, where it does not -/
theorem if_same {p A B : Prop} [Decidable p] (h : p) (h2 : B) : if (!decide p) = true then A else B := if_ndec (fun hn => absurd h hn) (fun _ => h2)
theorem inV3 {a x y z : Int} : inV (.int a) [.int x, .int y, .int z] = decide (a = x ∨ a = y ∨ a = z) := by
  have h := inV_ints (a := a) [x, y, z]
  have e : (decide (a ∈ [x, y, z])) = decide (a = x ∨ a = y ∨ a = z) := by
    have : a ∈ [x, y, z] ↔ (a = x ∨ a = y ∨ a = z) := by simp
    simp [this]
  exact h.trans e
theorem k_in3 {K : PySem.W.Frag} {H : Hp} {Q : VK} {a : Int} {p : Addr} {x y z : Int} (h : SqL K H p [.int x, .int y, .int z]) (q : Q (.bl (decide (a = x ∨ a = y ∨ a = z))) H) : rIn K false (.int a) (.ref p) H Q :=
  ⟨p, _, rfl, .inl h, rfl, rfl, by rw [inV3]; exact q⟩
/-! ### words that are known -/
theorem if_seq {a b : Str} {A B : Prop} (h : a = b) (x : A) : if decide (a = b) = true then A else B := if_dec (fun _ => x) (fun hn => absurd h hn)
theorem if_sne {a b : Str} {A B : Prop} (h : ¬ a = b) (x : B) : if decide (a = b) = true then A else B := if_dec (fun he => absurd he h) (fun _ => x)
theorem if_nseq {a b : Str} {A B : Prop} (h : a = b) (x : B) : if (!decide (a = b)) = true then A else B := if_ndec (fun hn => absurd h hn) (fun _ => x)
theorem if_nsne {a b : Str} {A B : Prop} (h : ¬ a = b) (x : A) : if (!decide (a = b)) = true then A else B := if_ndec (fun _ => x) (fun he => absurd he h)
theorem or_split {t u : TT} {σ : L2.St} {H : Hp} {R : Bool → Hp → Prop} (p : Prop) (hT : p → R true H) (hF : ¬ p → R false H) (h : ∀ R' : Bool → Hp → Prop, (p → R' true H) → (¬ p → R' false H) → tOr t u σ H R') : tOr t u σ H R := h R hT hF
theorem and_split {t u : TT} {σ : L2.St} {H : Hp} {R : Bool → Hp → Prop} (p : Prop) (hT : p → R true H) (hF : ¬ p → R false H) (h : ∀ R' : Bool → Hp → Prop, (p → R' true H) → (¬ p → R' false H) → tAnd t u σ H R') : tAnd t u σ H R := h R hT hF
theorem dec_two {p : Prop} [Decidable p] {R : Bool → Prop} (a : p → R true) (b : ¬ p → R false) : R (decide p) := by
  by_cases h : p
  · rw [decide_eq_true h]; exact a h
  · rw [decide_eq_false h]; exact b h
theorem dec_twoN {p : Prop} [Decidable p] {R : Bool → Prop} (a : p → R false) (b : ¬ p → R true) : R (!decide p) := by
  by_cases h : p
  · rw [decide_eq_true h]; exact a h
  · rw [decide_eq_false h]; exact b h
section
variable {σ : L2.St} {H : Hp}
def PartV (x : V) (H : Hp) (Q : Option Int → Hp → Prop) : Prop := ∃ i, x = .int i ∧ Q (some i) H
theorem k_part {t : TE} {Q : Option Int → Hp → Prop} (h : t σ H fun x H1 => PartV x H1 Q) : tPart t σ H Q := h
theorem k_partV {i : Int} {Q : Option Int → Hp → Prop} (h : Q (some i) H) : PartV (.int i) H Q := ⟨i, rfl, h⟩
theorem k_nopart {Q : Option Int → Hp → Prop} (h : Q none H) : tNoPart σ H Q := h
end

/-! ### texts: their lengths -/
structure SL (n : Nat) (s : Str) : Prop where
  h : s.length ≤ n
theorem SL.app {a b : Nat} {s t : Str} (h : SL a s) (h' : SL b t) : SL (a + b) (s ++ t) := ⟨by rw [Str.length_append]; exact Nat.add_le_add h.h h'.h⟩
theorem SL.mono {a b : Nat} {s : Str} (h : SL a s) (hb : a ≤ b) : SL b s := ⟨Nat.le_trans h.h hb⟩
theorem SL.lit {s : Str} (h : s.length ≤ 30) : SL 30 s := ⟨h⟩
theorem len_num {i : Int} {k : Nat} (hk : 0 < k) (h : i.natAbs < 10 ^ k) : (Str.ofString (toString i)).length ≤ k + 1 := by
  cases i with
  | ofNat n =>
    have := toString_length_le (v := (n : Int)) (by omega) hk (by have h2 : n < 10 ^ k := h; exact_mod_cast h2)
    exact Nat.le_trans this (by omega)
  | negSucc n =>
    have e : toString (Int.negSucc n) = "-" ++ toString ((n + 1 : Nat) : Int) := rfl
    have h2 : n + 1 < 10 ^ k := by simpa [Int.natAbs] using h
    have := toString_length_le (v := ((n + 1 : Nat) : Int)) (by omega) hk (by exact_mod_cast h2)
    rw [e, PyProof.Rows.ofString_length, String.toList_append, List.length_append]
    rw [PyProof.Rows.ofString_length] at this
    have : ("-" : String).toList.length = 1 := rfl
    omega
theorem SL.num {i : Int} (h : Sm 400 i) : SL 122 (Str.ofString (toString i)) := by
  refine ⟨len_num (by decide) (Nat.lt_trans h.h (by decide))⟩
theorem num_log {i : Int} (h : Sm 400 i) : i.natAbs.log2 < 1920 := by
  by_cases z : i.natAbs = 0
  · rw [z]; decide
  · exact Nat.lt_trans ((Nat.log2_lt z).mpr h.h) (by decide)
section
variable {K : PySem.W.Frag} {σ : L2.St} {H : Hp} {Q : VK}
theorem k_adds {a b : Nat} {s t : Str} (h : SL a s) (h' : SL b t) (hb : a + b ≤ 10000000) (q : Q (.str (s ++ t)) H) : rAddA (.str s) (.str t) H Q :=
  .inr (.inl ⟨s, t, rfl, rfl, Nat.le_trans (Nat.add_le_add h.h h'.h) (Nat.le_trans hb (by rw [sizeLine_eq]; decide)), q⟩)
def rStrI : List V → Hp → VK → Prop := fun xs H Q => ∃ i, xs = [.int i] ∧ i.natAbs.log2 < 1920 ∧ Q (.str (toString i)) H
theorem cb_str {X : Cx} : CallR X (.type "str") rStrI := call_str_int
theorem k_str {i : Int} (h : Sm 400 i) (q : Q (.str (toString i)) H) : rStrI [.int i] H Q := ⟨i, rfl, num_log h, q⟩
end

section
open SX
/-! ### texts as lists of signs -/
theorem str_S (s : Str) : ∃ l, s = S l := ⟨s.cps.toList, (S_tl s).symm⟩
theorem cps_S (l : List Nat) : (S l).cps.toList = l := rfl
theorem cut_to (l : List Nat) (k : Nat) : cutS (S l) none (some (k : Int)) = S (l.take k) := by
  unfold cutS
  rw [S_len, HT.sIx_nat, HT.sIx_none, cps_S, List.drop_zero, Nat.sub_zero]
  by_cases h : k ≤ l.length
  · rw [Nat.min_eq_left h]
  · rw [Nat.min_eq_right (by omega), List.take_of_length_le (Nat.le_refl _), List.take_of_length_le (show l.length ≤ k by omega)]
theorem cut_from (l : List Nat) (k : Nat) : cutS (S l) (some (k : Int)) none = S (l.drop k) := by
  unfold cutS
  rw [S_len, HT.sIx_nat, HT.sIx_none, cps_S]
  by_cases h : k ≤ l.length
  · rw [Nat.min_eq_left h, List.take_of_length_le (by rw [List.length_drop]; exact Nat.le_refl _)]
  · rw [Nat.min_eq_right (by omega), List.drop_of_length_le (Nat.le_refl _), List.drop_of_length_le (show l.length ≤ k by omega), List.take_nil]
theorem cut_mid (l : List Nat) (a b : Nat) : cutS (S l) (some (a : Int)) (some (b : Int)) = S ((l.drop a).take (b - a)) := by
  unfold cutS
  rw [S_len, HT.sIx_nat, HT.sIx_nat, cps_S]
  by_cases h : a ≤ l.length
  · rw [Nat.min_eq_left h]
    by_cases h2 : b ≤ l.length
    · rw [Nat.min_eq_left h2]
    · rw [Nat.min_eq_right (by omega), List.take_of_length_le (by rw [List.length_drop]; exact Nat.le_refl _), List.take_of_length_le (show (l.drop a).length ≤ b - a by rw [List.length_drop]; omega)]
  · rw [Nat.min_eq_right (show l.length ≤ a by omega), List.drop_of_length_le (Nat.le_refl _), List.drop_of_length_le (show l.length ≤ a by omega), List.take_nil, List.take_nil]
section
variable {K : PySem.W.Frag} {σ : L2.St} {H H1 : Hp} {Q : VK} {D : Ends} {ta tb te : TE} {t : TA} {a : Int}
theorem line7 {n : Nat} (h : n ≤ 10000000) : n ≤ sizeLine := Nat.le_trans h (by rw [sizeLine_eq]; decide)
theorem k_ixS {l : List Nat} {i : Int} {c : Nat} (hl : l.length ≤ 10000000) (h : atI l i = some c) (q : Q (.str (S [c])) H) : rIx K (.str (S l)) (.int i) H Q :=
  .inr (.inr ⟨S l, i, c, rfl, rfl, by rw [S_len]; exact line7 hl, h, q⟩)
theorem k_lenS {z : Str} (hl : z.length ≤ 10000000) (q : Q (.int (z.length : Nat)) H) : rLen K [.str z] H Q := ⟨.str z, z.length, rfl, ⟨line7 hl, rfl⟩, q⟩
def SlS (x : V) (lo hi : Option Int) (H : Hp) (Q : VK) : Prop := rSlS x lo hi H Q
theorem k_slS {tl th : TO} (h : te σ H fun x H1 => tl σ H1 fun lo H2 => th σ H2 fun hi H3 => SlS x lo hi H3 Q) : L2.tSl rSlS te tl th σ H Q := h
theorem k_slSV {z : Str} {lo hi : Option Int} (hl : z.length ≤ 10000000) (q : Q (.str (cutS z lo hi)) H) : SlS (.str z) lo hi H Q := ⟨z, rfl, line7 hl, q⟩
/-- one sign in a text -/
def rSgn (neg : Bool) : R2 := fun x y H Q => ∃ (c : Nat) (z : Str), x = .str ⟨#[c]⟩ ∧ y = .str z ∧ Q (.bl (if neg then !decide (c ∈ z.cps.toList) else decide (c ∈ z.cps.toList))) H
theorem kb_sgn {X : Cx} : OpR X (compareOp .In) (rSgn false) := op_in_sign
theorem kb_nsgn {X : Cx} : OpR X (compareOp .NotIn) (rSgn true) := op_notIn_sign
theorem k_sgn {c : Nat} {z : Str} (q : Q (.bl (decide (c ∈ z.cps.toList))) H) : rSgn false (.str (S [c])) (.str z) H Q := ⟨c, z, rfl, rfl, q⟩
theorem k_nsgn {c : Nat} {z : Str} (q : Q (.bl (!decide (c ∈ z.cps.toList))) H) : rSgn true (.str (S [c])) (.str z) H Q := ⟨c, z, rfl, rfl, q⟩
/-! methods of texts -/
def TxM (r : V → List V → Hp → VK → Prop) (t : TE) (σ : L2.St) (x : V) (H1 : Hp) (Q : VK) : Prop := (∃ a, x = .str a) ∧ t σ H1 fun y H2 => r x [y] H2 Q
theorem k_m1 {r : V → List V → Hp → VK → Prop} (h : ta σ H fun x H1 => TxM r tb σ x H1 Q) : tM1 r ta tb σ H Q := h
theorem k_m1S {r : V → List V → Hp → VK → Prop} {z : Str} (h : tb σ H fun y H2 => r (.str z) [y] H2 Q) : TxM r tb σ (.str z) H Q := ⟨⟨z, rfl⟩, h⟩
def TxM0 (r : V → List V → Hp → VK → Prop) (x : V) (H1 : Hp) (Q : VK) : Prop := (∃ a, x = .str a) ∧ r x [] H1 Q
theorem k_m0 {r : V → List V → Hp → VK → Prop} (h : ta σ H fun x H1 => TxM0 r x H1 Q) : tM0 r ta σ H Q := h
theorem k_m0S {r : V → List V → Hp → VK → Prop} {z : Str} (h : r (.str z) [] H Q) : TxM0 r (.str z) H Q := ⟨⟨z, rfl⟩, h⟩
def rStarts : V → List V → Hp → VK → Prop := fun x xs H Q => ∃ a b, x = .str a ∧ xs = [.str b] ∧ Q (.bl (Txt.startswith a b)) H
theorem mt_starts {X : Cx} : MtR X "str.startswith" rStarts := mt_startswith
theorem k_starts {a b : Str} (q : Q (.bl (Txt.startswith a b)) H) : rStarts (.str a) [.str b] H Q := ⟨a, b, rfl, rfl, q⟩
def rIndexS : V → List V → Hp → VK → Prop := fun x xs H Q => ∃ a b i rest, x = .str a ∧ xs = [.str b] ∧ Builtin.Str.occurrences a b 0 a.length 1 = i :: rest ∧ Q (.int (i : Nat)) H
/-! a for over a text -/
def StrI (J : Str → It) (x : V) (H : Hp) (R : It → Hp → Prop) : Prop := ∃ z, x = .str z ∧ R (J z) H
theorem k_istr {R : It → Hp → Prop} (h : te σ H fun x H1 => StrI Its x H1 R) : iStr te σ H R := h
theorem k_istrV {z : Str} {R : It → Hp → Prop} (q : R (Its z) H) : StrI Its (.str z) H R := ⟨z, rfl, q⟩
/-- for c in l -/
theorem for_str {l : List Nat} {g : TG} {tb : TS} (Pv : Nat → L2.St → Hp → Prop) (h0 : Pv 0 σ H)
    (hs : ∀ i c σ H, l[i]? = some c → Pv i σ H → g (.str (S [c])) σ H fun σ2 H2 => tb { D with nx := Pv (i + 1), ct := Pv (i + 1), bk := D.nx } σ2 H2) (hd : ∀ σ H, Pv l.length σ H → D.nx σ H) : ForG (Its (S l)) g tb D σ H := by
  refine for_it (walk_str (z := S l)) Pv h0 (fun _ _ _ _ _ => trivial) (fun i x σ H H' hi hp hy => ?_) (fun σ H hp => hd σ H ?_)
  · obtain ⟨rfl, c, hc, rfl⟩ := hy
    exact hs i c σ H' (by simpa [S] using hc) hp
  · have e : (S l).cps.size = l.length := by simp [S]
    rw [e] at hp; exact hp
/-- [e for c in l] -/
theorem k_lcs {l : List Nat} {j : Nat} (L : List V) (hl : L.length = l.length) (hz : l.length ≤ 1000000)
    (hs : ∀ (i c : Nat) (v : V) (H2 : Hp) (R : VK), l[i]? = some c → L[i]? = some v → Same H1 H2 → (∀ H3, Same H2 H3 → R v H3) → te (σ.set j (some (.str (S [c])))) H2 R)
    (q : ∀ D H2, H1 D = none → Same H1 H2 → H2 D = some (.lst L) → Q (.ref D) H2) : LcG (Its (S l)) H1 (gName j) tYes te [j] σ Q := by
  intro D hD
  refine lc_it (walk_str (z := S l)) (fun i H' => Same H1 H' ∧ H' D = some (.lst (L.take i))) ⟨same_new hD, by rw [upd_same]; rfl⟩ (fun _ _ _ _ => trivial) (fun i x H H' hi hp hy => ?_) (fun H' hp => ?_)
  · obtain ⟨rfl, c, hc, rfl⟩ := hy
    obtain ⟨sm, hd⟩ := hp
    have hc' : l[i]? = some c := by simpa [S] using hc
    have hil := (List.getElem?_eq_some_iff.mp hc').1
    show wipe ((wipe σ [j]).set j _) [j] = wipe σ [j] ∧ _
    rw [wipe_set]
    refine ⟨wipe_set2, ?_⟩
    refine hs i c (L[i]'(by omega)) H' _ hc' (List.getElem?_eq_getElem (by omega)) sm fun H3 s3 => ?_
    refine ⟨L.take i, s3 _ _ hd, Nat.lt_of_le_of_lt (Nat.le_trans (by rw [List.length_take]; exact Nat.min_le_left _ _) (show i ≤ 1000000 by omega)) (by rw [sizeLine_eq]; decide), same_mut (sm.trans s3) hD, ?_⟩
    rw [upd_same, List.take_add_one, List.getElem?_eq_getElem (show i < L.length by omega)]
    rfl
  · obtain ⟨sm, hd⟩ := hp
    have e : (S l).cps.size = l.length := by simp [S]
    rw [e] at hd
    exact q D H' hD sm (by rw [hd, List.take_of_length_le (by omega)])
/-! text * number -/
def rMulS : R2 := fun x y H Q => ∃ (z : Str) (n : Int), x = .str z ∧ y = .int n ∧ MulOk z n ∧ Q (.str (Txt.mul z n)) H
theorem op_mulS {X : Cx} : OpR X (binaryOp .Mult) rMulS := by
  intro pins s σ H x y v u Q I rx ry h
  obtain ⟨z, n, rfl, rfl, ok, q⟩ := h
  obtain ⟨t, rfl⟩ := rx
  obtain ⟨t', rfl⟩ := ry
  exact SB.mul ok fun t' k => ⟨.str _, H, I.tok _, ⟨_, rfl⟩, q⟩
theorem k_isi_ss {z : Str} (q : Q (.bl true) H) : rIsi K [.str z, .ty "str"] H Q := ⟨.str z, .ty "str", .type "str", .type "str", true, rfl, .ty _, .base (.str _), kit_ty (by decide +kernel), q⟩
theorem k_isi_is (q : Q (.bl false) H) : rIsi K [.int a, .ty "str"] H Q := ⟨.int a, .ty "str", .type "int", .type "str", false, rfl, .ty _, .base (.int _), kit_ty (by decide +kernel), q⟩
theorem k_isi_ns (q : Q (.bl false) H) : rIsi K [.non, .ty "str"] H Q := ⟨.non, .ty "str", .type "NoneType", .type "str", false, rfl, .ty _, .base .non, kit_ty (by decide +kernel), q⟩
theorem k_isi_ni (q : Q (.bl false) H) : rIsi K [.non, .ty "int"] H Q := ⟨.non, .ty "int", .type "NoneType", .type "int", false, rfl, .ty _, .base .non, kit_ty (by decide +kernel), q⟩
theorem k_isi_ls {p : Addr} {xs : List V} (h : H p = some (.lst xs)) (q : Q (.bl false) H) : rIsi K [.ref p, .ty "str"] H Q := ⟨.ref p, .ty "str", .type "list", .type "str", false, rfl, .ty _, .base (.lst h), kit_ty (by decide +kernel), q⟩
theorem tyx_tS {p : Addr} {xs : List V} (h : SqT K H p xs) : TyX K H (.ref p) (.type "tuple") := by
  rcases h with (h | ⟨o, h⟩) | ⟨o, its, n, l, c, _⟩
  · exact .base (.tup h)
  · exact .fTuple h
  · exact .kTuple l c
theorem k_isi_ts {p : Addr} {xs : List V} (h : SqT K H p xs) (q : Q (.bl false) H) : rIsi K [.ref p, .ty "str"] H Q := ⟨.ref p, .ty "str", .type "tuple", .type "str", false, rfl, .ty _, tyx_tS h, kit_ty (by decide +kernel), q⟩
/-- what is no text -/
def NoStr (K : PySem.W.Frag) (H : Hp) (v : V) : Prop := v = .non ∨ (∃ i, v = .int i) ∨ (∃ p xs, v = .ref p ∧ SqT K H p xs) ∨ ∃ p xs, v = .ref p ∧ H p = some (.lst xs)
theorem NoStr.same {H H' : Hp} {v : V} (h : NoStr K H v) (s : Same H H') : NoStr K H' v := by
  rcases h with h | h | ⟨p, xs, h, g⟩ | ⟨p, xs, h, g⟩
  · exact .inl h
  · exact .inr (.inl h)
  · exact .inr (.inr (.inl ⟨p, xs, h, same_t s g⟩))
  · exact .inr (.inr (.inr ⟨p, xs, h, s _ _ g⟩))
theorem k_isi_noS {v : V} (h : NoStr K H v) (q : Q (.bl false) H) : rIsi K [v, .ty "str"] H Q := by
  rcases h with rfl | ⟨i, rfl⟩ | ⟨p, xs, rfl, g⟩ | ⟨p, xs, rfl, g⟩
  · exact k_isi_ns q
  · exact k_isi_is q
  · exact k_isi_ts g q
  · exact k_isi_ls g q
/-! int(text) -/
def rIntT : List V → Hp → VK → Prop := fun xs H Q => ∃ a n, xs = [.str a] ∧ PySem.intText? a = some n ∧ a.length ≤ 640 ∧ Q (.int n) H
theorem cb_intT {X : Cx} : CallR X (.type "int") rIntT := call_int_str
theorem k_intT {z : Str} {n : Int} (h : PySem.intText? z = some n) (hl : z.length ≤ 640) (q : Q (.int n) H) : rIntT [.str z] H Q := ⟨z, n, rfl, h, hl, q⟩
end
/-! ### numbers written -/
def dig (c : Nat) : Bool := decide (48 ≤ c) && decide (c ≤ 57)
theorem dig_iff {c : Nat} : dig c = true ↔ 48 ≤ c ∧ c ≤ 57 := by unfold dig; rw [Bool.and_eq_true, decide_eq_true_eq, decide_eq_true_eq]
def valF (l : List Nat) : Nat := NumText.digitsVal l
def figs (l : List Nat) : Bool := decide (1 ≤ l.length) && decide (l.length ≤ 60) && l.all dig
/-- the signs behind a minus -/
def unS (l : List Nat) : List Nat := if l.head? = some 45 then l.tail else l
def goodN (l : List Nat) : Bool := figs (unS l) && !(decide ((unS l).head? = some 48) && !decide (l = [48]))
def numN (l : List Nat) : Int := if l.head? = some 45 then -(valF (unS l) : Int) else (valF (unS l) : Int)
theorem figs_all {l : List Nat} (h : figs l = true) : 1 ≤ l.length ∧ l.length ≤ 60 ∧ NumText.AllDigits l := by
  unfold figs at h
  rw [Bool.and_eq_true, Bool.and_eq_true, decide_eq_true_eq, decide_eq_true_eq, List.all_eq_true] at h
  exact ⟨h.1.1, h.1.2, fun c hc => dig_iff.mp (h.2 c hc)⟩
theorem unS_cases (l : List Nat) : (l.head? = some 45 ∧ l = 45 :: unS l) ∨ (l.head? ≠ some 45 ∧ unS l = l) := by
  unfold unS
  cases l with
  | nil => exact .inr ⟨by simp, by simp⟩
  | cons c r =>
    by_cases h : c = 45
    · subst h; exact .inl ⟨rfl, by simp⟩
    · have e : (c :: r).head? ≠ some 45 := by simpa using h
      exact .inr ⟨e, by rw [if_neg e]⟩
theorem int_good {l : List Nat} (h : figs (unS l) = true) : PySem.intText? (S l) = some (numN l) ∧ (S l).length ≤ 640 := by
  obtain ⟨h1, h2, h3⟩ := figs_all h
  have hne : unS l ≠ [] := fun e => by rw [e] at h1; simp at h1
  unfold numN
  rcases unS_cases l with ⟨e1, e2⟩ | ⟨e1, e2⟩
  · have hl : l.length ≤ 61 := by rw [e2, List.length_cons]; omega
    rw [if_pos e1]
    exact ⟨intText_neg (x := S l) e2 h3 hne (by rw [S_len]; omega), by rw [S_len]; omega⟩
  · rw [e2] at h2 h3 hne ⊢
    rw [if_neg e1]
    exact ⟨intText_digits (x := S l) h3 hne (by rw [S_len]; omega), by rw [S_len]; omega⟩
theorem head_of {l : List Nat} {c : Nat} (h : 1 ≤ l.length) : atI l 0 = some (l.headD c) := by
  cases l with
  | nil => simp at h
  | cons x r =>
    unfold atI ixN
    rw [if_pos (by decide), if_pos (by rw [List.length_cons]; omega)]
    rfl
theorem valF_snoc (l : List Nat) (c : Nat) : valF (l ++ [c]) = valF l * 10 + (c - 48) := by
  unfold valF NumText.digitsVal; rw [List.foldl_append]; rfl
theorem fig_mem (c : Nat) : decide (c ∈ ("0123456789" : Str).cps.toList) = dig c := by
  have e : ("0123456789" : Str).cps.toList = [48, 49, 50, 51, 52, 53, 54, 55, 56, 57] := by decide +kernel
  rw [e]
  by_cases h : dig c = true
  · have := dig_iff.mp h
    rw [h]
    refine decide_eq_true ?_
    have : c = 48 ∨ c = 49 ∨ c = 50 ∨ c = 51 ∨ c = 52 ∨ c = 53 ∨ c = 54 ∨ c = 55 ∨ c = 56 ∨ c = 57 := by omega
    simpa using this
  · rw [show dig c = false by simpa using h]
    refine decide_eq_false fun hm => h (dig_iff.mpr ?_)
    simp only [List.mem_cons, List.not_mem_nil, or_false] at hm
    omega
theorem lit_0 : ("0" : Str) = S [48] := by decide +kernel
theorem dec_S {a b : List Nat} : decide (S a = S b) = decide (a = b) := by
  by_cases h : a = b
  · subst h; simp
  · rw [decide_eq_false h, decide_eq_false (fun e => h (S_inj e))]
theorem lit_minus : ("-" : Str) = S [45] := by decide +kernel
theorem starts_minus (l : List Nat) : Txt.startswith (S l) ("-" : Str) = decide (l.head? = some 45) := by
  have h := PySem.StrLaws.subAt_one (S l) 45 0
  rw [lit_minus]
  unfold Txt.startswith
  refine b_dec ?_
  rw [Bool.and_eq_true, decide_eq_true_eq, List.head?_eq_getElem?]
  exact h
theorem index_fig {c : Nat} (h : dig c = true) : Builtin.Str.occurrences ("0123456789" : Str) (S [c]) 0 ("0123456789" : Str).length 1 = (c - 48) :: [] := by
  have := dig_iff.mp h
  have hc : c = 48 ∨ c = 49 ∨ c = 50 ∨ c = 51 ∨ c = 52 ∨ c = 53 ∨ c = 54 ∨ c = 55 ∨ c = 56 ∨ c = 57 := by omega
  rcases hc with rfl | rfl | rfl | rfl | rfl | rfl | rfl | rfl | rfl | rfl <;> decide +kernel
theorem mt_sidx {X : Cx} : MtR X "str.index" rIndexS := mt_sindex
theorem k_sidx {H : Hp} {Q : VK} {a b : Str} {i : Nat} {r : List Nat} (h : Builtin.Str.occurrences a b 0 a.length 1 = i :: r) (q : Q (.int (i : Nat)) H) : rIndexS (.str a) [.str b] H Q := ⟨a, b, i, r, rfl, rfl, h, q⟩
theorem atI_any {P : V → Prop} {l : List V} {i : Int} (h0 : 0 ≤ i) (h1 : i < l.length) (hP : ∀ z ∈ l, P z) : ∃ z, P z ∧ atI l i = some z := by
  obtain ⟨k, rfl⟩ := Int.eq_ofNat_of_zero_le h0
  have hk : k < l.length := by omega
  exact ⟨l[k], hP _ (List.getElem_mem hk), at_of rfl (List.getElem?_eq_getElem hk)⟩
theorem atI_nats {l : List Nat} {i : Int} (h0 : 0 ≤ i) (h1 : i < l.length) : ∃ c, c ∈ l ∧ atI l i = some c := by
  obtain ⟨k, rfl⟩ := Int.eq_ofNat_of_zero_le h0
  have hk : k < l.length := by omega
  refine ⟨l[k], List.getElem_mem hk, ?_⟩
  unfold atI ixN
  rw [if_pos (by omega), if_pos (by omega), Int.toNat_natCast]
  exact List.getElem?_eq_getElem hk
def str30 : V → Bool
  | .str s => decide (s.length ≤ 30)
  | _ => false
theorem atI_str {l : List V} {i : Int} (h : l.all str30 = true) (h0 : 0 ≤ i) (h1 : i < l.length) : ∃ s, SL 30 s ∧ atI l i = some (.str s) := by
  obtain ⟨z, hz, e⟩ := atI_any (P := fun v => str30 v = true) h0 h1 (List.all_eq_true.mp h)
  cases z <;> first | (simp [str30] at hz; done) | skip
  rename_i s
  exact ⟨s, ⟨of_decide_eq_true hz⟩, e⟩
theorem SL.cut {n : Nat} {z : Str} {lo hi : Option Int} (h : SL n z) : SL n (cutS z lo hi) := ⟨Nat.le_trans (cutS_length z lo hi) h.h⟩
theorem SL.one {c : Nat} : SL 1 (S [c]) := ⟨by rw [S_len]; exact Nat.le_refl _⟩
theorem num_pos (i : Int) : 1 ≤ (Str.ofString (toString i)).length := by
  have key : ∀ n : Nat, 1 ≤ (Str.ofString (toString (n : Int))).length := fun n => by
    have e := TL.tl_num n
    have h := TL.numL_ne n
    have hl := TL.len_tl (Str.ofString (toString (n : Int)))
    rw [e] at hl
    cases h2 : TL.numL n with
    | nil => exact absurd h2 h
    | cons c r => rw [hl, h2]; simp
  cases i with
  | ofNat n => exact key n
  | negSucc n =>
    have e : toString (Int.negSucc n) = "-" ++ toString ((n + 1 : Nat) : Int) := rfl
    rw [e, PyProof.Rows.ofString_length, String.toList_append, List.length_append]
    have : ("-" : String).toList.length = 1 := rfl
    omega
theorem k_mulS {H : Hp} {Q : VK} {n : Int} (h0 : 1 ≤ n) (h1 : n ≤ 3) (q : ∀ s, SL 30 s → Q (.str s) H) : rMulS (.str "0") (.int n) H Q := by
  have hn : n = 1 ∨ n = 2 ∨ n = 3 := by omega
  rcases hn with rfl | rfl | rfl
  · exact ⟨"0", 1, rfl, rfl, ⟨by decide +kernel, fun _ _ => by decide +kernel, fun _ _ => by decide +kernel⟩, q _ ⟨by decide +kernel⟩⟩
  · exact ⟨"0", 2, rfl, rfl, ⟨by decide +kernel, fun _ _ => by decide +kernel, fun _ _ => by decide +kernel⟩, q _ ⟨by decide +kernel⟩⟩
  · exact ⟨"0", 3, rfl, rfl, ⟨by decide +kernel, fun _ _ => by decide +kernel, fun _ _ => by decide +kernel⟩, q _ ⟨by decide +kernel⟩⟩
theorem valF_lt {l : List Nat} (h : l.all dig = true) : valF l < 10 ^ l.length := by
  have key : ∀ (l : List Nat) (n : Nat), l.all dig = true → l.foldl (fun acc c => acc * 10 + (c - 48)) n < (n + 1) * 10 ^ l.length := by
    intro l
    induction l with
    | nil => intro n _; simp
    | cons c r ih =>
      intro n h
      rw [List.all_cons, Bool.and_eq_true] at h
      have h2 := dig_iff.mp h.1
      rw [List.foldl_cons, List.length_cons, Nat.pow_succ]
      have h3 := ih (n * 10 + (c - 48)) h.2
      have h4 : (n * 10 + (c - 48) + 1) * 10 ^ r.length ≤ ((n + 1) * 10) * 10 ^ r.length := Nat.mul_le_mul_right _ (by omega)
      have h5 : (n + 1) * (10 ^ r.length * 10) = ((n + 1) * 10) * 10 ^ r.length := by rw [Nat.mul_comm (10 ^ r.length) 10, Nat.mul_assoc]
      omega
  have := key l 0 h
  rw [Nat.zero_add, Nat.one_mul] at this
  exact this
theorem sm_valF {l : List Nat} (h : l.all dig = true) (hl : l.length ≤ 60) : Sm 200 (valF l : Int) := by
  have h1 := valF_lt h
  have h2 : (10 : Nat) ^ l.length ≤ 10 ^ 60 := Nat.pow_le_pow_right (by decide) hl
  exact sm41 (by omega) (by
    have e : (10 : Nat) ^ 60 = 1000000000000000000000000000000000000000000000000000000000000 := by decide +kernel
    omega)

end

/-! ### a caught exception, handed on to a def -/
/-! a def called in the suite that caught p: p's object is pinned while it runs -/
structure FnP (P : Program) (w : World) (K : PySem.W.Frag) (mg : Str → Option Value) (base : Heap) (CX : CXT) (k : Nat) (f : Addr) (fd : FuncData) (ps : List Str) (sp : Addr × Obj → Sp) : Prop where
  len : ∀ p vs H Q E, sp p vs H Q E → vs.length = ps.length
  run : ∀ (A : Around) (outer : List Env) (s : Shared) (H : Hp) (args : Args) (us : List Value) (vs : List V) (Q : VK) (E : XK) (p : Addr × Obj), L2H.RoomH k A → L2H.PinOk outer H s p → Env0 P w K mg base A outer s H → BindsTo s fd args (ps.zip us) → Vals vs us → sp p vs H Q E →
    codeAny (model P w) A (.call (.ref f) args) (CR CX outer P w H s Q E) s
theorem fn_ofP {CX : CXT} {P : Program} {w : World} {K : PySem.W.Frag} {mg : Str → Option Value} {base : Heap} {k : Nat} {f : Addr} {name qual : Str} {params : Arguments} {body : List Stmt} {scope : Scope} {dV kV doc pm cdv ct oc : Value} {an od : Option Addr}
    {osl : Array (Option Value)} {N ps : List Str} {sp : Addr × Obj → Sp} (lk : K.lookup f = some ⟨oc, od, .func (PySem.W.fnOf name qual params body scope dV kV doc pm an cdv ct), osl⟩) (hcd : PySem.W.codeIn K cdv qual = true) (S : FnScope N ps scope)
    (len : ∀ p vs H Q E, sp p vs H Q E → vs.length = ps.length)
    (hbody : ∀ (A : Around) (outer : List Env) (s : Shared) (H : Hp) (vs : List V) (Q : VK) (E : XK) (p : Addr × Obj), L2H.RoomH k (A.deeper (envOfC qual scope s.heap.objs.size f cdv)) → sp p vs H Q E →
      ∃ t, PSs (L2H.cxH CX P w K mg base N qual scope f cdv A outer s H E p) body t ∧ t { nx := fun _ H' => Q .non H', rt := Q } (L2.start N vs) H) :
    FnP P w K mg base CX (k + 1) f (PySem.W.fnOf name qual params body scope dV kV doc pm an cdv ct) ps sp := by
  refine ⟨len, fun A outer s H args us vs Q E p hr hpin e0 hb r hsp => ?_⟩
  have hl := len _ _ _ _ _ hsp
  have KX : K.In s.heap := e0.mod.kin.keeps fun b o e => (e0.bs b o e).1
  have lim : s.heap.NoLimit := e0.mod.nolimit.keeps fun b o e => (e0.bs b o e).1
  have hkind : ∀ y ∈ ps.zip us, scope.names.lookup y.1 = some .local ∨ (scope.names.lookup y.1 = some .cell ∧ ((cellsFrom (s.heap.objs.size + 1) scope.names []).lookup y.1).isSome = true) := fun ⟨n, v⟩ hy => by
    rcases S.par n (List.of_mem_zip hy).1 with q | q
    · exact .inl q
    · exact .inr ⟨q, PySem.W.cellsFrom_some _ _ _ (.inl q)⟩
  refine codeAny_call_function hr.depth (KX _ _ lk) rfl S.co S.gen rfl (PySem.W.codeRec_of KX hcd) (hb _ _ _ _ ?_)
  refine wpAny_newFunctionEnv_cells S.kind hkind fun env he s1 x => ?_
  subst he
  refine ⟨lim.keeps x.toInCall.keep, codeAny_func ?_⟩
  obtain ⟨t, ht, hq⟩ := hbody A outer s H vs Q E p (hr.deeper _) hsp
  have I : Inv (L2H.cxH CX P w K mg base N qual scope f cdv A outer s H E p) [] (L2.start N vs) H s1 := L2H.inv_startH S hpin e0 hl r x
  refine wpAny_mono (ht.run [] s1 (L2.start N vs) H _ I hq) (fun fl s' hs => ?_) fun e s' hs => hs
  have fin : ∀ {σ' : L2.St} {H' : Hp} {v : V} {u : Value}, Inv (L2H.cxH CX P w K mg base N qual scope f cdv A outer s H E p) [] σ' H' s' → RelV v u → Q v H' → CE outer P w H s Q u s' :=
    fun {σ' H' v u} J rv q => ⟨v, H', J.os, J.bare, J.base, J.hok, rv, q⟩
  cases fl with
  | ret u =>
    obtain ⟨v, σ', H', J, rv, q⟩ := hs
    exact fin J rv q
  | next =>
    obtain ⟨σ', H', J, q⟩ := hs
    exact fin (v := V.non) (u := Value.none) J rfl q
  | brk =>
    obtain ⟨_, _, _, q⟩ := hs
    exact False.elim q
  | cont =>
    obtain ⟨_, _, _, q⟩ := hs
    exact False.elim q
theorem Fun.okP {P : Program} {w : World} {K : PySem.W.Frag} {mg : Str → Option Value} {base : Heap} {x qual : Str} {st : Stmt} {f : Addr} {fd : FuncData} {N ps : List Str} {k : Nat} {sp : Addr × Obj → Sp} (F : Fun K x qual st f fd) (S : FnScope N ps (defScope st)) (len : ∀ p vs H Q E, sp p vs H Q E → vs.length = ps.length)
    (hbody : ∀ (cdv : Value) (A : Around) (outer : List Env) (s : Shared) (H : Hp) (vs : List V) (Q : VK) (E : XK) (p : Addr × Obj), L2H.RoomH k (A.deeper (envOfC qual (defScope st) s.heap.objs.size f cdv)) → sp p vs H Q E →
      ∃ t, PSs (L2H.cxH CX0 P w K mg base N qual (defScope st) f cdv A outer s H E p) (defBody st) t ∧ t { nx := fun _ H' => Q .non H', rt := Q } (L2.start N vs) H) : FnP P w K mg base CX0 (k + 1) f fd ps sp := by
  obtain ⟨oc, od, kV, doc, pm, an, cdv, ct, osl, rfl, lk, hcd⟩ := F.ex
  exact fn_ofP lk hcd S len fun A outer s H vs Q E p hr hsp => hbody cdv A outer s H vs Q E p hr hsp
section
variable {X : Cx} {CX : CXT} {k : Nat} {f a : Addr} {fd : FuncData} {ps : List Str} {sp : Addr × Obj → Sp} {x : Str} {p pos : Pos} {e : Expr} {es : List Expr} {t : TA} {oe : Obj} {pn : List (Addr × Obj)}
/-- f(.., err, ..) in an except suite: the exception is pinned while the callee runs -/
def tCallV (a : Addr) (cls : Value) (d : Option Addr) (sp : Addr × Obj → Sp) (t : TA) : TE := fun σ H Q => t σ H fun vs H1 =>
  ∀ oe : Obj, Zc cls d oe → (∃ u, oe.data = .fields u) → sp (a, oe) vs H1 Q (fun _ _ _ => False)
theorem pe_callV {cls : Value} {d : Option Addr} (hz : Zc cls d oe) (hf : ∃ u, oe.data = .fields u) (F : FnP X.prog X.w X.K X.mg X.base CX k f fd ps sp) (hr : Room k X.A) (hg : Gl X x) (hm : X.mg x = some (.ref f)) (hk : PySem.W.keepIn X.K (.ref f) = true) (hb : Binds X.K fd ps [])
    (hx : ∀ (l : List Env) (H : Hp) (s : Shared) (e : Value) (s' : Shared), ¬ CX l H s (fun _ _ _ => False) e s')
    (ha : PA (X.suite a ((a, oe) :: pn)) (e :: es) t) (hdb : (x == ("__debug__" : Str)) = false := by decide) (he : starEach (e :: es) X.env = (false, eval e X.env) :: starEach es X.env := by rfl) (hpl : (backTo pos (starEach es X.env)).any (·.1) = false := by rfl) :
    PE (X.suite a ((a, oe) :: pn)) (.Call (.Name x p) (e :: es) [] pos) (tCallV a cls d sp t) := by
  refine ⟨fun pins s σ H Q I h => ?_⟩
  refine wpAny_Call_Name_kw (ld_glob I hg hm ?_ hdb)
  refine PySem.W.callWith_K (h₀ := X.base) I.ok.mod.kin hk (thn (ha.run pos pins s σ H _ I h) fun us s1 ⟨vs, H1, I1, r, q⟩ => ⟨I1.kIn, ?_⟩) he hpl
  have q := q oe hz hf
  have P1 := I1.pin (a, oe) (List.mem_append_left _ List.mem_cons_self)
  have hpin : L2H.PinOk X.stack H1 s1 (a, oe) := ⟨P1.1, P1.2.1, fun hm => (List.mem_cons.mp (I1.stkSub a hm)).elim P1.2.2.1 P1.2.2.2.1, P1.2.2.2.2⟩
  have hl : us.length = ps.length := by rw [← r.length]; exact F.len _ _ _ _ _ q
  have b := hb s1 us I1.kIn (by rw [List.append_nil]; exact hl)
  rw [List.append_nil] at b
  refine wpAny_call (codeAny_mono (F.run _ X.stack s1 H1 ⟨us, []⟩ us vs Q (fun _ _ _ => False) (a, oe) ⟨hr.dp, hr.un⟩ hpin I1.env0 b r q) fun r s' hq => ?_)
  cases r with
  | error e => exact absurd hq (hx _ _ _ _ _)
  | ok fl =>
    cases fl with
    | ret u => exact I1.after hq
    | next => exact False.elim hq
    | brk => exact False.elim hq
    | cont => exact False.elim hq
/-- where the dict of the exception stands -/
def DOk (H : Hp) (d : Option Addr) : Prop := d = none ∨ ∃ (dd : Addr) (fs : List (Str × V)), d = some dd ∧ H dd = some (.xd fs)
theorem inst_exc {X : Cx} {pins : List (Addr × Obj)} {σ : L2.St} {H : Hp} {s : Shared} {a D : Addr} {d : Option Addr} {oe : Obj} (I : Inv X pins σ H s) (hget : s.heap.get? a = some oe) (hz : Zc (.ref D) d oe) (hf : ∃ vs, oe.data = .fields vs) (hd : DOk H d) :
    ∃ od, PySem.W.InstAt s.heap a oe D od := by
  obtain ⟨vs, hv⟩ := hf
  have hno : PySem.W.notCls oe = true := by unfold PySem.W.notCls; rw [hv] <;> rfl
  rcases hd with rfl | ⟨dd, fs, rfl, ea⟩
  · exact ⟨none, hget, hz.1, hno, by rw [hz.2]; exact trivial⟩
  · have hx : ObjOk X.prog X.w H s.heap dd (.xd fs) := I.hok dd _ ea
    obtain ⟨mA, hns, _⟩ := hx
    obtain ⟨od, ho, _⟩ := lookIn_ns hns
    exact ⟨some od, hget, hz.1, hno, by rw [hz.2]; exact ho⟩
theorem isinst_exc {X : Cx} {pins : List (Addr × Obj)} {σ : L2.St} {H : Hp} {s : Shared} {a D : Addr} {d : Option Addr} {oe : Obj} {cv : Value} {b : Bool} {Q : VK} (I : Inv X pins σ H s) (hget : s.heap.get? a = some oe) (hz : Zc (.ref D) d oe) (hf : ∃ vs, oe.data = .fields vs) (hd : DOk H d) (C : ExcC X.K D)
    (e : PySem.W.kitOne X.K (.ref D) cv = some b) (q : Q (.bl b) H) : wpAny (model X.prog X.w) X.A (call (.builtin "isinstance") [.ref a, cv]) (EP X pins σ Q) X.xe s := by
  obtain ⟨od, J⟩ := inst_exc I hget hz hf hd
  refine PySem.W.kia_one (PySem.W.kitx_exc ?_ C.hg C.hk C.hs C.ha C.hn C.ht C.hm) I.kIn J e (fun z => nomatch z) fun tk => ⟨.bl b, H, I.kept (t' := tk) fun _ _ z => z, rfl, q⟩
  obtain ⟨cd, hc, _⟩ := PySem.W.any_some C.hd
  rw [hc]; rfl
/-- isinstance(e, c), e the caught exception p, in a def that was called in its suite -/
def rIsV (K : PySem.W.Frag) (p : Addr × Obj) : List V → Hp → VK → Prop := fun xs H Q => ∃ (D : Addr) (d : Option Addr) (c : V) (cv : Value) (b : Bool), xs = [.ref p.1, c] ∧ ExcC K D ∧ Zc (.ref D) d p.2 ∧ DOk H d ∧ (∃ vs, p.2.data = .fields vs) ∧ (∀ u, RelV c u → u = cv) ∧ PySem.W.kitOne K (.ref D) cv = some b ∧ Q (.bl b) H
theorem call_isV {X : Cx} {p : Addr × Obj} (hp : X.pn = [p]) : CallR X (.builtin "isinstance") (rIsV X.K p) := by
  intro pins s σ H xs us Q I r h
  obtain ⟨D, d, c, cv, b, rfl, C, hz, hd, hf, hcv, e, q⟩ := h
  cases r with
  | cons rx rr =>
    cases rr with
    | cons rt rr =>
      cases rr
      cases rx
      have ec := hcv _ rt
      subst ec
      exact isinst_exc I (I.pin p (List.mem_append_left _ (by rw [hp]; exact List.mem_cons_self))).1 hz hf hd C e q
/-- isinstance(e, c) in the suite that caught e -/
def rIsC (K : PySem.W.Frag) (a : Addr) (cls : Value) (d : Option Addr) : List V → Hp → VK → Prop := fun xs H Q => ∃ (D : Addr) (c : V) (cv : Value) (b : Bool), cls = .ref D ∧ xs = [.ref a, c] ∧ ExcC K D ∧ DOk H d ∧ (∀ u, RelV c u → u = cv) ∧ PySem.W.kitOne K (.ref D) cv = some b ∧ Q (.bl b) H
theorem call_isC {X : Cx} {a : Addr} {oe : Obj} {pn : List (Addr × Obj)} {cls : Value} {d : Option Addr} (hz : Zc cls d oe) (hf : ∃ vs, oe.data = .fields vs) : CallR (X.suite a ((a, oe) :: pn)) (.builtin "isinstance") (rIsC X.K a cls d) := by
  intro pins s σ H xs us Q I r h
  obtain ⟨D, c, cv, b, rfl, rfl, C, hd, hcv, e, q⟩ := h
  cases r with
  | cons rx rr =>
    cases rr with
    | cons rt rr =>
      cases rr
      cases rx
      have ec := hcv _ rt
      subst ec
      obtain ⟨hget, _⟩ := I.pin (a, oe) (List.mem_append.mpr (.inl List.mem_cons_self))
      exact isinst_exc I hget hz hf hd C e q
end
/-- an error of the class at D, asked of the class at C: an except clause, isinstance -/
theorem exm_of {K : PySem.W.Frag} {D C : Addr} {b : Bool} (h1 : PySem.W.subIn K (.ref C) (.type "BaseException") = some true) (h2 : PySem.W.isClsIn K C = true) (h3 : PySem.W.typeIn K (.ref C) = some (.type "type")) (h4 : PySem.W.subIn K (.ref D) (.ref C) = some b) :
    PySem.W.exmOne K (.ref D) (.ref C) = some b := by
  have e1 : (PySem.W.subIn K (.ref C) (.type "BaseException") == some true) = true := by rw [h1] <;> rfl
  have e2 : ((PySem.W.clsIn K C).isSome && PySem.W.typeIn K (.ref C) == some (.type "type")) = true := by
    have h2' : (PySem.W.clsIn K C).isSome = true := h2
    rw [h2', h3] <;> rfl
  show (if (PySem.W.subIn K (.ref C) (.type "BaseException") == some true) = true then (if ((PySem.W.clsIn K C).isSome && PySem.W.typeIn K (.ref C) == some (.type "type")) = true then PySem.W.subIn K (.ref D) (.ref C) else none) else none) = some b
  rw [if_pos e1, if_pos e2]
  exact h4
theorem kit_of {K : PySem.W.Frag} {D C : Addr} {b : Bool} (h2 : PySem.W.isClsIn K C = true) (h3 : PySem.W.typeIn K (.ref C) = some (.type "type")) (hs : PySem.W.subIn K (.ref C) (.ref C) = some true) (h4 : PySem.W.subIn K (.ref D) (.ref C) = some b) :
    PySem.W.kitOne K (.ref D) (.ref C) = some b := by
  unfold PySem.W.kitOne
  by_cases e : D = C
  · subst e
    rw [hs] at h4
    rw [if_pos (by simp)]
    exact h4
  · rw [if_neg (by simpa using e)]
    have e2 : ((PySem.W.clsIn K C).isSome && PySem.W.typeIn K (.ref C) == some (.type "type")) = true := by
      have h2' : (PySem.W.clsIn K C).isSome = true := h2
      rw [h2', h3] <;> rfl
    show (if ((PySem.W.clsIn K C).isSome && PySem.W.typeIn K (.ref C) == some (.type "type")) = true then PySem.W.subIn K (.ref D) (.ref C) else none) = some b
    rw [if_pos e2]
    exact h4
theorem kit_ve {K : PySem.W.Frag} {D : Addr} {b : Bool} (h : PySem.W.subIn K (.ref D) (.type "ValueError") = some b) : PySem.W.kitOne K (.ref D) (.type "ValueError") = some b := by
  unfold PySem.W.kitOne
  rw [if_neg (by simp)]
  show (if PySem.W.kitMeta "ValueError" = true then PySem.W.subIn K (.ref D) (.type "ValueError") else none) = some b
  rw [if_pos (by decide +kernel)]
  exact h

/-! ### several except clauses, each with a name -/
def wAsM (K : PySem.W.Frag) (Wout : WX) (D : Ends) : List (Value × Nat × (Addr → Value → Option Addr → TS)) → WX
  | [] => Wout
  | (c, i, ts) :: r => fun cls d σ H => ∃ b, PySem.W.exmOne K cls c = some b ∧ (b = true → ∀ a, H a = none → ts a cls d { nx := fun σ' H' => D.nx (σ'.set i none) H', rt := D.rt, bk := fun σ' H' => D.bk (σ'.set i none) H', ct := fun σ' H' => D.ct (σ'.set i none) H' } (σ.set i (some (.ref a))) H) ∧
      (b = false → wAsM K Wout D r cls d σ H)
inductive HasOk (X : Cx) : List ExceptHandler → List (Value × Nat × (Addr → Value → Option Addr → TS)) → Prop
  | nil : HasOk X [] []
  | cons {x n : Str} {c : Value} {i : Nat} {ts : Addr → Value → Option Addr → TS} {b₀ : Stmt} {suite : List Stmt} {np pos' : Pos} {hds : List ExceptHandler} {l : List (Value × Nat × (Addr → Value → Option Addr → TS))}
      (hN : X.N.Nodup) (hi : X.N[i]? = some n) (hln : X.env.kindOf n = some .local) (hc : Names X x c)
      (hsu : ∀ (a : Addr) (oe : Obj) (cls : Value) (d : Option Addr) (pn : List (Addr × Obj)), Zc cls d oe → (∃ vs, oe.data = .fields vs) → PSs (X.suite a ((a, oe) :: pn)) (b₀ :: suite) (ts a cls d)) (r : HasOk X hds l) :
      HasOk X (.ExceptHandler (some (.Name x np)) (some n) (b₀ :: suite) pos' :: hds) ((c, i, ts) :: l)
section
variable {X : Cx} {body : List Stmt} {h₀ : ExceptHandler} {hds : List ExceptHandler} {l : List (Value × Nat × (Addr → Value → Option Addr → TS))} {pos : Pos} {tb : WX → TS} {Wout : WX}
theorem ps_try_asN (hs : X.stack = X.env :: X.outer) (hf : X.env.frame = some X.env.locals) (tk : Takes X Wout)
    (hb : ∀ (W : WX) (pn : List (Addr × Obj)) (xe : Value → Shared → Prop), Takes (X.tr pn xe) W → PassesOwn (model X.prog X.w) X.A X.env xe → PSs (X.tr pn xe) body (tb W))
    (hh : HasOk X (h₀ :: hds) l) : PS X (.Try body (h₀ :: hds) [] [] pos) (fun D σ H => tb (wAsM X.K Wout D l) D σ H) := by
  refine ⟨fun pins s σ H D I h => ?_⟩
  have ok := I.ok
  have hfr : X.A.frames = some (X.env :: X.outer) := by rw [ok.frames, hs]
  refine wpAny_Try_except ?_
  refine wpAny_mono ((hb (wAsM X.K Wout D l) (X.pn ++ pins) (fun e s₁ => wpAny (model X.prog X.w) X.A (noteFrame e X.env) (fun _ s₂ => wpAny (model X.prog X.w) X.A (setFlight e none) (fun _ s₃ =>
    wpAny (model X.prog X.w) X.A (handleBy e X.env (h₀ :: hds)) (SP X pins D) X.xe s₃) X.xe s₂) X.xe s₁) (fun u s' xx => ?_) PassesOwn.looking).run [] s σ H D (I.toTry _) h) (fun f s1 hsp => ?_) (fun e s1 he => he)
  · -- the catch
    obtain ⟨a, B, sI, pins', σ', H', cls, d, rfl, J', nb, up, sky, na, os, ag, w⟩ := xx
    have J : Inv X pins σ' H' sI := J'.ofTry ok
    have sky' : Sky B (X.env :: X.outer) a (Zc cls d) X.env.locals s'.heap := by rw [← hs]; exact sky
    show wpAny (model X.prog X.w) X.A (noteFrame (.ref a) X.env) _ _ _
    refine Sky.land Zc.steady hfr hf sky' fun h3 fl3 up3 => ?_
    have J3 : Inv X pins σ' H' { s' with heap := h3 } := J.landed nb fl3.1 (up.trans up3) os ag
    obtain ⟨oe3, vs3, he3, hz3, hd3⟩ := fl3.there
    have notFr : ∀ {h : Heap} {o : Obj} {vs : Array Value}, h.FunFrames B (X.env :: X.outer) → h.get? a = some o → o.data = .fields vs → a ∉ frs (X.env :: X.outer) := fun {h o vs} ff e dd hm => by
      obtain ⟨_, o', e', hnf⟩ := ff.mem hm
      rw [e] at e'; cases e'
      exact hnf _ dd
    have nfr := notFr fl3.2.2.1 he3 hd3
    have nL : a ≠ X.env.locals := fun z => nfr (List.mem_filterMap.mpr ⟨X.env, List.mem_cons_self, by rw [hf, z]⟩)
    have nF : a ∉ X.fs := fun hm => by
      obtain ⟨e, he, q⟩ := List.mem_filterMap.mp hm
      exact nfr (List.mem_filterMap.mpr ⟨e, List.mem_cons_of_mem _ he, q⟩)
    have S3 := J3.suite he3 hd3 na nL nF
    have go : ∀ {hds' : List ExceptHandler} {l' : List (Value × Nat × (Addr → Value → Option Addr → TS))}, HasOk X hds' l' → wAsM X.K Wout D l' cls d σ' H' →
        wpAny (model X.prog X.w) X.A (handleBy (.ref a) X.env hds') (SP X pins D) X.xe { s' with heap := h3 } := by
      intro hds' l' hk
      induction hk with
      | nil =>
        intro w
        refine wpAny_handleBy_nil ?_
        obtain ⟨k1, k2, k3, oe, vs, T, oT, ts', he, hz, hd, h1, hr⟩ := id fl3
        unfold PySem.passOn
        refine wpAny_bind (wpAny_field he hd h1 ?_)
        rw [if_neg (show ¬ ((Value.ref T == Value.none) = true) from by simp)]
        have fin : wpAny (model X.prog X.w) X.A (setFlight (.ref a) X.env.frame) (fun _ s4 => wpAny (model X.prog X.w) X.A (throw (.ref a) : Sem Flow) (SP X pins D) X.xe s4) X.xe { s' with heap := h3 } := by
          rw [hf]
          refine HandSPX.setFlight_upZ fl3 fun h4 hh4 up4 => wpAny_throw (tk _ _ ?_)
          exact ⟨a, B, sI, pins, σ', H', cls, d, rfl, J, nb, (up.trans up3).trans up4, .inr (.inr (by rw [hs]; exact hh4)), na, os, ag, w⟩
        first
          | exact wpAny_bind (wpAny_pure (wpAny_bind fin))
          | exact wpAny_bind fin
      | @cons x n c i ts b₀ suite np pos' hds2 l2 hN hi hln hc hsu r ih =>
        intro w
        obtain ⟨b, hb1, hyes, hno⟩ := w
        have hloc : Loc X.env.scope n := .inl hln
        refine wpAny_handleBy_cons (codeAny_handlers_test ?_) (by intro q; cases q)
        have LT : PySem.W.Looks (model X.prog X.w) h3 (typeOf (.ref a)) cls := fun A Q E s k q => wpAny_typeOf_ref (k _ _ he3) (by rw [hz3.1]; exact q)
        have LM := PySem.W.exm_one (M := model X.prog X.w) (J3.kIn) LT hb1
        have test : ∀ {Q : Value → Shared → Prop} {E : Value → Shared → Prop}, Q c { s' with heap := h3 } → wpAny (model X.prog X.w) (X.A.mark (some (.ref a))) (eval (.Name x np) X.env) Q E { s' with heap := h3 } := fun {Q E} q => by
          obtain ⟨hg, hdbg, hm | ⟨hm, hv, hnn⟩⟩ := hc
          · exact ld_glob (X := X.suite a ((a, oe3) :: (X.pn ++ pins))) S3 hg hm q hdbg
          · exact ld_blt (X := X.suite a ((a, oe3) :: (X.pn ++ pins))) S3 hg hm hv q hnn hdbg
        refine test (LM.here ?_)
        cases b with
        | true =>
          refine codeAny_handlers_suite_as ?_
          refine HandSPX.lands_againZ fl3 fun h4 fl4 up4 => ?_
          have J4 : Inv X pins σ' H' { s' with heap := h4 } := J.landed nb fl4.1 ((up.trans up3).trans up4) os ag
          obtain ⟨oe4, vs4, he4, hz4, hd4⟩ := fl4.there
          have S4 := J4.suite he4 hd4 na nL nF
          refine store_ok (X := X.suite a ((a, oe4) :: (X.pn ++ pins))) (v := .ref a) S4 hN hi hloc rfl (fun s5 S5 => ?_) (.inr hln)
          refine wpAny_mono ((hsu a oe4 cls d (X.pn ++ pins) hz4 ⟨_, hd4⟩).run [] s5 _ H' _ S5 (hyes rfl a na)) (fun f s6 hsp => ?_) (fun _ _ z => False.elim z)
          have end_ : ∀ {σ6 : L2.St} {H6 : Hp} {Q : Shared → Prop}, Inv (X.suite a ((a, oe4) :: (X.pn ++ pins))) [] σ6 H6 s6 → (∀ s7, Inv X pins (σ6.set i none) H6 s7 → Q s7) →
              wpAny (model X.prog X.w) X.A (do bindName X.env n .none; unbindBehindTheSuite X.env n pos') (fun _ s7 => Q s7) X.xe s6 := fun {σ6 H6 Q} S6 hq => gone_ok (S6.unsuite ok) hN hi hln hq
          cases f with
          | next =>
            obtain ⟨σ6, H6, S6, q6⟩ := hsp
            exact end_ S6 fun s7 J7 => ⟨_, _, J7, q6⟩
          | brk =>
            obtain ⟨σ6, H6, S6, q6⟩ := hsp
            exact end_ S6 fun s7 J7 => ⟨_, _, J7, q6⟩
          | cont =>
            obtain ⟨σ6, H6, S6, q6⟩ := hsp
            exact end_ S6 fun s7 J7 => ⟨_, _, J7, q6⟩
          | ret u =>
            obtain ⟨v6, σ6, H6, S6, r6, q6⟩ := hsp
            exact end_ S6 fun s7 J7 => ⟨_, _, _, J7, r6, q6⟩
        | false =>
          show wpAny _ X.A (handleBy (.ref a) X.env hds2) _ _ _
          exact ih (hno rfl)
    exact go hh w
  · cases f with
    | next =>
      obtain ⟨σ', H', J', q⟩ := hsp
      exact wpAny_execs_nil ⟨σ', H', J'.ofTry ok, q⟩
    | brk =>
      obtain ⟨σ', H', J', q⟩ := hsp
      exact ⟨σ', H', J'.ofTry ok, q⟩
    | cont =>
      obtain ⟨σ', H', J', q⟩ := hsp
      exact ⟨σ', H', J'.ofTry ok, q⟩
    | ret u =>
      obtain ⟨v, σ', H', J', r, q⟩ := hsp
      exact ⟨v, σ', H', J'.ofTry ok, r, q⟩
end
/-! ### C0.__init__(self, ..), C0 an own class whose __init__ is ValueError's -/
section
variable {X : Cx} {e : Expr} {es : List Expr} {ta : TA} {n : Str} {C0 : Addr} {mc : Value} {p1 p2 pos : Pos}
theorem pe_xinit {pl : Sem Bool} (hg : Gl X n) (hm : X.mg n = some (.ref C0)) (r : ClX.CRead X.K C0 mc) (vV : PySem.W.findCls X.K (.ref C0) mc "__init__" = some (.val (.builtin "ValueError.__init__"))) (ha : PA X (e :: es) ta)
    (hc : eval (.Call (.Attribute (.Name n p1) "__init__" p2) (e :: es) [] pos) X.env = (do
      let ov ← eval (.Name n p1) X.env
      standAt p2.atName
      let (f, first) ← holding [ov] (getMethod ov "__init__" pl)
      callWith pos f first (backTo pos (starEach (e :: es) X.env)) (backToKw pos (keywordEach [] X.env))) := by rfl)
    (hd : (n == ("__debug__" : Str)) = false := by decide)
    (he : starEach (e :: es) X.env = (false, eval e X.env) :: starEach es X.env := by rfl) (hpl : (backTo pos (starEach es X.env)).any (·.1) = false := by rfl) :
    PE X (.Call (.Attribute (.Name n p1) "__init__" p2) (e :: es) [] pos) (tVeI X.K ta) := by
  refine ⟨fun pins s σ H Q I h => ?_⟩
  refine PySem.W.methodCall_KW (ld_glob I hg hm ?_ hd) hc
  refine PySem.W.method_cls I.kIn r.ga ?_
  refine PySem.W.cls_value I.kIn r.rd vV (by decide +kernel) ?_
  show wpAny _ _ (callWith pos (Value.builtin "ValueError.__init__") [] (backTo pos (starEach (e :: es) X.env)) []) _ _ _
  refine PyProof.Rows.callWith_method1 (thn (ha.run pos pins _ σ H _ (I.tok _) h) fun us s1 ⟨vs, H1, I1, r1, a, C, ws, ev, hl, T, ea, q⟩ => ?_) he hpl
  subst ev
  cases r1 with
  | @cons _ u0 _ ur ra rw' =>
    obtain rfl : u0 = Value.ref a := ra
    have hlen : ur.length ≤ sizeLine := by
      rw [← Paired.length rw', sizeLine_eq]
      omega
    exact oinit_ok T I1 ea hlen fun s' J => ⟨.non, H1, J, rfl, q⟩
end
/-! ### readings' heads, and what is told of TooLong -/
theorem k_ifSx {c : TT} {t u : TS} {D : Ends} {σ : L2.St} {H : Hp} (h : c σ H fun b H1 => if b = true then t D σ H1 else u D σ H1) : tIfS c t u D σ H := h
theorem k_callSx {sp : Sp} {E : L2.St → XK} {tr : TA} {σ : L2.St} {H : Hp} {Q : VK} (h : tr σ H fun vs H1 => sp vs H1 Q (E σ)) : tCallS sp E tr σ H Q := h
/-- an error of the class at C may lie in the air, that has needed = m -/
def TL (C : Addr) (E : XK) (H : Hp) (m : Int) : Prop := ∀ (d : Addr) (H' : Hp), Same H H' → H' d = some (.xd [("needed", .int m)]) → E (.ref C) (some d) H'
theorem TL.mono {C : Addr} {E : XK} {H H1 : Hp} {m : Int} (t : TL C E H m) (s : Same H H1) : TL C E H1 m := fun d H' s' e => t d H' (s.trans s') e
theorem k_isX {K : PySem.W.Frag} {H : Hp} {Q : VK} {a D : Addr} {d : Option Addr} {c : V} {cv : Value} {b : Bool} (C : ExcC K D) (hd : DOk H d) (hcv : ∀ u, RelV c u → u = cv) (h : PySem.W.kitOne K (.ref D) cv = some b) (q : Q (.bl b) H) : rIsC K a (.ref D) d [.ref a, c] H Q :=
  ⟨D, c, cv, b, rfl, rfl, C, hd, hcv, h, q⟩
theorem k_xf {a C : Addr} {cls : Value} {d : Option Addr} {f : Str} {te : TE} {σ : L2.St} {H : Hp} {Q : VK} (h : te σ H fun x H1 => x = .ref a ∧ cls = .ref C ∧ ∃ (dd : Addr) (fs : List (Str × V)) (v : V), d = some dd ∧ H1 dd = some (.xd fs) ∧ fs.lookup f = some v ∧ Q v H1) : tXf a cls d C f te σ H Q := h
/-- self of an own error, being made -/
theorem tl_made {C a d : Addr} {E : XK} {H H2 : Hp} {m : Int} (t : TL C E H m) (ha : H a = none) (hd : H d = none) (e : H2 = upd (upd (upd H a (exo a C none)) d (exd d [("needed", .int m)])) a (exo a C (some d))) : E (.ref C) (some d) (upd (del H2 a) d (.xd [("needed", .int m)])) := by
  refine t d _ (fun b o h => ?_) upd_same
  have nb : b ≠ d := ne_of_none h hd
  have na : b ≠ a := ne_of_none h ha
  rw [upd_ne nb, del_ne na, e, upd_ne na, upd_ne nb, upd_ne na]
  exact h
/-- C(self, needed) -/
def spTL (C : Addr) : Sp := fun vs H Q _ => ∃ (a : Addr) (m : Int), vs = [.ref a, .int m] ∧ H a = some (exo a C none) ∧ ∀ dx, H dx = none → dx ≠ a → Q .non (upd (upd H dx (exd dx [("needed", .int m)])) a (exo a C (some dx)))
theorem k_mkTL {C : Addr} {H : Hp} {E : XK} {m : Int} (t : TL C E H m) : ([V.int m] : List V).length ≤ 1000 ∧ ∀ a, H a = none → spTL C (.ref a :: ([V.int m] ++ [])) (upd H a (exo a C none))
    (fun v H2 => v = .non ∧ ∃ (d : Addr) (fs : List (Str × V)), H2 a = some (exo a C (some d)) ∧ H2 d = some (exd d fs) ∧ H d = none ∧ E (.ref C) (some d) (upd (del H2 a) d (.xd fs))) (fun _ _ _ => False) := by
  refine ⟨by show 1 ≤ 1000; decide, fun a ha => ⟨a, m, rfl, upd_same, fun dx hd hda => ⟨rfl, dx, [("needed", .int m)], upd_same, ?_, ?_, ?_⟩⟩⟩
  · rw [upd_ne hda, upd_same]
  · rw [upd_ne hda] at hd; exact hd
  · rw [upd_ne hda] at hd
    exact tl_made t ha hd rfl
theorem k_veI {K : PySem.W.Frag} {ta : TA} {σ : L2.St} {H : Hp} {Q : VK} (h : ta σ H fun vs H1 => ∃ (a C : Addr) (ws : List V), vs = .ref a :: ws ∧ ws.length ≤ 1000 ∧ OexC K C ∧ H1 a = some (exo a C none) ∧ Q .non H1) : tVeI K ta σ H Q := h
theorem k_ost {K : PySem.W.Frag} {f : Str} {to te : TE} {D : Ends} {σ : L2.St} {H : Hp} (h : te σ H fun y H1 => to σ H1 fun x H2 => ∃ a C : Addr, x = .ref a ∧ OexC K C ∧ PySem.W.findIn K (.ref C) f = some none ∧
  ((H2 a = some (exo a C none) ∧ ∀ dx, H2 dx = none → dx ≠ a → D.nx σ (upd (upd H2 dx (exd dx [(f, y)])) a (exo a C (some dx)))) ∨
    ∃ (dx : Addr) (fs : List (Str × V)), H2 a = some (exo a C (some dx)) ∧ H2 dx = some (exd dx fs) ∧ fs.length ≤ 900 ∧ D.nx σ (upd H2 dx (exd dx ((f, y) :: fs))))) : tOst K f to te D σ H := h
theorem k_mkO {C : Addr} {sp : Sp} {dvs : List V} {ta : TA} {σ : L2.St} {H : Hp} {Q : XK} (h : ta σ H fun vs H1 => vs.length ≤ 1000 ∧ ∀ a, H1 a = none → sp (.ref a :: (vs ++ dvs)) (upd H1 a (exo a C none))
  (fun v H2 => v = .non ∧ ∃ (d : Addr) (fs : List (Str × V)), H2 a = some (exo a C (some d)) ∧ H2 d = some (exd d fs) ∧ H1 d = none ∧ Q (.ref C) (some d) (upd (del H2 a) d (.xd fs))) (fun _ _ _ => False)) : tMkO C sp dvs ta σ H Q := h

/-! ### the walker: one step, by the head of the reading -/
local macro_rules | `(tactic| walk_at "hp") => `(tactic| first | assumption | (refine' same_t ?h1 ?h2; (case h1 => assumption); (case h2 => walk_at "hp")) | (refine' same_l ?h1 ?h2; (case h1 => assumption); (case h2 => walk_at "hp")) | (refine' same_at ?h1 ?h2; (case h1 => assumption); (case h2 => walk_at "hp")) | fail)
local macro_rules | `(tactic| walk_at "hl") => `(tactic| first | walk_at "hp" | (refine' SqL.of ?h1; (case h1 => walk_at "hp")) | fail)
local macro_rules | `(tactic| walk_at "ht") => `(tactic| first | walk_at "hp" | (refine' SqT.of ?h1; (case h1 => walk_at "hp")) | fail)
local macro_rules | `(tactic| walk_at "sm") => `(tactic| first | assumption | (refine' sm_lit ?h1; (case h1 => decide +kernel)) | exact sm41 (by omega) (by omega) | walk_at "smx" | (refine' sm_mul ?h1 ?h2; (case h1 => walk_at "sm"); (case h2 => walk_at "sm")) | fail)
local macro_rules | `(tactic| walk_at "sd") => `(tactic| first
  | omega
  | decide +kernel
  | ((with_reducible apply Int.emod_nonneg); omega)
  | ((with_reducible refine sm_divx (b := 200) ?_ ?_ (by decide) (by decide)) <;> first | omega | walk_at "sm")
  | ((with_reducible refine sm_div (b := 200) ?_ ?_ (by decide) (by decide)) <;> first | omega | walk_at "sm")
  | walk_at "sdx"
  | ((with_reducible refine' sm_mulx ?h1 ?h2 ?h3); (case h1 => walk_at "sm"); (case h2 => walk_at "sm"); (case h3 => decide +kernel)) | fail)
local macro_rules | `(tactic| walk_at "st") => `(tactic| first
  | (with_reducible apply k_seqA)
  | (with_reducible apply k_seqD)
  | (with_reducible apply k_seqP)
  | ((with_reducible apply k_var); (· rfl))
  | (with_reducible apply k_c)
  | (with_reducible apply k_op)
  | (with_reducible apply k_add)
  | (with_reducible apply k_I0)
  | (with_reducible apply k_asg)
  | (with_reducible apply k_call)
  | (with_reducible apply k_cb)
  | (with_reducible apply k_cons)
  | (with_reducible apply k_nil)
  | (with_reducible apply k_ret)
  | (with_reducible apply k_test)
  | (with_reducible apply k_eq)
  | (with_reducible apply k_ne)
  | (with_reducible apply k_bl)
  | ((with_reducible apply k_I); (· walk_at "sd"))
  | (with_reducible apply k_U)
  | (with_reducible apply k_un)
  | ((with_reducible apply k_ixT); (· walk_at "ht"); (· rfl))
  | ((with_reducible apply k_ixL); (· walk_at "hl"); (· rfl))
  | (with_reducible apply k_tup)
  | ((with_reducible apply k_newtup); (· exact Nat.le_of_ble_eq_true rfl); intro p H' hn hs ht)
  | (with_reducible apply k_lst)
  | ((with_reducible apply k_newlst); (· exact Nat.le_of_ble_eq_true rfl); intro p H' hn hs ht)
  | (with_reducible apply k_B)
  | (with_reducible apply k_and)
  | (with_reducible apply k_or)
  | (with_reducible apply k_not)
  | ((with_reducible apply k_and2); (· rfl); (· rfl))
  | ((with_reducible apply k_or2); (· rfl); (· rfl))
  | ((with_reducible apply k_andn2); (· rfl); (· rfl))
  | (with_reducible apply k_andV)
  | (with_reducible apply k_orV)
  | (with_reducible apply k_notV)
  | (with_reducible apply k_chain)
  | (with_reducible apply k_eqb)
  | (with_reducible apply k_neb)
  | (with_reducible apply k_eqs)
  | (with_reducible apply k_nes)
  | (with_reducible apply k_drop)
  | (with_reducible apply k_next)
  | (with_reducible apply if_t)
  | (with_reducible apply if_f)
  | (with_reducible apply if_nt)
  | (with_reducible apply if_nf)
  | (with_reducible apply k_isi_ii)
  | (with_reducible apply k_isi_ib)
  | (with_reducible apply k_isi_bb)
  | (with_reducible apply k_isi_it)
  | ((with_reducible apply k_isi_tt); (· walk_at "ht"))
  | (with_reducible apply k_abs)
  | ((with_reducible apply k_max2); intro k hk1 hk2 hk3)
  | ((with_reducible apply k_min2); intro k hk1 hk2 hk3)
  | ((with_reducible apply k_lenT); (· walk_at "ht"))
  | ((with_reducible apply k_lenL); (· walk_at "hl"))
  | (with_reducible apply k_intI)
  | (with_reducible apply k_intB)
  | (with_reducible apply k_par)
  | (with_reducible apply k_par2)
  | (with_reducible apply k_ifx)
  | (with_reducible apply k_gname)
  | (with_reducible apply k_asgG)
  | (with_reducible apply k_retN)
  | (with_reducible apply k_lstrg)
  | ((with_reducible apply k_lstrgV); (· omega); intro p H' hn hs ht)
  | (with_reducible apply k_bits)
  | (with_reducible apply k_bitsV)
  | (with_reducible apply k_isN_n)
  | (with_reducible apply k_isN_i)
  | (with_reducible apply k_isN_r)
  | (with_reducible apply k_notN_n)
  | (with_reducible apply k_notN_i)
  | (with_reducible apply k_notN_r)
  | (with_reducible apply k_lc)
  | (with_reducible apply k_itup)
  | (with_reducible apply k_ilst)
  | ((with_reducible apply k_sqt); (· walk_at "ht"))
  | ((with_reducible apply k_sql); (· walk_at "hl"))
  | (with_reducible apply k_irng1)
  | ((with_reducible apply k_rng1); (· first | decide | omega))
  | (with_reducible apply k_irng2L)
  | (with_reducible apply k_rng2L)
  | (with_reducible apply k_irng2)
  | (with_reducible apply k_irng3)
  | ((with_reducible apply k_rng2); (· first | decide | omega))
  | ((with_reducible apply k_gtup); (· walk_at "ht"); (· rfl))
  | (with_reducible apply k_gcons)
  | (with_reducible apply k_gnil)
  | ((with_reducible apply k_notin2); (· walk_at "hl"))
  | ((with_reducible apply k_in2); (· walk_at "hl"))
  | ((with_reducible apply k_in3); (· walk_at "hl"))
  | ((with_reducible apply k_notinL); (· walk_at "hl"))
  | ((with_reducible apply k_inL'); (· walk_at "hl"))
  | ((with_reducible apply k_divmod); (· walk_at "sd"); intro p H' hn hs ht) | fail)
local macro_rules | `(tactic| walk_at "go") => `(tactic| repeat' walk_at "st")
/-- a branch: both ways, those that cannot be shut by omega -/
local macro_rules | `(tactic| walk_at "br") => `(tactic| (first | with_reducible apply if_dec | with_reducible apply if_ndec | with_reducible apply if_b) <;> intro hbr <;> first | (first | exact absurd (by assumption) hbr | exact absurd hbr (by assumption) | (exfalso; omega) | (exfalso; simp only [List.length_cons, List.length_nil] at hbr; omega)) | skip)
/-- an if statement: its test walked, the ways that can be -/
local macro_rules | `(tactic| walk_at "if") => `(tactic| ((first | with_reducible apply k_seqI | with_reducible apply k_if); walk_at "go"; walk_at "br"))
/-- a branch of which omega shuts one way -/
local macro_rules | `(tactic| walk_at "br1") => `(tactic| first
  | (with_reducible apply if_dec; (· (intro hbr; first | exact absurd (by assumption) hbr | exact absurd hbr (by assumption) | (exfalso; omega) | (exfalso; simp only [List.length_cons, List.length_nil] at hbr; omega))); intro hbr)
  | (with_reducible apply if_dec; rotate_left; (· (intro hbr; first | exact absurd (by assumption) hbr | exact absurd hbr (by assumption) | (exfalso; omega) | (exfalso; simp only [List.length_cons, List.length_nil] at hbr; omega))); intro hbr)
  | (with_reducible apply if_ndec; (· (intro hbr; first | exact absurd (by assumption) hbr | exact absurd hbr (by assumption) | (exfalso; omega) | (exfalso; simp only [List.length_cons, List.length_nil] at hbr; omega))); intro hbr)
  | (with_reducible apply if_ndec; rotate_left; (· (intro hbr; first | exact absurd (by assumption) hbr | exact absurd hbr (by assumption) | (exfalso; omega) | (exfalso; simp only [List.length_cons, List.length_nil] at hbr; omega))); intro hbr) | fail)
local macro_rules | `(tactic| walk_at "run") => `(tactic| repeat' (first | walk_at "st" | walk_at "br1" | with_reducible apply k_seqI | with_reducible apply k_if))
local macro_rules | `(tactic| walk_at "all") => `(tactic| repeat' (first | walk_at "st" | walk_at "br1" | walk_at "br" | with_reducible apply k_seqI | with_reducible apply k_if))
local macro_rules | `(tactic| walk_at "st") => `(tactic| first
  | ((with_reducible apply k_eqP); (· walk_at "ht"); (· walk_at "ht"))
  | ((with_reducible apply k_neP); (· walk_at "ht"); (· walk_at "ht")) | fail)
local macro_rules | `(tactic| walk_at "st") => `(tactic| first
  | ((with_reducible apply if_seq); (· rfl))
  | ((with_reducible apply if_nseq); (· rfl))
  | ((with_reducible apply if_sne); (· decide +kernel))
  | ((with_reducible apply if_nsne); (· decide +kernel)) | fail)

local macro_rules | `(tactic| walk_at "sl") => `(tactic| first | with_reducible assumption | ((with_reducible apply SL.num); first | assumption | exact sm_mono (sm41 (by omega) (by omega)) (by decide) | walk_at "sm") | ((with_reducible apply SL.app) <;> walk_at "sl") | ((with_reducible apply SL.lit); decide +kernel) | fail)
local macro_rules | `(tactic| walk_at "st") => `(tactic| first
  | ((with_reducible apply k_str); (· first | assumption | exact sm_mono (sm41 (by omega) (by omega)) (by decide) | walk_at "sm"))
  | ((with_reducible apply k_adds); (· walk_at "sl"); (· walk_at "sl"); (· first | decide | omega)) | fail)

local macro_rules | `(tactic| walk_at "st") => `(tactic| first | (with_reducible apply k_callSx) | fail)

local macro_rules | `(tactic| walk_at "sn") => `(tactic| first | assumption | omega | (rw [SX.S_len]; omega) | decide +kernel | fail)
local macro_rules | `(tactic| walk_at "st") => `(tactic| first
  | (with_reducible apply k_slS)
  | (with_reducible apply k_part)
  | (with_reducible apply k_partV)
  | (with_reducible apply k_nopart)
  | ((with_reducible apply k_slSV); (· walk_at "sn"))
  | (with_reducible apply k_sgn)
  | (with_reducible apply k_nsgn)
  | (with_reducible apply k_m1)
  | (with_reducible apply k_m1S)
  | (with_reducible apply k_m0)
  | (with_reducible apply k_m0S)
  | (with_reducible apply k_starts)
  | (with_reducible apply k_istr)
  | (with_reducible apply k_istrV)
  | ((with_reducible apply k_lenS); (· walk_at "sn"))
  | (with_reducible apply k_isi_ss)
  | (with_reducible apply k_isi_is)
  | (with_reducible apply k_isi_ns)
  | (with_reducible apply k_isi_ni)
  | ((with_reducible apply k_isi_noS); (· with_reducible assumption)) | fail)
local macro_rules | `(tactic| walk_at "sl") => `(tactic| first | with_reducible assumption | (with_reducible exact SL.one) | ((with_reducible apply SL.num); first | assumption | exact sm_mono (sm41 (by omega) (by omega)) (by decide) | walk_at "sm") | ((with_reducible apply SL.app) <;> walk_at "sl") | ((with_reducible apply SL.cut); walk_at "sl") | ((with_reducible apply SL.lit); decide +kernel) | fail)

def topS (i : Nat) : Stmt := PySem.Challenge.pw_feastwheel_k70_numbers_as_texts.main.body.getD i (.Pass ⟨0, 0, 0, 0⟩)
abbrev s_Lcell_at : Stmt := topS 10
theorem sc_Lcell_at : FnScope ["_law_script", "_law_k"] ["_law_script", "_law_k"] (defScope s_Lcell_at) := ⟨rfl, rfl, rfl, by decide +kernel, rfl, by decide +kernel, by decide +kernel⟩
abbrev s_Lnumber_text : Stmt := topS 13
theorem sc_Lnumber_text : FnScope ["_law_cell", "_law_part"] ["_law_cell"] (defScope s_Lnumber_text) := ⟨rfl, rfl, rfl, by decide +kernel, rfl, by decide +kernel, by decide +kernel⟩
abbrev s_Lodd : Stmt := topS 14
theorem sc_Lodd : FnScope ["_law_cell", "_law_some"] ["_law_cell"] (defScope s_Lodd) := ⟨rfl, rfl, rfl, by decide +kernel, rfl, by decide +kernel, by decide +kernel⟩
abbrev s_Lno_text : Stmt := topS 15
theorem sc_Lno_text : FnScope ["_law_cell", "_law_number"] ["_law_cell"] (defScope s_Lno_text) := ⟨rfl, rfl, rfl, by decide +kernel, rfl, by decide +kernel, by decide +kernel⟩
abbrev s_Lfree : Stmt := topS 16
theorem sc_Lfree : FnScope ["_law_cell", "_law_signs", "_law_text", "_law_rest", "_law_k"] ["_law_cell", "_law_signs"] (defScope s_Lfree) := ⟨rfl, rfl, rfl, by decide +kernel, rfl, by decide +kernel, by decide +kernel⟩
abbrev s_Lwritten : Stmt := topS 12
theorem sc_Lwritten : FnScope ["_law_cell", "_law_figures", "_law_text", "_law_number", "_law_k"] ["_law_cell", "_law_figures"] (defScope s_Lwritten) := ⟨rfl, rfl, rfl, by decide +kernel, rfl, by decide +kernel, by decide +kernel⟩
abbrev s_Lhanded : Stmt := topS 17
theorem sc_Lhanded : FnScope ["_law_script", "_law_way", "_law_one", "_law_two", "_law_text", "_law_at", "_law_sign"] ["_law_script"] (defScope s_Lhanded) := ⟨rfl, rfl, rfl, by decide +kernel, rfl, by decide +kernel, by decide +kernel⟩
abbrev s_Ldue : Stmt := topS 18
theorem sc_Ldue : FnScope ["_law_text", "_law_figures", "_law_sign", "_law_value"] ["_law_text"] (defScope s_Ldue) := ⟨rfl, rfl, rfl, by decide +kernel, rfl, by decide +kernel, by decide +kernel⟩
abbrev s_are_figures : Stmt := topS 7
theorem sc_are_figures : FnScope ["text", "sign"] ["text"] (defScope s_are_figures) := ⟨rfl, rfl, rfl, by decide +kernel, rfl, by decide +kernel, by decide +kernel⟩
abbrev s_read_number : Stmt := topS 8
theorem sc_read_number : FnScope ["text", "figures"] ["text"] (defScope s_read_number) := ⟨rfl, rfl, rfl, by decide +kernel, rfl, by decide +kernel, by decide +kernel⟩
abbrev s_Lwhole : Stmt := topS 11
theorem sc_Lwhole : FnScope ["_law_found"] ["_law_found"] (defScope s_Lwhole) := ⟨rfl, rfl, rfl, by decide +kernel, rfl, by decide +kernel, by decide +kernel⟩
abbrev s_law : Stmt := topS 19
theorem sc_law : FnScope ["_law_script", "_law_handed_here", "_law_due_here", "_law_found", "_law_plain", "e"] ["_law_script"] (defScope s_law) := ⟨rfl, rfl, rfl, by decide +kernel, rfl, by decide +kernel, by decide +kernel⟩
set_option genSizeOf false in
set_option genSizeOfSpec false in
set_option genInjectivity false in
structure Txt (K : PySem.W.Frag) (mg : Str → Option Value) where
  a_Lcell_at : Addr
  fd_Lcell_at : FuncData
  F_Lcell_at : Fun K "_law_cell_at" "_law_cell_at" s_Lcell_at a_Lcell_at fd_Lcell_at
  g_Lcell_at : mg "_law_cell_at" = some (.ref a_Lcell_at)
  b_Lcell_at : Binds K fd_Lcell_at ["_law_script", "_law_k"] []
  a_Lnumber_text : Addr
  fd_Lnumber_text : FuncData
  F_Lnumber_text : Fun K "_law_number_text" "_law_number_text" s_Lnumber_text a_Lnumber_text fd_Lnumber_text
  g_Lnumber_text : mg "_law_number_text" = some (.ref a_Lnumber_text)
  b_Lnumber_text : Binds K fd_Lnumber_text ["_law_cell"] []
  a_Lodd : Addr
  fd_Lodd : FuncData
  F_Lodd : Fun K "_law_odd" "_law_odd" s_Lodd a_Lodd fd_Lodd
  g_Lodd : mg "_law_odd" = some (.ref a_Lodd)
  b_Lodd : Binds K fd_Lodd ["_law_cell"] []
  a_Lno_text : Addr
  fd_Lno_text : FuncData
  F_Lno_text : Fun K "_law_no_text" "_law_no_text" s_Lno_text a_Lno_text fd_Lno_text
  g_Lno_text : mg "_law_no_text" = some (.ref a_Lno_text)
  b_Lno_text : Binds K fd_Lno_text ["_law_cell"] []
  a_Lfree : Addr
  fd_Lfree : FuncData
  F_Lfree : Fun K "_law_free" "_law_free" s_Lfree a_Lfree fd_Lfree
  g_Lfree : mg "_law_free" = some (.ref a_Lfree)
  b_Lfree : Binds K fd_Lfree ["_law_cell", "_law_signs"] []
  a_Lwritten : Addr
  fd_Lwritten : FuncData
  F_Lwritten : Fun K "_law_written" "_law_written" s_Lwritten a_Lwritten fd_Lwritten
  g_Lwritten : mg "_law_written" = some (.ref a_Lwritten)
  b_Lwritten : Binds K fd_Lwritten ["_law_cell", "_law_figures"] []
  a_Lhanded : Addr
  fd_Lhanded : FuncData
  F_Lhanded : Fun K "_law_handed" "_law_handed" s_Lhanded a_Lhanded fd_Lhanded
  g_Lhanded : mg "_law_handed" = some (.ref a_Lhanded)
  b_Lhanded : Binds K fd_Lhanded ["_law_script"] []
  a_Ldue : Addr
  fd_Ldue : FuncData
  F_Ldue : Fun K "_law_due" "_law_due" s_Ldue a_Ldue fd_Ldue
  g_Ldue : mg "_law_due" = some (.ref a_Ldue)
  b_Ldue : Binds K fd_Ldue ["_law_text"] []
  a_are_figures : Addr
  fd_are_figures : FuncData
  F_are_figures : Fun K "are_figures" "are_figures" s_are_figures a_are_figures fd_are_figures
  g_are_figures : mg "are_figures" = some (.ref a_are_figures)
  b_are_figures : Binds K fd_are_figures ["text"] []
  a_read_number : Addr
  fd_read_number : FuncData
  F_read_number : Fun K "read_number" "read_number" s_read_number a_read_number fd_read_number
  g_read_number : mg "read_number" = some (.ref a_read_number)
  b_read_number : Binds K fd_read_number ["text"] []
  a_Lwhole : Addr
  fd_Lwhole : FuncData
  F_Lwhole : Fun K "_law_whole" "_law_whole" s_Lwhole a_Lwhole fd_Lwhole
  g_Lwhole : mg "_law_whole" = some (.ref a_Lwhole)
  b_Lwhole : Binds K fd_Lwhole ["_law_found"] []
  a_law : Addr
  fd_law : FuncData
  F_law : Fun K "law" "law" s_law a_law fd_law
  g_law : mg "law" = some (.ref a_law)
  b_law : Binds K fd_law ["_law_script"] []
  t_MOST_FIGURES : Tok
  c_MOST_FIGURES : mg "MOST_FIGURES" = some (.int 60 t_MOST_FIGURES)
  t_FIGURES : Tok
  c_FIGURES : mg "FIGURES" = some (.str "0123456789" t_FIGURES)
  n_ValueError : mg "ValueError" = none
  n_all : mg "all" = none
  n_bool : mg "bool" = none
  n_int : mg "int" = none
  n_isinstance : mg "isinstance" = none
  n_len : mg "len" = none
  n_range : mg "range" = none
  n_str : mg "str" = none
  C_NoText : Addr
  gc_NoText : mg "NoText" = some (.ref C_NoText)
  x_NoText : PySem.W.excIn K C_NoText [.type "ValueError", .type "Exception", .type "BaseException", .type "object"] "ValueError.__new__" = true
  kc_NoText : PySem.W.keepIn K (.ref C_NoText) = true
  bc_NoText : PySem.W.subIn K (.ref C_NoText) (.type "BaseException") = some true
  tc_NoText : PySem.W.typeIn K (.ref C_NoText) = some (.type "type")
  ic_NoText : PySem.W.isClsIn K C_NoText = true
  sc_NoText : PySem.W.subIn K (.ref C_NoText) (.ref C_NoText) = some true
  C_FeastError : Addr
  gc_FeastError : mg "FeastError" = some (.ref C_FeastError)
  kc_FeastError : PySem.W.keepIn K (.ref C_FeastError) = true
  bc_FeastError : PySem.W.subIn K (.ref C_FeastError) (.type "BaseException") = some true
  tc_FeastError : PySem.W.typeIn K (.ref C_FeastError) = some (.type "type")
  ic_FeastError : PySem.W.isClsIn K C_FeastError = true
  sc_FeastError : PySem.W.subIn K (.ref C_FeastError) (.ref C_FeastError) = some true
  C_NoNumber : Addr
  gc_NoNumber : mg "NoNumber" = some (.ref C_NoNumber)
  kc_NoNumber : PySem.W.keepIn K (.ref C_NoNumber) = true
  bc_NoNumber : PySem.W.subIn K (.ref C_NoNumber) (.type "BaseException") = some true
  tc_NoNumber : PySem.W.typeIn K (.ref C_NoNumber) = some (.type "type")
  ic_NoNumber : PySem.W.isClsIn K C_NoNumber = true
  sc_NoNumber : PySem.W.subIn K (.ref C_NoNumber) (.ref C_NoNumber) = some true
  sb_NoText_FeastError : PySem.W.subIn K (.ref C_NoText) (.ref C_FeastError) = some true
  sb_NoText_NoNumber : PySem.W.subIn K (.ref C_NoText) (.ref C_NoNumber) = some false
  xc_NoText : ExcC K C_NoText
  sv_NoText : PySem.W.subIn K (.ref C_NoText) (.type "ValueError") = some true
section
variable {P : Program} {w : World} {K : PySem.W.Frag} {mg : Str → Option Value} {base : Heap}

/-! ### _law_cell_at -/
/-- a cell of the script; nought behind its end -/
def sp_Lcell_at (K : PySem.W.Frag) : Sp := fun vs H Q _ => ∃ (a : Addr) (ns : List Int) (k : Int), vs = [.ref a, .int k] ∧ SqL K H a (ns.map V.int) ∧ 0 ≤ k ∧ Q (.int (ns.getD k.toNat 0)) H
theorem ok_Lcell_at (T : Txt K mg) : FnOk P w K mg base CX0 1 T.a_Lcell_at T.fd_Lcell_at ["_law_script", "_law_k"] (sp_Lcell_at K) := by
  refine T.F_Lcell_at.ok sc_Lcell_at (fun vs H Q E h => ?_) (fun cdv A outer s H vs Q E hr h => ?_)
  · obtain ⟨_, _, _, rfl, _⟩ := h; rfl
  · obtain ⟨a, ns, k, rfl, hS, h0, q⟩ := h
    refine ⟨_, (pss_cons (ps_if (pt_cmpR op_lt (pv 1) (pe_callB (kb_len K) (by rfl) T.n_len (by decide +kernel) (pa_cons (pv 0) pa_nil)) (nomark _)) (pss_one (ps_ret (pe_ix (kb_ix K) (pv 0) (pv 1) (fun _ _ => rfl)))) pss_nil)
        (pss_one (ps_ret pe_int))), ?_⟩
    apply k_seqI; walk_at "go"
    refine if_dec (fun hk => ?_) (fun hk => ?_)
    · walk_at "go"
      rw [List.length_map] at hk
      have e : ((ns.map V.int)[k.toNat]?) = some (V.int (ns.getD k.toNat 0)) := by
        rw [List.getElem?_map, List.getElem?_eq_getElem (show k.toNat < ns.length by omega), List.getD_eq_getElem?_getD, List.getElem?_eq_getElem (show k.toNat < ns.length by omega)]
        rfl
      exact k_ixL hS (at_of (show k = ((k.toNat : Nat) : Int) by omega) e) q
    · walk_at "go"
      rw [List.length_map] at hk
      have e : ns.getD k.toNat 0 = 0 := by
        rw [List.getD_eq_getElem?_getD, List.getElem?_eq_none (by omega)]; rfl
      rw [e] at q
      exact q
theorem sm_getD {ns : List Int} {n : Nat} (hb : ∀ z ∈ ns, Builtin.Int.intBits z ≤ n) (k : Nat) : Sm n (ns.getD k 0) := by
  rw [List.getD_eq_getElem?_getD]
  by_cases h : k < ns.length
  · rw [List.getElem?_eq_getElem h]; exact sm_bits (hb _ (List.getElem_mem h))
  · rw [List.getElem?_eq_none (by omega)]; exact ⟨Nat.pow_pos (by decide)⟩
theorem k_cell {H : Hp} {Q : VK} {E : XK} {a : Addr} {ns : List Int} {k : Int} (hb : ∀ z ∈ ns, Builtin.Int.intBits z ≤ 1048576) (hS : SqL K H a (ns.map V.int)) (h0 : 0 ≤ k)
    (q : ∀ c, c = ns.getD k.toNat 0 → Sm 1048576 c → Q (.int c) H) : sp_Lcell_at K [.ref a, .int k] H Q E := ⟨a, ns, k, rfl, hS, h0, q _ rfl (sm_getD hb _)⟩
local macro_rules | `(tactic| walk_at "st") => `(tactic| first | ((with_reducible apply k_cell); (· assumption); (· walk_at "hp"); (· first | decide | omega); intro c hc hm) | fail)

/-! ### _law_number_text -/
def sp_Lnumber_text (K : PySem.W.Frag) : Sp := fun vs H Q _ => ∃ c : Int, vs = [.int c] ∧ Sm 1048576 c ∧ ∀ s H', Same H H' → SL 122 s → 1 ≤ s.length → Q (.str s) H'
theorem ok_Lnumber_text (T : Txt K mg) : FnOk P w K mg base CX0 1 T.a_Lnumber_text T.fd_Lnumber_text ["_law_cell"] (sp_Lnumber_text K) := by
  refine T.F_Lnumber_text.ok sc_Lnumber_text (fun vs H Q E h => ?_) (fun cdv A outer s H vs Q E hr h => ?_)
  · obtain ⟨_, rfl, _⟩ := h; rfl
  · obtain ⟨c, rfl, sc, q⟩ := h
    have hu := hr.units
    refine ⟨_, (pss_cons (ps_set (i := 1) sc_Lnumber_text.nd rfl (Or.inl rfl) (pe_op op_mod (pe_op op_fdivW (pv 0) pe_int) (pe_ix (kb_ix K) (pe_lst (pa_cons (pe_powc (n := 1000000000000000000000000000000000000000000000000000000000000) (by decide +kernel)) (pa_cons (pe_powc (n := 1000000000) (by decide +kernel)) (pa_cons pe_int (pa_cons pe_int pa_nil))))) (pe_op op_mod (pv 0) pe_int) (fun _ _ => rfl))))
        (pss_one (ps_ret (pe_callTy cb_str (by rfl) T.n_str (by decide +kernel) (pa_cons (pe_ix (kb_ix K) (pe_lst (pa_cons (pv 1) (pa_cons (pe_un un_neg (pv 1)) pa_nil))) (pe_op op_mod (pe_op op_fdivW (pv 0) pe_int) pe_int) (fun _ _ => rfl)) pa_nil))))), ?_⟩
    walk_at "go"
    rename_i p1 H1 hn1 s1 t1
    obtain ⟨_, ⟨w, rfl, w0, w1⟩, hw⟩ := atI_any (P := fun v => ∃ z, v = .int z ∧ 1 ≤ z ∧ z ≤ 1000000000000000000000000000000000000000000000000000000000000) (l := [.int 1000000000000000000000000000000000000000000000000000000000000, .int 1000000000, .int 1000, .int 10]) (i := c % 4) (by omega) (by show c % 4 < 4; omega) (by
      intro z hz
      simp only [List.mem_cons, List.not_mem_nil, or_false] at hz
      rcases hz with rfl | rfl | rfl | rfl <;> exact ⟨_, rfl, by decide, by decide⟩)
    refine k_ixL (SqL.of t1) hw ?_
    have m0 := Int.emod_nonneg (c / 4) (show w ≠ 0 by omega)
    have m1 := Int.emod_lt_of_pos (c / 4) (show 0 < w by omega)
    walk_at "go"
    generalize c / 4 % w = m at *
    rename_i p2 H2 hn2 s2 t2
    obtain ⟨_, ⟨z, rfl, z0, z1⟩, hz⟩ := atI_any (P := fun v => ∃ z, v = .int z ∧ -1000000000000000000000000000000000000000000000000000000000000 ≤ z ∧ z ≤ 1000000000000000000000000000000000000000000000000000000000000) (l := [.int m, .int (-m)]) (i := c / 8 % 2) (by omega) (by show c / 8 % 2 < 2; omega) (by
      intro z hz
      simp only [List.mem_cons, List.not_mem_nil, or_false] at hz
      rcases hz with rfl | rfl <;> exact ⟨_, rfl, by omega, by omega⟩)
    refine k_ixL (SqL.of t2) hz ?_
    have sz : Sm 400 z := sm_mono (sm41 z0 z1) (by decide)
    walk_at "go"
    exact q _ _ (s1.trans s2) (SL.num sz) (num_pos z)
theorem k_Lnumber_text {K : PySem.W.Frag} {H : Hp} {Q : VK} {E : XK} {c : Int} (sc : Sm 1048576 c) (q : ∀ s H', Same H H' → SL 122 s → 1 ≤ s.length → Q (.str s) H') : sp_Lnumber_text K [.int c] H Q E := ⟨c, rfl, sc, q⟩

/-! ### _law_odd -/
def sp_Lodd (K : PySem.W.Frag) : Sp := fun vs H Q _ => ∃ c : Int, vs = [.int c] ∧ ∀ s H', Same H H' → SL 30 s → Q (.str s) H'
theorem ok_Lodd (T : Txt K mg) : FnOk P w K mg base CX0 1 T.a_Lodd T.fd_Lodd ["_law_cell"] (sp_Lodd K) := by
  refine T.F_Lodd.ok sc_Lodd (fun vs H Q E h => ?_) (fun cdv A outer s H vs Q E hr h => ?_)
  · obtain ⟨_, rfl, _⟩ := h; rfl
  · obtain ⟨c, rfl, q⟩ := h
    have hu := hr.units
    refine ⟨_, (pss_cons (ps_set (i := 1) sc_Lodd.nd rfl (Or.inl rfl) (pe_lst (pa_cons pe_str (pa_cons pe_str (pa_cons pe_str (pa_cons pe_str (pa_cons pe_str (pa_cons pe_str (pa_cons pe_str (pa_cons pe_str (pa_cons pe_str (pa_cons pe_str (pa_cons pe_str (pa_cons pe_str (pa_cons pe_str (pa_cons pe_str (pa_cons pe_str pa_nil)))))))))))))))))
        (pss_cons (ps_set (i := 1) sc_Lodd.nd rfl (Or.inl rfl) (pe_op op_addA (pv 1) (pe_lst (pa_cons pe_str (pa_cons pe_str (pa_cons pe_str (pa_cons pe_str (pa_cons pe_str pa_nil))))))))
        (pss_one (ps_ret (pe_ix (kb_ix K) (pv 1) (pe_op op_mod (pv 0) pe_int) (fun _ _ => rfl)))))), ?_⟩
    walk_at "go"
    rename_i p1 H1 hn1 s1 t1 p2 H2 hn2 s2 t2
    refine k_cat (s2 _ _ t1) t2 (by decide) fun p3 H3 hn3 s3 t3 => ?_
    walk_at "go"
    obtain ⟨s, hs, e⟩ := atI_str (l := [.str "", .str "-", .str "--1", .str "-0", .str "00", .str "0", .str "+5", .str " 5", .str "5 ", .str "1_0", .str "0x1", .str "1e3", .str "-01", .str "01", .str "1.0"] ++ [.str "- 1", .str "1-", .str "-00", .str "12 3", .str "1,2"]) (i := c % 20) (by decide +kernel) (by omega) (by show c % 20 < 20; omega)
    refine k_ixL (SqL.of t3) e ?_
    exact q _ _ ((s1.trans s2).trans s3) hs
theorem k_Lodd {K : PySem.W.Frag} {H : Hp} {Q : VK} {E : XK} {c : Int} (q : ∀ s H', Same H H' → SL 30 s → Q (.str s) H') : sp_Lodd K [.int c] H Q E := ⟨c, rfl, q⟩

/-! ### _law_no_text -/
def sp_Lno_text (K : PySem.W.Frag) : Sp := fun vs H Q _ => ∃ c : Int, vs = [.int c] ∧ Sm 1048576 c ∧ ∀ v H', Same H H' → NoStr K H' v → Q v H'
theorem ok_Lno_text (T : Txt K mg) : FnOk P w K mg base CX0 1 T.a_Lno_text T.fd_Lno_text ["_law_cell"] (sp_Lno_text K) := by
  refine T.F_Lno_text.ok sc_Lno_text (fun vs H Q E h => ?_) (fun cdv A outer s H vs Q E hr h => ?_)
  · obtain ⟨_, rfl, _⟩ := h; rfl
  · obtain ⟨c, rfl, sc, q⟩ := h
    have hu := hr.units
    refine ⟨_, (pss_cons (ps_set (i := 1) sc_Lno_text.nd rfl (Or.inl rfl) (pe_op op_mod (pe_op op_fdivW (pv 0) pe_int) (pe_powc (n := 1000000000) (by decide +kernel))))
        (pss_cons (ps_if (pt_cmpR (kb_eq K (hu := hu)) (pe_op op_mod (pv 0) pe_int) pe_int (nomark _)) (pss_one (ps_ret pe_non)) pss_nil)
        (pss_one (ps_ret (pe_ix (kb_ix K) (pe_lst (pa_cons (pv 1) (pa_cons (pe_tup (pa_cons pe_str (pa_cons pe_str pa_nil))) (pa_cons (pe_lst (pa_cons pe_str pa_nil)) pa_nil)))) (pe_op op_sub (pe_op op_mod (pv 0) pe_int) pe_int) (fun _ _ => rfl)))))), ?_⟩
    walk_at "go"
    with_reducible apply k_seqI
    walk_at "go"
    refine if_dec (fun h => ?_) (fun h => ?_)
    · walk_at "go"
      exact q _ _ (Same.refl _) (.inl rfl)
    · walk_at "go"
      rename_i p1 H1 hn1 s1 t1 p2 H2 hn2 s2 t2 p3 H3 hn3 s3 t3
      obtain ⟨z, hz, e⟩ := atI_any (P := fun v => NoStr K H3 v) (l := [.int (c / 7 % 1000000000), .ref p1, .ref p2]) (i := c % 4 - 1) (by omega) (by show c % 4 - 1 < 3; omega) (by
        intro z hz
        simp only [List.mem_cons, List.not_mem_nil, or_false] at hz
        rcases hz with rfl | rfl | rfl
        · exact .inr (.inl ⟨_, rfl⟩)
        · exact .inr (.inr (.inl ⟨_, _, rfl, SqT.of (s3 _ _ (s2 _ _ t1))⟩))
        · exact .inr (.inr (.inr ⟨_, _, rfl, s3 _ _ t2⟩)))
      refine k_ixL (SqL.of t3) e ?_
      exact q _ _ ((s1.trans s2).trans s3) hz
theorem k_Lno_text {K : PySem.W.Frag} {H : Hp} {Q : VK} {E : XK} {c : Int} (sc : Sm 1048576 c) (q : ∀ v H', Same H H' → NoStr K H' v → Q v H') : sp_Lno_text K [.int c] H Q E := ⟨c, rfl, sc, q⟩

/-! ### _law_free -/
def sp_Lfree (K : PySem.W.Frag) : Sp := fun vs H Q _ => ∃ (c : Int) (l : List Nat), vs = [.int c, .str (SX.S l)] ∧ 1 ≤ l.length ∧ l.length ≤ 100 ∧ ∀ s, SL 100 s → Q (.str s) H
theorem ok_Lfree (T : Txt K mg) : FnOk P w K mg base CX0 1 T.a_Lfree T.fd_Lfree ["_law_cell", "_law_signs"] (sp_Lfree K) := by
  refine T.F_Lfree.ok sc_Lfree (fun vs H Q E h => ?_) (fun cdv A outer s H vs Q E hr h => ?_)
  · obtain ⟨_, _, rfl, _⟩ := h; rfl
  · obtain ⟨c, l, rfl, l0, l1, q⟩ := h
    have hu := hr.units
    refine ⟨_, (pss_cons (ps_set (i := 2) sc_Lfree.nd rfl (Or.inl rfl) pe_str)
        (pss_cons (ps_set (i := 3) sc_Lfree.nd rfl (Or.inl rfl) (pe_op op_fdivW (pv 0) pe_int))
        (pss_cons (ps_for PassesOwn.never rfl (pi_range1 (by rfl) T.n_range (pa_cons (pe_op op_mod (pv 0) pe_int) pa_nil)) (pg_name (i := 4) sc_Lfree.nd rfl (Or.inl rfl)) (pss_cons (ps_set (i := 2) sc_Lfree.nd rfl (Or.inl rfl) (pe_op op_addA (pv 2) (pe_ix (kb_ix K) (pv 1) (pe_op op_mod (pv 3) (pe_callB (kb_len K) (by rfl) T.n_len (by decide +kernel) (pa_cons (pv 1) pa_nil))) (fun _ _ => rfl))))
        (pss_one (ps_set (i := 3) sc_Lfree.nd rfl (Or.inl rfl) (pe_op op_fdivW (pv 3) (pe_callB (kb_len K) (by rfl) T.n_len (by decide +kernel) (pa_cons (pv 1) pa_nil)))))))
        (pss_one (ps_ret (pv 2)))))), ?_⟩
    have n0 := Int.emod_nonneg c (show (64 : Int) ≠ 0 by decide)
    have n1 := Int.emod_lt_of_pos c (show (0 : Int) < 64 by decide)
    walk_at "go"
    with_reducible apply k_seqF
    with_reducible apply k_for
    walk_at "go"
    refine for_range (fun i σ' H' => ∃ (s : Str) (n : Int) (v : Option V), σ' = [some (.int c), some (.str (SX.S l)), some (.str s), some (.int n), v] ∧ H = H' ∧ SL i s) ⟨_, _, _, rfl, rfl, ⟨by decide⟩⟩ (fun i σ' H' hi hW => ?_) (fun σ' H' hW => ?_)
    · obtain ⟨s, n, v, rfl, rfl, hs⟩ := hW
      walk_at "go"
      rw [SX.S_len]
      have m0 := Int.emod_nonneg n (show (l.length : Int) ≠ 0 by omega)
      have m1 := Int.emod_lt_of_pos n (show 0 < (l.length : Int) by omega)
      obtain ⟨x, _, e⟩ := atI_nats m0 m1
      walk_at "go"
      refine k_ixS (by omega) e ?_
      walk_at "go"
      rw [SX.S_len]
      walk_at "go"
      exact ⟨_, _, _, rfl, rfl, hs.app SL.one⟩
    · obtain ⟨s, n, v, rfl, rfl, hs⟩ := hW
      walk_at "go"
      exact q _ (hs.mono (by omega))
theorem k_Lfree {K : PySem.W.Frag} {H : Hp} {Q : VK} {E : XK} {c : Int} {l : List Nat} (l0 : 1 ≤ l.length) (l1 : l.length ≤ 100) (q : ∀ s, SL 100 s → Q (.str s) H) : sp_Lfree K [.int c, .str (SX.S l)] H Q E := ⟨c, l, rfl, l0, l1, q⟩

/-! ### _law_written -/
def sp_Lwritten (K : PySem.W.Frag) : Sp := fun vs H Q _ => ∃ c f : Int, vs = [.int c, .int f] ∧ 0 ≤ f ∧ f ≤ 100 ∧ ∀ s, SL 12200 s → Q (.str s) H
theorem ok_Lwritten (T : Txt K mg) : FnOk P w K mg base CX0 1 T.a_Lwritten T.fd_Lwritten ["_law_cell", "_law_figures"] (sp_Lwritten K) := by
  refine T.F_Lwritten.ok sc_Lwritten (fun vs H Q E h => ?_) (fun cdv A outer s H vs Q E hr h => ?_)
  · obtain ⟨_, _, rfl, _⟩ := h; rfl
  · obtain ⟨c, f, rfl, f0, f1, q⟩ := h
    have hu := hr.units
    refine ⟨_, (pss_cons (ps_set (i := 2) sc_Lwritten.nd rfl (Or.inl rfl) pe_str)
        (pss_cons (ps_set (i := 3) sc_Lwritten.nd rfl (Or.inl rfl) (pe_op op_addA (pe_op op_mod (pv 0) pe_int) pe_int))
        (pss_cons (ps_for PassesOwn.never rfl (pi_range1 (by rfl) T.n_range (pa_cons (pv 1) pa_nil)) (pg_name (i := 4) sc_Lwritten.nd rfl (Or.inl rfl)) (pss_cons (ps_set (i := 3) sc_Lwritten.nd rfl (Or.inl rfl) (pe_op op_mod (pe_op op_addA (pe_op op_mulX (pv 3) pe_int) (pe_op op_mulX pe_int (pv 4))) pe_int))
        (pss_one (ps_set (i := 2) sc_Lwritten.nd rfl (Or.inl rfl) (pe_op op_addA (pv 2) (pe_callTy cb_str (by rfl) T.n_str (by decide +kernel) (pa_cons (pe_op op_mod (pv 3) pe_int) pa_nil)))))))
        (pss_one (ps_ret (pv 2)))))), ?_⟩
    have n0 := Int.emod_nonneg c (show (2147483647 : Int) ≠ 0 by decide)
    have n1 := Int.emod_lt_of_pos c (show (0 : Int) < 2147483647 by decide)
    walk_at "go"
    with_reducible apply k_seqF
    with_reducible apply k_for
    walk_at "go"
    refine for_range (fun i σ' H' => ∃ (s : Str) (n : Int) (v : Option V), σ' = [some (.int c), some (.int f), some (.str s), some (.int n), v] ∧ H = H' ∧ SL (122 * i) s ∧ 0 ≤ n ∧ n ≤ 2147483647) ⟨_, _, _, rfl, rfl, ⟨by decide⟩, by omega, by omega⟩ (fun i σ' H' hi hW => ?_) (fun σ' H' hW => ?_)
    · obtain ⟨s, n, v, rfl, rfl, hs, z0, z1⟩ := hW
      have hi2 : i < 100 := by omega
      walk_at "go"
      generalize hm : (n * 48271 + 7 * (0 + (i : Int))) % 2147483647 = m
      have m0 := Int.emod_nonneg (n * 48271 + 7 * (0 + (i : Int))) (show (2147483647 : Int) ≠ 0 by decide)
      have m1 := Int.emod_lt_of_pos (n * 48271 + 7 * (0 + (i : Int))) (show (0 : Int) < 2147483647 by decide)
      rw [hm] at m0 m1
      walk_at "go"
      exact ⟨_, m, _, rfl, rfl, (hs.app (SL.num (sm_mono (sm41 (by omega) (by omega)) (by decide)))).mono (by omega), by omega, by omega⟩
    · obtain ⟨s, n, v, rfl, rfl, hs, z0, z1⟩ := hW
      walk_at "go"
      exact q _ (hs.mono (by omega))
theorem k_Lwritten {K : PySem.W.Frag} {H : Hp} {Q : VK} {E : XK} {c f : Int} (f0 : 0 ≤ f) (f1 : f ≤ 100) (q : ∀ s, SL 12200 s → Q (.str s) H) : sp_Lwritten K [.int c, .int f] H Q E := ⟨c, f, rfl, f0, f1, q⟩

/-! ### _law_handed -/
def sp_Lhanded (K : PySem.W.Frag) : Sp := fun vs H Q _ => ∃ (a : Addr) (ns : List Int), vs = [.ref a] ∧ SqL K H a (ns.map V.int) ∧ (∀ z ∈ ns, Builtin.Int.intBits z ≤ 1048576) ∧ ∀ v H', Same H H' → (NoStr K H' v ∨ ∃ l : List Nat, v = .str (SX.S l) ∧ l.length ≤ 100000) → Q v H'
theorem text_of {K : PySem.W.Frag} {H : Hp} {s : Str} {n : Nat} (h : SL n s) (hn : n ≤ 100000) : NoStr K H (.str s) ∨ ∃ l : List Nat, V.str s = .str (SX.S l) ∧ l.length ≤ 100000 := by
  obtain ⟨l, rfl⟩ := str_S s
  have := h.h
  rw [SX.S_len] at this
  exact .inr ⟨l, rfl, by omega⟩
theorem ok_Lhanded (T : Txt K mg) : FnOk P w K mg base CX0 2 T.a_Lhanded T.fd_Lhanded ["_law_script"] (sp_Lhanded K) := by
  refine T.F_Lhanded.ok sc_Lhanded (fun vs H Q E h => ?_) (fun cdv A outer s H vs Q E hr h => ?_)
  · obtain ⟨_, _, rfl, _⟩ := h; rfl
  · obtain ⟨a, ns, rfl, hS, hb, q⟩ := h
    have hu := hr.units
    refine ⟨_, (pss_cons (ps_set (i := 1) sc_Lhanded.nd rfl (Or.inl rfl) (pe_op op_mod (pe_call (ok_Lcell_at T) (hr.mono (by decide)) (by rfl) T.g_Lcell_at T.F_Lcell_at.kp T.b_Lcell_at .nil pass0 (pa_cons (pv 0) (pa_cons pe_int pa_nil))) pe_int))
        (pss_cons (ps_set (i := 2) sc_Lhanded.nd rfl (Or.inl rfl) (pe_call (ok_Lcell_at T) (hr.mono (by decide)) (by rfl) T.g_Lcell_at T.F_Lcell_at.kp T.b_Lcell_at .nil pass0 (pa_cons (pv 0) (pa_cons pe_int pa_nil))))
        (pss_cons (ps_set (i := 3) sc_Lhanded.nd rfl (Or.inl rfl) (pe_call (ok_Lcell_at T) (hr.mono (by decide)) (by rfl) T.g_Lcell_at T.F_Lcell_at.kp T.b_Lcell_at .nil pass0 (pa_cons (pv 0) (pa_cons pe_int pa_nil))))
        (pss_cons (ps_set (i := 4) sc_Lhanded.nd rfl (Or.inl rfl) (pe_call (ok_Lnumber_text T) (hr.mono (by decide)) (by rfl) T.g_Lnumber_text T.F_Lnumber_text.kp T.b_Lnumber_text .nil pass0 (pa_cons (pv 2) pa_nil)))
        (pss_cons (ps_if (pt_cmpR (kb_eq K (hu := hu)) (pv 1) pe_int (nomark _)) (pss_cons (ps_set (i := 5) sc_Lhanded.nd rfl (Or.inl rfl) (pe_op op_mod (pv 3) (pe_op op_addA (pe_callB (kb_len K) (by rfl) T.n_len (by decide +kernel) (pa_cons (pv 4) pa_nil)) pe_int)))
        (pss_cons (ps_set (i := 6) sc_Lhanded.nd rfl (Or.inl rfl) (pe_ix (kb_ix K) pe_str (pe_op op_mod (pe_op op_fdivW (pv 3) pe_int) pe_int) (fun _ _ => rfl)))
        (pss_one (ps_set (i := 4) sc_Lhanded.nd rfl (Or.inl rfl) (pe_op op_addA (pe_op op_addA (pe_slice sl_str (pv 4) po_none (po_some (pv 5))) (pv 6)) (pe_slice sl_str (pv 4) (po_some (pv 5)) po_none)))))) pss_nil)
        (pss_cons (ps_if (pt_cmpR (kb_eq K (hu := hu)) (pv 1) pe_int (nomark _)) (pss_cons (ps_set (i := 5) sc_Lhanded.nd rfl (Or.inl rfl) (pe_op op_mod (pv 3) (pe_callB (kb_len K) (by rfl) T.n_len (by decide +kernel) (pa_cons (pv 4) pa_nil))))
        (pss_one (ps_set (i := 4) sc_Lhanded.nd rfl (Or.inl rfl) (pe_op op_addA (pe_slice sl_str (pv 4) po_none (po_some (pv 5))) (pe_slice sl_str (pv 4) (po_some (pe_op op_addA (pv 5) pe_int)) po_none))))) pss_nil)
        (pss_cons (ps_if (pt_cmpR (kb_eq K (hu := hu)) (pv 1) pe_int (nomark _)) (pss_one (ps_set (i := 4) sc_Lhanded.nd rfl (Or.inl rfl) (pe_call (ok_Lodd T) (hr.mono (by decide)) (by rfl) T.g_Lodd T.F_Lodd.kp T.b_Lodd .nil pass0 (pa_cons (pv 3) pa_nil)))) pss_nil)
        (pss_cons (ps_if (pt_cmpR (kb_eq K (hu := hu)) (pv 1) pe_int (nomark _)) (pss_one (ps_set (i := 4) sc_Lhanded.nd rfl (Or.inl rfl) (pe_op op_addA (pe_op op_addA (pe_ix (kb_ix K) (pe_lst (pa_cons pe_str (pa_cons pe_str pa_nil))) (pe_op op_mod (pv 3) pe_int) (fun _ _ => rfl)) (pe_ix (kb_ix K) (pe_lst (pa_cons pe_str (pa_cons pe_str (pa_cons pe_str pa_nil)))) (pe_op op_mod (pe_op op_fdivW (pv 3) pe_int) pe_int) (fun _ _ => rfl))) (pe_call (ok_Lwritten T) (hr.mono (by decide)) (by rfl) T.g_Lwritten T.F_Lwritten.kp T.b_Lwritten .nil pass0 (pa_cons (pv 2) (pa_cons (pe_op op_addA pe_int (pe_op op_mod (pe_op op_fdivW (pv 3) pe_int) pe_int)) pa_nil)))))) pss_nil)
        (pss_cons (ps_if (pt_cmpR (kb_eq K (hu := hu)) (pv 1) pe_int (nomark _)) (pss_one (ps_set (i := 4) sc_Lhanded.nd rfl (Or.inl rfl) (pe_op op_addA (pe_op op_addA (pe_ix (kb_ix K) (pe_lst (pa_cons pe_str (pa_cons pe_str pa_nil))) (pe_op op_mod (pv 3) pe_int) (fun _ _ => rfl)) (pe_op op_mulS pe_str (pe_op op_addA pe_int (pe_op op_mod (pe_op op_fdivW (pv 3) pe_int) pe_int)))) (pv 4)))) pss_nil)
        (pss_cons (ps_if (pt_cmpR (kb_eq K (hu := hu)) (pv 1) pe_int (nomark _)) (pss_one (ps_ret (pe_call (ok_Lno_text T) (hr.mono (by decide)) (by rfl) T.g_Lno_text T.F_Lno_text.kp T.b_Lno_text .nil pass0 (pa_cons (pv 3) pa_nil)))) pss_nil)
        (pss_cons (ps_if (pt_cmpR (kb_eq K (hu := hu)) (pv 1) pe_int (nomark _)) (pss_one (ps_ret (pe_call (ok_Lfree T) (hr.mono (by decide)) (by rfl) T.g_Lfree T.F_Lfree.kp T.b_Lfree .nil pass0 (pa_cons (pv 3) (pa_cons (pe_ix (kb_ix K) (pe_lst (pa_cons pe_str (pa_cons pe_str (pa_cons pe_str pa_nil)))) (pe_op op_mod (pv 2) pe_int) (fun _ _ => rfl)) pa_nil))))) pss_nil)
        (pss_one (ps_ret (pv 4)))))))))))))), ?_⟩
    walk_at "go"
    rename_i c0 _ sc0 c1 _ sc1 c2 _ sc2
    generalize hw : c0 % 8 = w
    refine k_Lnumber_text sc1 fun s1 H1 e1 sl1 sp1 => ?_
    walk_at "go"
    -- a sign put in
    with_reducible refine k_cutI (fun σ' H' => ∃ (s : Str) (v1 v2 : Option V), σ' = [some (.ref a), some (.int w), some (.int c1), some (.int c2), some (.str s), v1, v2] ∧ H1 = H' ∧ SL 300 s ∧ (w ≠ 1 → 1 ≤ s.length)) (fun N hN => ?_) ?_
    · walk_at "go"
      refine if_dec (fun h => ?_) (fun h => ?_)
      · walk_at "go"
        have hl := sl1.h
        have m0 := Int.emod_nonneg c2 (show ((s1.length : Nat) : Int) + 1 ≠ 0 by omega)
        have m1 := Int.emod_lt_of_pos c2 (show 0 < ((s1.length : Nat) : Int) + 1 by omega)
        have hl7 : s1.length ≤ 10000000 := by omega
        walk_at "go"
        obtain ⟨x, _, e⟩ := atI_nats (l := ("0123456789-+ /,._aE\n" : Str).cps.toList) (i := c2 / 7 % 20) (by omega) (by show c2 / 7 % 20 < ((("0123456789-+ /,._aE\n" : Str).cps.toList.length : Nat) : Int); rw [show ("0123456789-+ /,._aE\n" : Str).cps.toList.length = 20 by decide +kernel]; omega)
        refine k_ixS (l := ("0123456789-+ /,._aE\n" : Str).cps.toList) (by decide +kernel) e ?_
        walk_at "go"
        exact hN _ _ ⟨_, _, _, rfl, rfl, ((sl1.cut.app SL.one).app sl1.cut).mono (by decide), fun z => absurd h z⟩
      · walk_at "go"
        exact hN _ _ ⟨_, _, _, rfl, rfl, sl1.mono (by decide), fun _ => sp1⟩
    rintro _ _ ⟨s2, v1, v2, rfl, rfl, sl2, sp2⟩
    walk_at "go"
    -- a sign left out
    with_reducible refine k_cutI (fun σ' H' => ∃ (s : Str) (v1 v2 : Option V), σ' = [some (.ref a), some (.int w), some (.int c1), some (.int c2), some (.str s), v1, v2] ∧ H1 = H' ∧ SL 600 s) (fun N hN => ?_) ?_
    · walk_at "go"
      refine if_dec (fun h => ?_) (fun h => ?_)
      · have sp := sp2 (by omega)
        have hl := sl2.h
        have hl7 : s2.length ≤ 10000000 := by omega
        walk_at "go"
        have m0 := Int.emod_nonneg c2 (show ((s2.length : Nat) : Int) ≠ 0 by omega)
        have m1 := Int.emod_lt_of_pos c2 (show 0 < ((s2.length : Nat) : Int) by omega)
        walk_at "go"
        exact hN _ _ ⟨_, _, _, rfl, rfl, (sl2.cut.app sl2.cut).mono (by decide)⟩
      · walk_at "go"
        exact hN _ _ ⟨_, _, _, rfl, rfl, sl2.mono (by decide)⟩
    rintro _ _ ⟨s3, v3, v4, rfl, rfl, sl3⟩
    walk_at "go"
    with_reducible refine k_cutI (fun σ' H' => ∃ (s : Str) (v1 v2 : Option V), σ' = [some (.ref a), some (.int w), some (.int c1), some (.int c2), some (.str s), v1, v2] ∧ Same H1 H' ∧ SL 600 s) (fun N hN => ?_) ?_
    · walk_at "go"
      refine if_dec (fun h => ?_) (fun h => ?_)
      · walk_at "go"
        refine k_Lodd fun s H2 e2 sl => ?_
        walk_at "go"
        exact hN _ _ ⟨_, _, _, rfl, e2, sl.mono (by decide)⟩
      · walk_at "go"
        exact hN _ _ ⟨_, _, _, rfl, Same.refl _, sl3⟩
    rintro _ H2 ⟨s4, v5, v6, rfl, e2, sl4⟩
    walk_at "go"
    with_reducible refine k_cutI (fun σ' H' => ∃ (s : Str) (v1 v2 : Option V), σ' = [some (.ref a), some (.int w), some (.int c1), some (.int c2), some (.str s), v1, v2] ∧ Same H2 H' ∧ SL 13000 s) (fun N hN => ?_) ?_
    · walk_at "go"
      refine if_dec (fun h => ?_) (fun h => ?_)
      · walk_at "go"
        rename_i p1 H3 hn3 e3 t3
        obtain ⟨x1, hx1, a1⟩ := atI_str (l := [.str "", .str "-"]) (i := c2 % 2) (by decide +kernel) (by omega) (by show c2 % 2 < 2; omega)
        refine k_ixL (SqL.of t3) a1 ?_
        walk_at "go"
        rename_i p2 H4 hn4 e4 t4
        obtain ⟨x2, hx2, a2⟩ := atI_str (l := [.str "1", .str "9", .str "0"]) (i := c2 / 2 % 3) (by decide +kernel) (by omega) (by show c2 / 2 % 3 < 3; omega)
        refine k_ixL (SqL.of t4) a2 ?_
        walk_at "go"
        refine k_Lwritten (by omega) (by omega) fun s sl => ?_
        walk_at "go"
        exact hN _ _ ⟨_, _, _, rfl, e3.trans e4, ((hx1.app hx2).app sl).mono (by decide)⟩
      · walk_at "go"
        exact hN _ _ ⟨_, _, _, rfl, Same.refl _, sl4.mono (by decide)⟩
    rintro _ H3 ⟨s5, v7, v8, rfl, e3, sl5⟩
    walk_at "go"
    with_reducible refine k_cutI (fun σ' H' => ∃ (s : Str) (v1 v2 : Option V), σ' = [some (.ref a), some (.int w), some (.int c1), some (.int c2), some (.str s), v1, v2] ∧ Same H3 H' ∧ SL 14000 s) (fun N hN => ?_) ?_
    · walk_at "go"
      refine if_dec (fun h => ?_) (fun h => ?_)
      · walk_at "go"
        rename_i p1 H4 hn4 e4 t4
        obtain ⟨x1, hx1, a1⟩ := atI_str (l := [.str "", .str "-"]) (i := c2 % 2) (by decide +kernel) (by omega) (by show c2 % 2 < 2; omega)
        refine k_ixL (SqL.of t4) a1 ?_
        walk_at "go"
        refine k_mulS (by omega) (by omega) fun x2 hx2 => ?_
        walk_at "go"
        exact hN _ _ ⟨_, _, _, rfl, e4, ((hx1.app hx2).app sl5).mono (by decide)⟩
      · walk_at "go"
        exact hN _ _ ⟨_, _, _, rfl, Same.refl _, sl5.mono (by decide)⟩
    rintro _ H4 ⟨s6, v9, v10, rfl, e4, sl6⟩
    have e5 := ((e1.trans e2).trans e3).trans e4
    walk_at "go"
    with_reducible apply k_seqI
    walk_at "go"
    refine if_dec (fun h => ?_) (fun h => ?_)
    · walk_at "go"
      refine k_Lno_text sc2 fun v H5 e6 hn => ?_
      exact q v H5 (e5.trans e6) (.inl hn)
    walk_at "go"
    with_reducible apply k_seqI
    walk_at "go"
    refine if_dec (fun h => ?_) (fun h => ?_)
    · walk_at "go"
      rename_i p1 H5 hn5 e6 t5
      obtain ⟨_, ⟨l, rfl, l0, l1⟩, a1⟩ := atI_any (P := fun v => ∃ l : List Nat, v = .str (SX.S l) ∧ 1 ≤ l.length ∧ l.length ≤ 100) (l := [.str "0123456789", .str "0123456789-", .str "0123456789- +,_"]) (i := c1 % 3) (by omega) (by show c1 % 3 < 3; omega) (by
        intro z hz
        simp only [List.mem_cons, List.not_mem_nil, or_false] at hz
        rcases hz with rfl | rfl | rfl
        · exact ⟨("0123456789" : Str).cps.toList, rfl, by decide +kernel, by decide +kernel⟩
        · exact ⟨("0123456789-" : Str).cps.toList, rfl, by decide +kernel, by decide +kernel⟩
        · exact ⟨("0123456789- +,_" : Str).cps.toList, rfl, by decide +kernel, by decide +kernel⟩)
      refine k_ixL (SqL.of t5) a1 ?_
      walk_at "go"
      refine k_Lfree l0 l1 fun s sl => ?_
      exact q _ _ (e5.trans e6) (text_of sl (by decide))
    · walk_at "go"
      exact q _ _ e5 (text_of sl6 (by decide))
theorem k_Lhanded {K : PySem.W.Frag} {H : Hp} {Q : VK} {E : XK} {a : Addr} {ns : List Int} (hS : SqL K H a (ns.map V.int)) (hb : ∀ z ∈ ns, Builtin.Int.intBits z ≤ 1048576) (q : ∀ v H', Same H H' → (NoStr K H' v ∨ ∃ l : List Nat, v = .str (SX.S l) ∧ l.length ≤ 100000) → Q v H') : sp_Lhanded K [.ref a] H Q E := ⟨a, ns, rfl, hS, hb, q⟩

/-! ### _law_due -/
theorem cut1_minus (l : List Nat) : decide (cutS (SX.S l) none (some 1) = ("-" : Str)) = decide (l.head? = some 45) := by
  rw [show (some (1 : Int)) = some ((1 : Nat) : Int) from rfl, cut_to, lit_minus, dec_S]
  cases l with
  | nil => rfl
  | cons c r => simp
theorem unS_eq (l : List Nat) : unS l = l ↔ l.head? ≠ some 45 := by
  rcases unS_cases l with ⟨h, e⟩ | ⟨h, e⟩
  · refine ⟨fun z => ?_, fun z => absurd h z⟩
    have : l.length = (45 :: unS l).length := congrArg List.length e
    rw [z, List.length_cons] at this; omega
  · exact ⟨fun _ => h, fun _ => e⟩
def sp_Ldue (K : PySem.W.Frag) : Sp := fun vs H Q _ => ∃ v, vs = [v] ∧ ((NoStr K H v ∧ Q .non H) ∨ ∃ l, v = .str (SX.S l) ∧ l.length ≤ 1000000 ∧ (goodN l = true → Q (.int (numN l)) H) ∧ (goodN l = false → Q .non H))
theorem ok_Ldue (T : Txt K mg) : FnOk P w K mg base CX0 1 T.a_Ldue T.fd_Ldue ["_law_text"] (sp_Ldue K) := by
  refine T.F_Ldue.ok sc_Ldue (fun vs H Q E h => ?_) (fun cdv A outer s H vs Q E hr h => ?_)
  · obtain ⟨_, rfl, _⟩ := h; rfl
  · obtain ⟨v, rfl, h⟩ := h
    have hu := hr.units
    refine ⟨_, (pss_cons (ps_if (pt_not (pt_val (pe_callB (kb_isi K) (by rfl) T.n_isinstance (by decide +kernel) (pa_cons (pv 0) (pa_cons (pe_bltn (v := .ty "str") (by rfl) T.n_str (by decide +kernel) rfl) pa_nil))))) (pss_one (ps_ret pe_non)) pss_nil)
        (pss_cons (ps_set (i := 1) sc_Ldue.nd rfl (Or.inl rfl) (pv 0))
        (pss_cons (ps_if (pt_cmpR (kb_eq K (hu := hu)) (pe_slice sl_str (pv 0) po_none (po_some pe_int)) pe_str (nomark _)) (pss_one (ps_set (i := 1) sc_Ldue.nd rfl (Or.inl rfl) (pe_slice sl_str (pv 0) (po_some pe_int) po_none))) pss_nil)
        (pss_cons (ps_if (PW.pt (pw_or (pt_cmpR op_lt (pe_callB (kb_len K) (by rfl) T.n_len (by decide +kernel) (pa_cons (pv 1) pa_nil)) pe_int (nomark _)) (pw_or1 (pt_cmpR op_gt (pe_callB (kb_len K) (by rfl) T.n_len (by decide +kernel) (pa_cons (pv 1) pa_nil)) pe_int (nomark _))))) (pss_one (ps_ret pe_non)) pss_nil)
        (pss_cons (ps_for PassesOwn.never rfl (pi_str (pv 1)) (pg_name (i := 2) sc_Ldue.nd rfl (Or.inl rfl)) (pss_one (ps_if (pt_cmpR kb_nsgn (pv 2) pe_str (by rfl)) (pss_one (ps_ret pe_non)) pss_nil)))
        (pss_cons (ps_if (PW.pt (pw_and (pt_cmpR (kb_eq K (hu := hu)) (pe_ix (kb_ix K) (pv 1) pe_int (fun _ _ => rfl)) pe_str (nomark _)) (pw_and1 (pt_cmpR (kb_ne K (hu := hu)) (pv 0) pe_str (nomark _))))) (pss_one (ps_ret pe_non)) pss_nil)
        (pss_cons (ps_set (i := 3) sc_Ldue.nd rfl (Or.inl rfl) pe_int)
        (pss_cons (ps_for PassesOwn.never rfl (pi_str (pv 1)) (pg_name (i := 2) sc_Ldue.nd rfl (Or.inl rfl)) (pss_one (ps_set (i := 3) sc_Ldue.nd rfl (Or.inl rfl) (pe_op op_addA (pe_op op_mulX pe_int (pv 3)) (pe_m1 PySem.F.slot_str_index PySem.F.type_str_index mt_sidx pe_str (pv 2))))))
        (pss_cons (ps_if (pt_cmpR (kb_ne K (hu := hu)) (pv 1) (pv 0) (nomark _)) (pss_one (ps_ret (pe_un un_neg (pv 3)))) pss_nil)
        (pss_one (ps_ret (pv 3)))))))))))), ?_⟩
    rcases h with ⟨hn, q⟩ | ⟨l, rfl, hl, q1, q0⟩
    · with_reducible apply k_seqI
      walk_at "go"
      exact q
    · have hl7 : (SX.S l).length ≤ 10000000 := by rw [SX.S_len]; omega
      with_reducible apply k_seqI
      walk_at "go"
      with_reducible refine k_cutI (fun σ' H' => H = H' ∧ σ' = [some (.str (SX.S l)), some (.str (SX.S (unS l))), none, none]) (fun N hN => ?_) ?_
      · walk_at "go"
        rw [cut1_minus]
        refine if_dec (fun h => ?_) (fun h => ?_)
        · walk_at "go"
          refine hN _ _ ⟨rfl, ?_⟩
          have e : cutS (SX.S l) (some 1) none = SX.S (unS l) := by
            unfold unS
            rw [if_pos h, ← List.drop_one]
            exact cut_from l 1
          rw [← e]; rfl
        · walk_at "go"
          refine hN _ _ ⟨rfl, ?_⟩
          have e : unS l = l := by unfold unS; rw [if_neg h]
          rw [e]; rfl
      rintro σ1 _ ⟨rfl, rfl⟩
      have hul : (unS l).length ≤ 1000000 := by
        rcases unS_cases l with ⟨_, e⟩ | ⟨_, e⟩
        · have : l.length = (45 :: unS l).length := congrArg List.length e
          rw [List.length_cons] at this; omega
        · rw [e]; exact hl
      have hu7 : (SX.S (unS l)).length ≤ 10000000 := by rw [SX.S_len]; omega
      with_reducible apply k_seqI
      refine or_split (¬ (1 ≤ (unS l).length ∧ (unS l).length ≤ 60)) (fun hb => ?_) (fun hg => ?_) fun R' h1 h2 => ?_
      · walk_at "go"
        refine q0 ?_
        unfold goodN figs
        by_cases g1 : 1 ≤ (unS l).length
        · rw [decide_eq_true g1, decide_eq_false (show ¬ (unS l).length ≤ 60 by omega)]; rfl
        · rw [decide_eq_false g1]; rfl
      · obtain ⟨g1, g2⟩ := Classical.not_not.mp hg
        have hh : (unS l).head? = some ((unS l).headD 0) := by cases h : unS l with
          | nil => rw [h] at g1; simp at g1
          | cons c r => rfl
        walk_at "go"
        with_reducible apply k_seqF
        with_reducible apply k_for
        walk_at "go"
        refine for_str (fun i σ' H' => ∃ v1 : Option V, σ' = [some (.str (SX.S l)), some (.str (SX.S (unS l))), v1, none] ∧ H = H' ∧ ∀ j c, j < i → (unS l)[j]? = some c → dig c = true) ⟨_, rfl, rfl, fun j c h => by omega⟩ (fun i c σ' H' hc hW => ?_) (fun σ' H' hW => ?_)
        · obtain ⟨v1, rfl, rfl, hd⟩ := hW
          walk_at "go"
          with_reducible apply k_if
          walk_at "go"
          rw [fig_mem]
          cases hdc : dig c with
          | false =>
            walk_at "run"
            refine q0 ?_
            have : (unS l).all dig = false := by
              rw [List.all_eq_false]
              exact ⟨c, List.mem_of_getElem? hc, by rw [hdc]; decide⟩
            unfold goodN figs
            rw [this, Bool.and_false]; rfl
          | true =>
            walk_at "run"
            refine ⟨_, rfl, rfl, fun j x hj hx => ?_⟩
            by_cases e : j = i
            · subst e; rw [hc] at hx; cases hx; exact hdc
            · exact hd j x (by omega) hx
        · obtain ⟨v1, rfl, rfl, hd⟩ := hW
          have hall : (unS l).all dig = true := by
            rw [List.all_eq_true]
            intro c hc
            obtain ⟨j, hj⟩ := List.mem_iff_getElem?.mp hc
            exact hd j c (List.getElem?_eq_some_iff.mp hj).1 hj
          have hf : figs (unS l) = true := by
            unfold figs
            rw [decide_eq_true g1, decide_eq_true g2, hall]; rfl
          have hgd : ∀ b : Bool, b = (decide ((unS l).head? = some 48) && !decide (l = [48])) → goodN l = !b := fun b e => by unfold goodN; rw [hf, e]; rfl
          walk_at "go"
          with_reducible apply k_seqI
          refine and_split ((unS l).head? = some 48 ∧ l ≠ [48]) (fun h => ?_) (fun h => ?_) fun R' h1 h2 => ?_
          · walk_at "go"
            exact q0 (by rw [hgd true (by rw [decide_eq_true h.1, decide_eq_false h.2]; rfl)]; rfl)
          · have hgood : goodN l = true := by
              rw [hgd false ?_]; · rfl
              by_cases a1 : (unS l).head? = some 48
              · have a2 : l = [48] := Classical.not_not.mp fun z => h ⟨a1, z⟩
                rw [decide_eq_true a2, Bool.not_true, Bool.and_false]
              · rw [decide_eq_false a1]; rfl
            have q1 := q1 hgood
            walk_at "go"
            with_reducible apply k_seqF
            with_reducible apply k_for
            walk_at "go"
            refine for_str (fun i σ' H' => ∃ v1 : Option V, σ' = [some (.str (SX.S l)), some (.str (SX.S (unS l))), v1, some (.int ((valF ((unS l).take i) : Nat) : Int))] ∧ H = H') ⟨_, rfl, rfl⟩ (fun i c σ' H' hc hW => ?_) (fun σ' H' hW => ?_)
            · obtain ⟨v2, rfl, rfl⟩ := hW
              have hi := (List.getElem?_eq_some_iff.mp hc).1
              have hdc : dig c = true := List.all_eq_true.mp hall c (List.mem_of_getElem? hc)
              have hd2 := dig_iff.mp hdc
              have hsv : Sm 200 ((valF ((unS l).take i) : Nat) : Int) := sm_valF (List.all_eq_true.mpr fun c hc => List.all_eq_true.mp hall c (List.mem_of_mem_take hc)) (by rw [List.length_take]; omega)
              walk_at "go"
              refine k_sidx (index_fig hdc) ?_
              walk_at "go"
              refine ⟨some (.str (SX.S [c])), ?_, rfl⟩
              rw [List.take_succ, hc, show (some c).toList = [c] from rfl, valF_snoc]
              rw [show 10 * ((valF ((unS l).take i) : Nat) : Int) + ((c - 48 : Nat) : Int) = ((valF ((unS l).take i) * 10 + (c - 48) : Nat) : Int) by omega]
              rfl
            · obtain ⟨v2, rfl, rfl⟩ := hW
              rw [List.take_of_length_le (Nat.le_refl _)]
              walk_at "go"
              with_reducible apply k_seqI
              walk_at "go"
              rw [dec_S]
              unfold numN at q1
              refine if_ndec (fun h => ?_) (fun h => ?_)
              · walk_at "go"
                rw [if_pos (Classical.not_not.mp fun z => h ((unS_eq l).mpr z))] at q1
                exact q1
              · walk_at "go"
                rw [if_neg ((unS_eq l).mp h)] at q1
                exact q1
          · walk_at "go"
            refine k_ixS (i := 0) (by omega) (head_of (c := 0) g1) ?_
            walk_at "go"
            rw [lit_0, dec_S]
            refine if_dec (fun a1 => ?_) (fun a1 => h2 fun z => a1 (by have := z.1; rw [hh] at this; rw [Option.some.inj this]))
            walk_at "go"
            rw [dec_S]
            exact dec_twoN (R := fun b => R' b H) (fun a2 => h2 fun z => z.2 a2) (fun a2 => h1 ⟨by rw [hh, (List.cons.inj a1).1], a2⟩)
      · walk_at "go"
        rw [SX.S_len]
        refine if_dec (fun h => h1 fun g => by omega) (fun h => ?_)
        walk_at "go"
        rw [SX.S_len]
        exact dec_two (R := fun b => R' b H) (fun h => h1 fun g => by omega) (fun h' => h2 fun g => g ⟨by omega, by omega⟩)
theorem k_Ldue {K : PySem.W.Frag} {H : Hp} {Q : VK} {E : XK} {l : List Nat} (hl : l.length ≤ 1000000) (q1 : goodN l = true → Q (.int (numN l)) H) (q0 : goodN l = false → Q .non H) : sp_Ldue K [.str (SX.S l)] H Q E := ⟨_, rfl, .inr ⟨l, rfl, hl, q1, q0⟩⟩
theorem k_Ldue0 {K : PySem.W.Frag} {H : Hp} {Q : VK} {E : XK} {v : V} (hn : NoStr K H v) (q0 : Q .non H) : sp_Ldue K [v] H Q E := ⟨_, rfl, .inl ⟨hn, q0⟩⟩

/-! ### are_figures -/
def sp_are_figures (K : PySem.W.Frag) : Sp := fun vs H Q _ => ∃ l : List Nat, vs = [.str (SX.S l)] ∧ l.length ≤ 1000000 ∧ ∀ H', Same H H' → Q (.bl (figs l)) H'
theorem ok_are_figures (T : Txt K mg) : FnOk P w K mg base CX0 1 T.a_are_figures T.fd_are_figures ["text"] (sp_are_figures K) := by
  refine T.F_are_figures.ok sc_are_figures (fun vs H Q E h => ?_) (fun cdv A outer s H vs Q E hr h => ?_)
  · obtain ⟨_, rfl, _⟩ := h; rfl
  · obtain ⟨l, rfl, hl, q⟩ := h
    have hu := hr.units
    have hl7 : (SX.S l).length ≤ 10000000 := by rw [SX.S_len]; omega
    have ef : ∀ b : Bool, b = figs l → ∀ H', Same H H' → Q (.bl b) H' := fun b e H' s => by rw [e]; exact q H' s
    clear q
    refine ⟨_, (pss_cons (ps_if (PW.pt (pw_or (pt_cmpR op_lt (pe_callB (kb_len K) (by rfl) T.n_len (by decide +kernel) (pa_cons (pv 0) pa_nil)) pe_int (nomark _)) (pw_or1 (pt_cmpR op_gt (pe_callB (kb_len K) (by rfl) T.n_len (by decide +kernel) (pa_cons (pv 0) pa_nil)) (pe_glob (v := (.int 60)) rfl T.c_MOST_FIGURES ⟨_, rfl⟩) (nomark _))))) (pss_one (ps_ret pe_bl)) pss_nil)
        (pss_one (ps_ret (pe_callB (kb_all K (hc := rfl)) (by rfl) T.n_all (by decide +kernel) (pa_cons (pe_lc (own := [("sign", 1)]) (g := gName 1) (tt := tYes) rfl sc_are_figures.nd (pi_str (pv 0)) (blkOk_by (N := ["text", "sign"]) (sc := defScope s_are_figures) (by decide +kernel)) (fun _ _ _ _ _ => pg_name (i := 1) sc_are_figures.nd rfl (Or.inl rfl)) (fun _ _ _ _ _ => pts_nil) (fun _ _ _ _ _ => (pe_cmpR kb_sgn (pv 1) (pe_glob (v := (.str "0123456789")) rfl T.c_FIGURES ⟨_, rfl⟩) (by rfl)))) pa_nil))))), ?_⟩
    with_reducible apply k_seqI
    refine or_split (¬ (1 ≤ l.length ∧ l.length ≤ 60)) (fun hb => ?_) (fun hg => ?_) fun R' h1 h2 => ?_
    · walk_at "go"
      refine ef _ ?_ _ (Same.refl _)
      unfold figs
      by_cases g1 : 1 ≤ l.length
      · rw [decide_eq_true g1, decide_eq_false (show ¬ l.length ≤ 60 by omega)]; rfl
      · rw [decide_eq_false g1]; rfl
    · obtain ⟨g1, g2⟩ := Classical.not_not.mp hg
      walk_at "go"
      refine k_lcs ((l.map dig).map V.bl) (by simp) (by omega) (fun i c v H2 R hc hv s2 hR => ?_) fun D H2 hD s2 t2 => ?_
      · rw [List.getElem?_map, List.getElem?_map, hc] at hv
        cases hv
        walk_at "go"
        rw [fig_mem]
        exact hR _ (Same.refl _)
      · walk_at "go"
        refine k_all (SqL.of t2) (ef _ ?_ _ s2)
        unfold figs
        rw [decide_eq_true g1, decide_eq_true g2, List.all_map]; rfl
    · walk_at "go"
      rw [SX.S_len]
      refine if_dec (fun h => h1 fun g => by omega) (fun h => ?_)
      walk_at "go"
      rw [SX.S_len]
      exact dec_two (R := fun b => R' b H) (fun h => h1 fun g => by omega) (fun h' => h2 fun g => g ⟨by omega, by omega⟩)
theorem k_are_figures {K : PySem.W.Frag} {H : Hp} {Q : VK} {E : XK} {l : List Nat} (hl : l.length ≤ 1000000) (q : ∀ H', Same H H' → Q (.bl (figs l)) H') : sp_are_figures K [.str (SX.S l)] H Q E := ⟨l, rfl, hl, q⟩

/-! ### read_number -/
def sp_read_number (K : PySem.W.Frag) (T : Txt K mg) : Sp := fun vs H Q E => ∃ v, vs = [v] ∧ ((NoStr K H v ∧ ∀ H', Same H H' → E (.ref T.C_NoText) none H') ∨ ∃ l, v = .str (SX.S l) ∧ l.length ≤ 1000000 ∧ (goodN l = true → ∀ H', Same H H' → Q (.int (numN l)) H') ∧ (goodN l = false → ∀ H', Same H H' → E (.ref T.C_NoText) none H'))
theorem ok_read_number (T : Txt K mg) : FnOk P w K mg base (L2.CX P w) 2 T.a_read_number T.fd_read_number ["text"] (sp_read_number K T) := by
  refine T.F_read_number.okX sc_read_number (fun vs H Q E h => ?_) (fun cdv A outer s H vs Q E hr h => ?_)
  · obtain ⟨_, rfl, _⟩ := h; rfl
  · obtain ⟨v, rfl, h⟩ := h
    have hu := hr.units
    refine ⟨_, (pss_cons (ps_if (pt_not (pt_val (pe_callB (kb_isi K) (by rfl) T.n_isinstance (by decide +kernel) (pa_cons (pv 0) (pa_cons (pe_bltn (v := .ty "str") (by rfl) T.n_str (by decide +kernel) rfl) pa_nil))))) (pss_one (ps_raise rfl (takes_of rfl rfl rfl rfl) (pmk_own PySem.F.excBase_ValueError T.x_NoText T.gc_NoText T.kc_NoText (raises_own T.bc_NoText T.tc_NoText) rfl))) pss_nil)
        (pss_cons (ps_set (i := 1) sc_read_number.nd rfl (Or.inl rfl) (pv 0))
        (pss_cons (ps_if (pt_val (pe_m1 PySem.F.slot_str_startswith PySem.F.type_str_startswith mt_starts (pv 0) pe_str)) (pss_one (ps_set (i := 1) sc_read_number.nd rfl (Or.inl rfl) (pe_slice sl_str (pv 0) (po_some pe_int) po_none))) pss_nil)
        (pss_cons (ps_if (pt_not (pt_val (pe_call (ok_are_figures T) (hr.mono (by decide)) (by rfl) T.g_are_figures T.F_are_figures.kp T.b_are_figures .nil pass0 (pa_cons (pv 1) pa_nil)))) (pss_one (ps_raise rfl (takes_of rfl rfl rfl rfl) (pmk_own PySem.F.excBase_ValueError T.x_NoText T.gc_NoText T.kc_NoText (raises_own T.bc_NoText T.tc_NoText) rfl))) pss_nil)
        (pss_cons (ps_if (PW.pt (pw_and (pt_cmpR (kb_eq K (hu := hu)) (pe_ix (kb_ix K) (pv 1) pe_int (fun _ _ => rfl)) pe_str (nomark _)) (pw_and1 (pt_cmpR (kb_ne K (hu := hu)) (pv 0) pe_str (nomark _))))) (pss_one (ps_raise rfl (takes_of rfl rfl rfl rfl) (pmk_own PySem.F.excBase_ValueError T.x_NoText T.gc_NoText T.kc_NoText (raises_own T.bc_NoText T.tc_NoText) rfl))) pss_nil)
        (PSs.nox (pss_one (ps_ret (pe_callTy cb_intT (by rfl) T.n_int (by decide +kernel) (pa_cons (pv 0) pa_nil)))))))))), ?_⟩
    rcases h with ⟨hn, q⟩ | ⟨l, rfl, hl, q1, q0⟩
    · with_reducible apply k_seqI
      walk_at "go"
      exact q _ (Same.refl _)
    · have hl7 : (SX.S l).length ≤ 10000000 := by rw [SX.S_len]; omega
      with_reducible apply k_seqI
      walk_at "go"
      with_reducible refine k_cutI (fun σ' H' => H = H' ∧ σ' = [some (.str (SX.S l)), some (.str (SX.S (unS l)))]) (fun N hN => ?_) ?_
      · walk_at "go"
        rw [starts_minus]
        refine if_dec (fun h => ?_) (fun h => ?_)
        · walk_at "go"
          refine hN _ _ ⟨rfl, ?_⟩
          have e : cutS (SX.S l) (some 1) none = SX.S (unS l) := by
            unfold unS
            rw [if_pos h, ← List.drop_one]
            exact cut_from l 1
          rw [← e]; rfl
        · walk_at "go"
          refine hN _ _ ⟨rfl, ?_⟩
          have e : unS l = l := by unfold unS; rw [if_neg h]
          rw [e]; rfl
      rintro σ1 _ ⟨rfl, rfl⟩
      have hul : (unS l).length ≤ 1000000 := by
        rcases unS_cases l with ⟨_, e⟩ | ⟨_, e⟩
        · have : l.length = (45 :: unS l).length := congrArg List.length e
          rw [List.length_cons] at this; omega
        · rw [e]; exact hl
      with_reducible apply k_seqI
      walk_at "go"
      refine k_are_figures hul fun H1 s1 => ?_
      walk_at "go"
      cases hf : figs (unS l) with
      | false =>
        walk_at "run"
        exact q0 (by unfold goodN; rw [hf]; rfl) _ s1
      | true =>
        obtain ⟨f1, f2, f3⟩ := figs_all hf
        have hg : ∀ b : Bool, b = (decide ((unS l).head? = some 48) && !decide (l = [48])) → goodN l = !b := fun b e => by unfold goodN; rw [hf, e]; rfl
        have hh : (unS l).head? = some ((unS l).headD 0) := by cases h : unS l with
          | nil => rw [h] at f1; simp at f1
          | cons c r => rfl
        walk_at "go"
        with_reducible apply k_seqI
        refine and_split ((unS l).head? = some 48 ∧ l ≠ [48]) (fun h => ?_) (fun h => ?_) fun R' h1 h2 => ?_
        · walk_at "go"
          exact q0 (by rw [hg true (by rw [decide_eq_true h.1, decide_eq_false h.2]; rfl)]; rfl) _ s1
        · walk_at "go"
          obtain ⟨i1, i2⟩ := int_good hf
          refine k_intT i1 i2 ?_
          walk_at "go"
          refine q1 ?_ _ s1
          rw [hg false ?_]; · rfl
          by_cases a1 : (unS l).head? = some 48
          · have a2 : l = [48] := Classical.not_not.mp fun z => h ⟨a1, z⟩
            rw [decide_eq_true a2, Bool.not_true, Bool.and_false]
          · rw [decide_eq_false a1]; rfl
        · walk_at "go"
          refine k_ixS (i := 0) (by omega) (head_of (c := 0) f1) ?_
          walk_at "go"
          rw [lit_0, dec_S]
          refine if_dec (fun a1 => ?_) (fun a1 => h2 fun z => a1 (by have := z.1; rw [hh] at this; rw [Option.some.inj this]))
          walk_at "go"
          rw [dec_S]
          exact dec_twoN (R := fun b => R' b H1) (fun a2 => h2 fun z => z.2 a2) (fun a2 => h1 ⟨by rw [hh, (List.cons.inj a1).1], a2⟩)
theorem k_read_number {T : Txt K mg} {H : Hp} {Q : VK} {E : XK} {l : List Nat} (hl : l.length ≤ 1000000) (q1 : goodN l = true → ∀ H', Same H H' → Q (.int (numN l)) H') (q0 : goodN l = false → ∀ H', Same H H' → E (.ref T.C_NoText) none H') : sp_read_number K T [.str (SX.S l)] H Q E := ⟨_, rfl, .inr ⟨l, rfl, hl, q1, q0⟩⟩
theorem k_read_number0 {T : Txt K mg} {H : Hp} {Q : VK} {E : XK} {v : V} (hn : NoStr K H v) (q0 : ∀ H', Same H H' → E (.ref T.C_NoText) none H') : sp_read_number K T [v] H Q E := ⟨_, rfl, .inl ⟨hn, q0⟩⟩

/-! ### _law_whole -/
def sp_Lwhole (K : PySem.W.Frag) : Sp := fun vs H Q _ => ∃ i, vs = [.int i] ∧ Q (.bl true) H
theorem ok_Lwhole (T : Txt K mg) : FnOk P w K mg base CX0 1 T.a_Lwhole T.fd_Lwhole ["_law_found"] (sp_Lwhole K) := by
  refine T.F_Lwhole.ok sc_Lwhole (fun vs H Q E h => ?_) (fun cdv A outer s H vs Q E hr h => ?_)
  · obtain ⟨_, rfl, _⟩ := h; rfl
  · obtain ⟨i, rfl, q⟩ := h
    refine ⟨_, (pss_one (ps_ret (pe_and (pe_callB (kb_isi K) (by rfl) T.n_isinstance (by decide +kernel) (pa_cons (pv 0) (pa_cons (pe_bltn (v := .ty "int") (by rfl) T.n_int (by decide +kernel) rfl) pa_nil))) (pe_one (pe_not (pe_callB (kb_isi K) (by rfl) T.n_isinstance (by decide +kernel) (pa_cons (pv 0) (pa_cons (pe_bltn (v := .ty "bool") (by rfl) T.n_bool (by decide +kernel) rfl) pa_nil)))))))), ?_⟩
    walk_at "go"
    exact q
theorem k_whole {H : Hp} {Q : VK} {E : XK} {i : Int} (q : Q (.bl true) H) : sp_Lwhole K [.int i] H Q E := ⟨i, rfl, q⟩
local macro_rules | `(tactic| walk_at "st") => `(tactic| first | (with_reducible apply k_whole) | fail)

/-! ### law -/
def sp_law (K : PySem.W.Frag) : Sp := fun vs H Q _ => ∃ (a : Addr) (ns : List Int), vs = [.ref a] ∧ SqL K H a (ns.map V.int) ∧ ns.length ≤ 63 ∧ (∀ z ∈ ns, Builtin.Int.intBits z ≤ 1048576) ∧ ∀ H', Q (.bl true) H'
set_option pp.maxSteps 400 in
theorem ok_law (T : Txt K mg) : FnOk P w K mg base CX0 3 T.a_law T.fd_law ["_law_script"] (sp_law K) := by
  refine T.F_law.ok sc_law (fun vs H Q E h => ?_) (fun cdv A outer s H vs Q E hr h => ?_)
  · obtain ⟨_, _, rfl, _⟩ := h; rfl
  · obtain ⟨a, ns, rfl, hS, hl, hb, q⟩ := h
    have hu := hr.units
    refine ⟨_, (pss_cons (ps_set (i := 1) sc_law.nd rfl (Or.inl rfl) (pe_call (ok_Lhanded T) (hr.mono (by decide)) (by rfl) T.g_Lhanded T.F_Lhanded.kp T.b_Lhanded .nil pass0 (pa_cons (pv 0) pa_nil)))
        (pss_cons (ps_set (i := 2) sc_law.nd rfl (Or.inl rfl) (pe_call (ok_Ldue T) (hr.mono (by decide)) (by rfl) T.g_Ldue T.F_Ldue.kp T.b_Ldue .nil pass0 (pa_cons (pv 1) pa_nil)))
        (pss_cons (ps_set (i := 3) sc_law.nd rfl (Or.inl rfl) pe_non)
        (pss_cons (ps_set (i := 4) sc_law.nd rfl (Or.inl rfl) pe_bl)
        (pss_cons (ps_try_as (i := 5) rfl rfl sc_law.nd rfl rfl ⟨rfl, by decide, .inl T.gc_NoText⟩ takes0 (fun W pn xe tk _ => (pss_one (ps_set (i := 3) sc_law.nd rfl (Or.inl rfl) (pe_callS (ok_read_number T) (hr.mono (by decide)) (by rfl) T.g_read_number T.F_read_number.kp T.b_read_number (fun σ => passAt tk σ) (pa_cons (pv 1) pa_nil))))) (fun a oe cls d pn hz hf => (pss_one (ps_set (i := 4) sc_law.nd rfl (Or.inl rfl) (pe_and (pe_callB (call_isC hz hf) (by rfl) T.n_isinstance (by decide +kernel) (pa_cons (pv 5) (pa_cons (pe_glob (v := .ref T.C_FeastError) rfl T.gc_FeastError rfl) pa_nil))) (pe_and (pe_callB (call_isC hz hf) (by rfl) T.n_isinstance (by decide +kernel) (pa_cons (pv 5) (pa_cons (pe_bltn (v := .ty "ValueError") (by rfl) T.n_ValueError (by decide +kernel) rfl) pa_nil))) (pe_one (pe_not (pe_callB (call_isC hz hf) (by rfl) T.n_isinstance (by decide +kernel) (pa_cons (pv 5) (pa_cons (pe_glob (v := .ref T.C_NoNumber) rfl T.gc_NoNumber rfl) pa_nil)))))))))))
        (pss_cons (ps_if (pt_cmpR kb_isN (pv 2) pe_non (nomark _)) (pss_one (ps_ret (pv 4))) pss_nil)
        (pss_one (ps_ret (pe_and (pe_call (ok_Lwhole T) (hr.mono (by decide)) (by rfl) T.g_Lwhole T.F_Lwhole.kp T.b_Lwhole .nil pass0 (pa_cons (pv 3) pa_nil)) (pe_one (pe_cmpR (kb_eq K (hu := hu)) (pv 3) (pv 2) (nomark _)))))))))))), ?_⟩
    walk_at "go"
    refine k_Lhanded hS hb fun v H1 e1 hv => ?_
    walk_at "go"
    rcases hv with hn | ⟨l, rfl, hl⟩
    · refine k_Ldue0 hn ?_
      walk_at "go"
      with_reducible apply k_seq
      show tAsg _ _ _ _ _
      walk_at "go"
      refine k_read_number0 hn fun H2 e2 => ?_
      refine ⟨true, exm_of T.bc_NoText T.ic_NoText T.tc_NoText T.sc_NoText, fun _ a0 _ => ?_, fun q => Bool.noConfusion q⟩
      walk_at "go"
      refine k_isX T.xc_NoText (.inl rfl) (fun _ h => h) (kit_of T.ic_FeastError T.tc_FeastError T.sc_FeastError T.sb_NoText_FeastError) ?_
      walk_at "go"
      refine k_isX T.xc_NoText (.inl rfl) (fun _ h => h) (kit_ve T.sv_NoText) ?_
      walk_at "go"
      refine k_isX T.xc_NoText (.inl rfl) (fun _ h => h) (kit_of T.ic_NoNumber T.tc_NoNumber T.sc_NoNumber T.sb_NoText_NoNumber) ?_
      walk_at "run"
      exact q _
    · cases hg : goodN l with
      | true =>
        refine k_Ldue (by omega) (fun _ => ?_) (fun h => absurd (h.symm.trans hg) (by decide))
        walk_at "go"
        with_reducible apply k_seq
        show tAsg _ _ _ _ _
        walk_at "go"
        refine k_read_number (by omega) (fun _ H2 e2 => ?_) (fun h => absurd (h.symm.trans hg) (by decide))
        walk_at "run"
        rw [decide_eq_true (rfl : numN l = numN l)]
        exact q _
      | false =>
        refine k_Ldue (by omega) (fun h => absurd (h.symm.trans hg) (by decide)) (fun _ => ?_)
        walk_at "go"
        with_reducible apply k_seq
        show tAsg _ _ _ _ _
        walk_at "go"
        refine k_read_number (by omega) (fun h => absurd (h.symm.trans hg) (by decide)) (fun _ H2 e2 => ?_)
        refine ⟨true, exm_of T.bc_NoText T.ic_NoText T.tc_NoText T.sc_NoText, fun _ a0 _ => ?_, fun q => Bool.noConfusion q⟩
        walk_at "go"
        refine k_isX T.xc_NoText (.inl rfl) (fun _ h => h) (kit_of T.ic_FeastError T.tc_FeastError T.sc_FeastError T.sb_NoText_FeastError) ?_
        walk_at "go"
        refine k_isX T.xc_NoText (.inl rfl) (fun _ h => h) (kit_ve T.sv_NoText) ?_
        walk_at "go"
        refine k_isX T.xc_NoText (.inl rfl) (fun _ h => h) (kit_of T.ic_NoNumber T.tc_NoNumber T.sc_NoNumber T.sb_NoText_NoNumber) ?_
        walk_at "run"
        exact q _

end
theorem all_mk {l : PySem.W.OpenLaw} {w : World} {K : PySem.W.Frag} {h : Heap} {mg : Str → Option Value} {fa : Addr} (X : K.In h) (G : h.Ns mainGlobals mg) (hfa : mg "law" = some (.ref fa))
    {f_Lcell_at : Addr} {od_Lcell_at an_Lcell_at : Option Addr} {sl_Lcell_at : Array (Option Value)} {oc_Lcell_at kV_Lcell_at dc_Lcell_at pm_Lcell_at cd_Lcell_at ct_Lcell_at : Value}
    {f_Lnumber_text : Addr} {od_Lnumber_text an_Lnumber_text : Option Addr} {sl_Lnumber_text : Array (Option Value)} {oc_Lnumber_text kV_Lnumber_text dc_Lnumber_text pm_Lnumber_text cd_Lnumber_text ct_Lnumber_text : Value}
    {f_Lodd : Addr} {od_Lodd an_Lodd : Option Addr} {sl_Lodd : Array (Option Value)} {oc_Lodd kV_Lodd dc_Lodd pm_Lodd cd_Lodd ct_Lodd : Value}
    {f_Lno_text : Addr} {od_Lno_text an_Lno_text : Option Addr} {sl_Lno_text : Array (Option Value)} {oc_Lno_text kV_Lno_text dc_Lno_text pm_Lno_text cd_Lno_text ct_Lno_text : Value}
    {f_Lfree : Addr} {od_Lfree an_Lfree : Option Addr} {sl_Lfree : Array (Option Value)} {oc_Lfree kV_Lfree dc_Lfree pm_Lfree cd_Lfree ct_Lfree : Value}
    {f_Lwritten : Addr} {od_Lwritten an_Lwritten : Option Addr} {sl_Lwritten : Array (Option Value)} {oc_Lwritten kV_Lwritten dc_Lwritten pm_Lwritten cd_Lwritten ct_Lwritten : Value}
    {f_Lhanded : Addr} {od_Lhanded an_Lhanded : Option Addr} {sl_Lhanded : Array (Option Value)} {oc_Lhanded kV_Lhanded dc_Lhanded pm_Lhanded cd_Lhanded ct_Lhanded : Value}
    {f_Ldue : Addr} {od_Ldue an_Ldue : Option Addr} {sl_Ldue : Array (Option Value)} {oc_Ldue kV_Ldue dc_Ldue pm_Ldue cd_Ldue ct_Ldue : Value}
    {f_are_figures : Addr} {od_are_figures an_are_figures : Option Addr} {sl_are_figures : Array (Option Value)} {oc_are_figures kV_are_figures dc_are_figures pm_are_figures cd_are_figures ct_are_figures : Value}
    {f_read_number : Addr} {od_read_number an_read_number : Option Addr} {sl_read_number : Array (Option Value)} {oc_read_number kV_read_number dc_read_number pm_read_number cd_read_number ct_read_number : Value}
    {f_Lwhole : Addr} {od_Lwhole an_Lwhole : Option Addr} {sl_Lwhole : Array (Option Value)} {oc_Lwhole kV_Lwhole dc_Lwhole pm_Lwhole cd_Lwhole ct_Lwhole : Value}
    {f_law : Addr} {od_law an_law : Option Addr} {sl_law : Array (Option Value)} {oc_law kV_law dc_law pm_law cd_law ct_law : Value}
    {t_MOST_FIGURES : Tok}
    {t_FIGURES : Tok}
    {C_NoText : Addr}
    {C_FeastError : Addr}
    {C_NoNumber : Addr}
    (gc_NoText : PySem.W.nsIn K mainGlobals "NoText" = some (some (.ref C_NoText)))
    (gc_FeastError : PySem.W.nsIn K mainGlobals "FeastError" = some (some (.ref C_FeastError)))
    (gc_NoNumber : PySem.W.nsIn K mainGlobals "NoNumber" = some (some (.ref C_NoNumber)))
    (a_Lcell_at : PySem.W.nsIn K mainGlobals "_law_cell_at" = some (some (.ref f_Lcell_at)))
    (a_Lnumber_text : PySem.W.nsIn K mainGlobals "_law_number_text" = some (some (.ref f_Lnumber_text)))
    (a_Lodd : PySem.W.nsIn K mainGlobals "_law_odd" = some (some (.ref f_Lodd)))
    (a_Lno_text : PySem.W.nsIn K mainGlobals "_law_no_text" = some (some (.ref f_Lno_text)))
    (a_Lfree : PySem.W.nsIn K mainGlobals "_law_free" = some (some (.ref f_Lfree)))
    (a_Lwritten : PySem.W.nsIn K mainGlobals "_law_written" = some (some (.ref f_Lwritten)))
    (a_Lhanded : PySem.W.nsIn K mainGlobals "_law_handed" = some (some (.ref f_Lhanded)))
    (a_Ldue : PySem.W.nsIn K mainGlobals "_law_due" = some (some (.ref f_Ldue)))
    (a_are_figures : PySem.W.nsIn K mainGlobals "are_figures" = some (some (.ref f_are_figures)))
    (a_read_number : PySem.W.nsIn K mainGlobals "read_number" = some (some (.ref f_read_number)))
    (a_Lwhole : PySem.W.nsIn K mainGlobals "_law_whole" = some (some (.ref f_Lwhole)))
    (a_law : PySem.W.nsIn K mainGlobals "law" = some (some (.ref f_law)))
    (l_Lcell_at : K.lookup f_Lcell_at = some ⟨oc_Lcell_at, od_Lcell_at, .func (PySem.W.fnOf "_law_cell_at" "_law_cell_at" (defArgs s_Lcell_at) (defBody s_Lcell_at) (defScope s_Lcell_at) .none kV_Lcell_at dc_Lcell_at pm_Lcell_at an_Lcell_at cd_Lcell_at ct_Lcell_at), sl_Lcell_at⟩)
    (l_Lnumber_text : K.lookup f_Lnumber_text = some ⟨oc_Lnumber_text, od_Lnumber_text, .func (PySem.W.fnOf "_law_number_text" "_law_number_text" (defArgs s_Lnumber_text) (defBody s_Lnumber_text) (defScope s_Lnumber_text) .none kV_Lnumber_text dc_Lnumber_text pm_Lnumber_text an_Lnumber_text cd_Lnumber_text ct_Lnumber_text), sl_Lnumber_text⟩)
    (l_Lodd : K.lookup f_Lodd = some ⟨oc_Lodd, od_Lodd, .func (PySem.W.fnOf "_law_odd" "_law_odd" (defArgs s_Lodd) (defBody s_Lodd) (defScope s_Lodd) .none kV_Lodd dc_Lodd pm_Lodd an_Lodd cd_Lodd ct_Lodd), sl_Lodd⟩)
    (l_Lno_text : K.lookup f_Lno_text = some ⟨oc_Lno_text, od_Lno_text, .func (PySem.W.fnOf "_law_no_text" "_law_no_text" (defArgs s_Lno_text) (defBody s_Lno_text) (defScope s_Lno_text) .none kV_Lno_text dc_Lno_text pm_Lno_text an_Lno_text cd_Lno_text ct_Lno_text), sl_Lno_text⟩)
    (l_Lfree : K.lookup f_Lfree = some ⟨oc_Lfree, od_Lfree, .func (PySem.W.fnOf "_law_free" "_law_free" (defArgs s_Lfree) (defBody s_Lfree) (defScope s_Lfree) .none kV_Lfree dc_Lfree pm_Lfree an_Lfree cd_Lfree ct_Lfree), sl_Lfree⟩)
    (l_Lwritten : K.lookup f_Lwritten = some ⟨oc_Lwritten, od_Lwritten, .func (PySem.W.fnOf "_law_written" "_law_written" (defArgs s_Lwritten) (defBody s_Lwritten) (defScope s_Lwritten) .none kV_Lwritten dc_Lwritten pm_Lwritten an_Lwritten cd_Lwritten ct_Lwritten), sl_Lwritten⟩)
    (l_Lhanded : K.lookup f_Lhanded = some ⟨oc_Lhanded, od_Lhanded, .func (PySem.W.fnOf "_law_handed" "_law_handed" (defArgs s_Lhanded) (defBody s_Lhanded) (defScope s_Lhanded) .none kV_Lhanded dc_Lhanded pm_Lhanded an_Lhanded cd_Lhanded ct_Lhanded), sl_Lhanded⟩)
    (l_Ldue : K.lookup f_Ldue = some ⟨oc_Ldue, od_Ldue, .func (PySem.W.fnOf "_law_due" "_law_due" (defArgs s_Ldue) (defBody s_Ldue) (defScope s_Ldue) .none kV_Ldue dc_Ldue pm_Ldue an_Ldue cd_Ldue ct_Ldue), sl_Ldue⟩)
    (l_are_figures : K.lookup f_are_figures = some ⟨oc_are_figures, od_are_figures, .func (PySem.W.fnOf "are_figures" "are_figures" (defArgs s_are_figures) (defBody s_are_figures) (defScope s_are_figures) .none kV_are_figures dc_are_figures pm_are_figures an_are_figures cd_are_figures ct_are_figures), sl_are_figures⟩)
    (l_read_number : K.lookup f_read_number = some ⟨oc_read_number, od_read_number, .func (PySem.W.fnOf "read_number" "read_number" (defArgs s_read_number) (defBody s_read_number) (defScope s_read_number) .none kV_read_number dc_read_number pm_read_number an_read_number cd_read_number ct_read_number), sl_read_number⟩)
    (l_Lwhole : K.lookup f_Lwhole = some ⟨oc_Lwhole, od_Lwhole, .func (PySem.W.fnOf "_law_whole" "_law_whole" (defArgs s_Lwhole) (defBody s_Lwhole) (defScope s_Lwhole) .none kV_Lwhole dc_Lwhole pm_Lwhole an_Lwhole cd_Lwhole ct_Lwhole), sl_Lwhole⟩)
    (l_law : K.lookup f_law = some ⟨oc_law, od_law, .func (PySem.W.fnOf "law" "law" (defArgs s_law) (defBody s_law) (defScope s_law) .none kV_law dc_law pm_law an_law cd_law ct_law), sl_law⟩)
    (c_Lcell_at : PySem.W.codeIn K cd_Lcell_at "_law_cell_at" = true)
    (k_Lcell_at : PySem.W.keepIn K (.ref f_Lcell_at) = true)
    (c_Lnumber_text : PySem.W.codeIn K cd_Lnumber_text "_law_number_text" = true)
    (k_Lnumber_text : PySem.W.keepIn K (.ref f_Lnumber_text) = true)
    (c_Lodd : PySem.W.codeIn K cd_Lodd "_law_odd" = true)
    (k_Lodd : PySem.W.keepIn K (.ref f_Lodd) = true)
    (c_Lno_text : PySem.W.codeIn K cd_Lno_text "_law_no_text" = true)
    (k_Lno_text : PySem.W.keepIn K (.ref f_Lno_text) = true)
    (c_Lfree : PySem.W.codeIn K cd_Lfree "_law_free" = true)
    (k_Lfree : PySem.W.keepIn K (.ref f_Lfree) = true)
    (c_Lwritten : PySem.W.codeIn K cd_Lwritten "_law_written" = true)
    (k_Lwritten : PySem.W.keepIn K (.ref f_Lwritten) = true)
    (c_Lhanded : PySem.W.codeIn K cd_Lhanded "_law_handed" = true)
    (k_Lhanded : PySem.W.keepIn K (.ref f_Lhanded) = true)
    (c_Ldue : PySem.W.codeIn K cd_Ldue "_law_due" = true)
    (k_Ldue : PySem.W.keepIn K (.ref f_Ldue) = true)
    (c_are_figures : PySem.W.codeIn K cd_are_figures "are_figures" = true)
    (k_are_figures : PySem.W.keepIn K (.ref f_are_figures) = true)
    (c_read_number : PySem.W.codeIn K cd_read_number "read_number" = true)
    (k_read_number : PySem.W.keepIn K (.ref f_read_number) = true)
    (c_Lwhole : PySem.W.codeIn K cd_Lwhole "_law_whole" = true)
    (k_Lwhole : PySem.W.keepIn K (.ref f_Lwhole) = true)
    (c_law : PySem.W.codeIn K cd_law "law" = true)
    (k_law : PySem.W.keepIn K (.ref f_law) = true)
    (q_MOST_FIGURES : PySem.W.nsIn K mainGlobals "MOST_FIGURES" = some (some (.int 60 t_MOST_FIGURES)))
    (q_FIGURES : PySem.W.nsIn K mainGlobals "FIGURES" = some (some (.str "0123456789" t_FIGURES)))
    (z_ValueError : PySem.W.nsIn K mainGlobals "ValueError" = some none)
    (z_all : PySem.W.nsIn K mainGlobals "all" = some none)
    (z_bool : PySem.W.nsIn K mainGlobals "bool" = some none)
    (z_int : PySem.W.nsIn K mainGlobals "int" = some none)
    (z_isinstance : PySem.W.nsIn K mainGlobals "isinstance" = some none)
    (z_len : PySem.W.nsIn K mainGlobals "len" = some none)
    (z_range : PySem.W.nsIn K mainGlobals "range" = some none)
    (z_str : PySem.W.nsIn K mainGlobals "str" = some none)
    (x_NoText : PySem.W.excIn K C_NoText [.type "ValueError", .type "Exception", .type "BaseException", .type "object"] "ValueError.__new__" = true)
    (kc_NoText : PySem.W.keepIn K (.ref C_NoText) = true)
    (bc_NoText : PySem.W.subIn K (.ref C_NoText) (.type "BaseException") = some true)
    (tc_NoText : PySem.W.typeIn K (.ref C_NoText) = some (.type "type"))
    (ic_NoText : PySem.W.isClsIn K C_NoText = true)
    (sc_NoText : PySem.W.subIn K (.ref C_NoText) (.ref C_NoText) = some true)
    (kc_FeastError : PySem.W.keepIn K (.ref C_FeastError) = true)
    (bc_FeastError : PySem.W.subIn K (.ref C_FeastError) (.type "BaseException") = some true)
    (tc_FeastError : PySem.W.typeIn K (.ref C_FeastError) = some (.type "type"))
    (ic_FeastError : PySem.W.isClsIn K C_FeastError = true)
    (sc_FeastError : PySem.W.subIn K (.ref C_FeastError) (.ref C_FeastError) = some true)
    (kc_NoNumber : PySem.W.keepIn K (.ref C_NoNumber) = true)
    (bc_NoNumber : PySem.W.subIn K (.ref C_NoNumber) (.type "BaseException") = some true)
    (tc_NoNumber : PySem.W.typeIn K (.ref C_NoNumber) = some (.type "type"))
    (ic_NoNumber : PySem.W.isClsIn K C_NoNumber = true)
    (sc_NoNumber : PySem.W.subIn K (.ref C_NoNumber) (.ref C_NoNumber) = some true)
    (sb_NoText_FeastError : PySem.W.subIn K (.ref C_NoText) (.ref C_FeastError) = some true)
    (sb_NoText_NoNumber : PySem.W.subIn K (.ref C_NoText) (.ref C_NoNumber) = some false)
    (xc_NoText : ExcC K C_NoText)
    (sv_NoText : PySem.W.subIn K (.ref C_NoText) (.type "ValueError") = some true) :
    ∃ fd : FuncData, (∀ (s : Shared) (v : Value), BindsTo s fd ⟨[v], []⟩ [("_law_script", v)]) ∧ ∀ base : Heap, K.In base → base.Ns mainGlobals mg → FnOk l.prog w K mg base CX0 3 fa fd ["_law_script"] (sp_law K) := by
  have e := hfa.symm.trans (PySem.W.mg_of X G a_law)
  cases e
  have F_Lcell_at := fun_mk (st := s_Lcell_at) l_Lcell_at c_Lcell_at k_Lcell_at
  have b_Lcell_at := F_Lcell_at.binds (ps := ["_law_script", "_law_k"]) fun _ _ _ _ _ _ us hl => match us, hl with | [_, _], _ => rfl
  have F_Lnumber_text := fun_mk (st := s_Lnumber_text) l_Lnumber_text c_Lnumber_text k_Lnumber_text
  have b_Lnumber_text := F_Lnumber_text.binds (ps := ["_law_cell"]) fun _ _ _ _ _ _ us hl => match us, hl with | [_], _ => rfl
  have F_Lodd := fun_mk (st := s_Lodd) l_Lodd c_Lodd k_Lodd
  have b_Lodd := F_Lodd.binds (ps := ["_law_cell"]) fun _ _ _ _ _ _ us hl => match us, hl with | [_], _ => rfl
  have F_Lno_text := fun_mk (st := s_Lno_text) l_Lno_text c_Lno_text k_Lno_text
  have b_Lno_text := F_Lno_text.binds (ps := ["_law_cell"]) fun _ _ _ _ _ _ us hl => match us, hl with | [_], _ => rfl
  have F_Lfree := fun_mk (st := s_Lfree) l_Lfree c_Lfree k_Lfree
  have b_Lfree := F_Lfree.binds (ps := ["_law_cell", "_law_signs"]) fun _ _ _ _ _ _ us hl => match us, hl with | [_, _], _ => rfl
  have F_Lwritten := fun_mk (st := s_Lwritten) l_Lwritten c_Lwritten k_Lwritten
  have b_Lwritten := F_Lwritten.binds (ps := ["_law_cell", "_law_figures"]) fun _ _ _ _ _ _ us hl => match us, hl with | [_, _], _ => rfl
  have F_Lhanded := fun_mk (st := s_Lhanded) l_Lhanded c_Lhanded k_Lhanded
  have b_Lhanded := F_Lhanded.binds (ps := ["_law_script"]) fun _ _ _ _ _ _ us hl => match us, hl with | [_], _ => rfl
  have F_Ldue := fun_mk (st := s_Ldue) l_Ldue c_Ldue k_Ldue
  have b_Ldue := F_Ldue.binds (ps := ["_law_text"]) fun _ _ _ _ _ _ us hl => match us, hl with | [_], _ => rfl
  have F_are_figures := fun_mk (st := s_are_figures) l_are_figures c_are_figures k_are_figures
  have b_are_figures := F_are_figures.binds (ps := ["text"]) fun _ _ _ _ _ _ us hl => match us, hl with | [_], _ => rfl
  have F_read_number := fun_mk (st := s_read_number) l_read_number c_read_number k_read_number
  have b_read_number := F_read_number.binds (ps := ["text"]) fun _ _ _ _ _ _ us hl => match us, hl with | [_], _ => rfl
  have F_Lwhole := fun_mk (st := s_Lwhole) l_Lwhole c_Lwhole k_Lwhole
  have b_Lwhole := F_Lwhole.binds (ps := ["_law_found"]) fun _ _ _ _ _ _ us hl => match us, hl with | [_], _ => rfl
  have F_law := fun_mk (st := s_law) l_law c_law k_law
  have b_law := F_law.binds (ps := ["_law_script"]) fun _ _ _ _ _ _ us hl => match us, hl with | [_], _ => rfl
  exact ⟨_, fun s v => .of_eq rfl, fun base _ _ => ok_law (⟨_, _, F_Lcell_at, (PySem.W.mg_of X G a_Lcell_at), b_Lcell_at, _, _, F_Lnumber_text, (PySem.W.mg_of X G a_Lnumber_text), b_Lnumber_text, _, _, F_Lodd, (PySem.W.mg_of X G a_Lodd), b_Lodd, _, _, F_Lno_text, (PySem.W.mg_of X G a_Lno_text), b_Lno_text, _, _, F_Lfree, (PySem.W.mg_of X G a_Lfree), b_Lfree, _, _, F_Lwritten, (PySem.W.mg_of X G a_Lwritten), b_Lwritten, _, _, F_Lhanded, (PySem.W.mg_of X G a_Lhanded), b_Lhanded, _, _, F_Ldue, (PySem.W.mg_of X G a_Ldue), b_Ldue, _, _, F_are_figures, (PySem.W.mg_of X G a_are_figures), b_are_figures, _, _, F_read_number, (PySem.W.mg_of X G a_read_number), b_read_number, _, _, F_Lwhole, (PySem.W.mg_of X G a_Lwhole), b_Lwhole, _, _, F_law, (PySem.W.mg_of X G a_law), b_law, _, (PySem.W.mg_of X G q_MOST_FIGURES), _, (PySem.W.mg_of X G q_FIGURES), (PySem.W.mg_none_of X G z_ValueError), (PySem.W.mg_none_of X G z_all), (PySem.W.mg_none_of X G z_bool), (PySem.W.mg_none_of X G z_int), (PySem.W.mg_none_of X G z_isinstance), (PySem.W.mg_none_of X G z_len), (PySem.W.mg_none_of X G z_range), (PySem.W.mg_none_of X G z_str), _, (PySem.W.mg_of X G gc_NoText), x_NoText, kc_NoText, bc_NoText, tc_NoText, ic_NoText, sc_NoText, _, (PySem.W.mg_of X G gc_FeastError), kc_FeastError, bc_FeastError, tc_FeastError, ic_FeastError, sc_FeastError, _, (PySem.W.mg_of X G gc_NoNumber), kc_NoNumber, bc_NoNumber, tc_NoNumber, ic_NoNumber, sc_NoNumber, sb_NoText_FeastError, sb_NoText_NoNumber, xc_NoText, sv_NoText⟩ : Txt K mg)⟩
end FW
open PySem PySem.W PyProof.Rows
set_option pp.maxSteps 300 in
set_option maxRecDepth 100000 in
set_option maxHeartbeats 0 in
theorem PySem.Challenge.cw_feastwheel_k70_numbers_as_texts_holds : PySem.Challenge.rw_feastwheel_k70_numbers_as_texts.Holds := by
  w_on; o_law; k_head; (case hw => w_witness2)
  k_fill
  refine L2.walk_ofB (l := PySem.Challenge.rw_feastwheel_k70_numbers_as_texts) (n := 63) (k := 3) (x := "_law_script") (CX := fun _ => L2.CX0) (sp := fun w => FW.sp_law _) rfl (by decide) rfl ⟨rfl, by decide, by decide⟩ (fun w h Y => PySem.W.kIn_of Y) ?F (fun _ _ a ns hl hb _ hS => ⟨a, ns, rfl, hS, hl, hb, fun _ => rfl⟩) (fun _ _ _ _ _ h => h)
  case F =>
    intro w mg fa h KX G hmg
    refine' FW.all_mk KX G hmg ?gc_NoText ?gc_FeastError ?gc_NoNumber ?a_Lcell_at ?a_Lnumber_text ?a_Lodd ?a_Lno_text ?a_Lfree ?a_Lwritten ?a_Lhanded ?a_Ldue ?a_are_figures ?a_read_number ?a_Lwhole ?a_law ?l_Lcell_at ?l_Lnumber_text ?l_Lodd ?l_Lno_text ?l_Lfree ?l_Lwritten ?l_Lhanded ?l_Ldue ?l_are_figures ?l_read_number ?l_Lwhole ?l_law ?c_Lcell_at ?k_Lcell_at ?c_Lnumber_text ?k_Lnumber_text ?c_Lodd ?k_Lodd ?c_Lno_text ?k_Lno_text ?c_Lfree ?k_Lfree ?c_Lwritten ?k_Lwritten ?c_Lhanded ?k_Lhanded ?c_Ldue ?k_Ldue ?c_are_figures ?k_are_figures ?c_read_number ?k_read_number ?c_Lwhole ?k_Lwhole ?c_law ?k_law ?q_MOST_FIGURES ?q_FIGURES ?z_ValueError ?z_all ?z_bool ?z_int ?z_isinstance ?z_len ?z_range ?z_str ?x_NoText ?kc_NoText ?bc_NoText ?tc_NoText ?ic_NoText ?sc_NoText ?kc_FeastError ?bc_FeastError ?tc_FeastError ?ic_FeastError ?sc_FeastError ?kc_NoNumber ?bc_NoNumber ?tc_NoNumber ?ic_NoNumber ?sc_NoNumber ?sb_NoText_FeastError ?sb_NoText_NoNumber ?xc_NoText ?sv_NoText
    (case gc_NoText => first | k_is | rfl)
    (case gc_FeastError => first | k_is | rfl)
    (case gc_NoNumber => first | k_is | rfl)
    (case a_Lcell_at => first | k_is | rfl)
    (case a_Lnumber_text => first | k_is | rfl)
    (case a_Lodd => first | k_is | rfl)
    (case a_Lno_text => first | k_is | rfl)
    (case a_Lfree => first | k_is | rfl)
    (case a_Lwritten => first | k_is | rfl)
    (case a_Lhanded => first | k_is | rfl)
    (case a_Ldue => first | k_is | rfl)
    (case a_are_figures => first | k_is | rfl)
    (case a_read_number => first | k_is | rfl)
    (case a_Lwhole => first | k_is | rfl)
    (case a_law => first | k_is | rfl)
    (case l_Lcell_at => first | k_is | rfl)
    (case l_Lnumber_text => first | k_is | rfl)
    (case l_Lodd => first | k_is | rfl)
    (case l_Lno_text => first | k_is | rfl)
    (case l_Lfree => first | k_is | rfl)
    (case l_Lwritten => first | k_is | rfl)
    (case l_Lhanded => first | k_is | rfl)
    (case l_Ldue => first | k_is | rfl)
    (case l_are_figures => first | k_is | rfl)
    (case l_read_number => first | k_is | rfl)
    (case l_Lwhole => first | k_is | rfl)
    (case l_law => first | k_is | rfl)
    (case c_Lcell_at => first | k_is | rfl)
    (case k_Lcell_at => first | k_is | rfl)
    (case c_Lnumber_text => first | k_is | rfl)
    (case k_Lnumber_text => first | k_is | rfl)
    (case c_Lodd => first | k_is | rfl)
    (case k_Lodd => first | k_is | rfl)
    (case c_Lno_text => first | k_is | rfl)
    (case k_Lno_text => first | k_is | rfl)
    (case c_Lfree => first | k_is | rfl)
    (case k_Lfree => first | k_is | rfl)
    (case c_Lwritten => first | k_is | rfl)
    (case k_Lwritten => first | k_is | rfl)
    (case c_Lhanded => first | k_is | rfl)
    (case k_Lhanded => first | k_is | rfl)
    (case c_Ldue => first | k_is | rfl)
    (case k_Ldue => first | k_is | rfl)
    (case c_are_figures => first | k_is | rfl)
    (case k_are_figures => first | k_is | rfl)
    (case c_read_number => first | k_is | rfl)
    (case k_read_number => first | k_is | rfl)
    (case c_Lwhole => first | k_is | rfl)
    (case k_Lwhole => first | k_is | rfl)
    (case c_law => first | k_is | rfl)
    (case k_law => first | k_is | rfl)
    (case q_MOST_FIGURES => first | k_is | rfl)
    (case q_FIGURES => first | k_is | rfl)
    (case z_ValueError => first | k_is | rfl)
    (case z_all => first | k_is | rfl)
    (case z_bool => first | k_is | rfl)
    (case z_int => first | k_is | rfl)
    (case z_isinstance => first | k_is | rfl)
    (case z_len => first | k_is | rfl)
    (case z_range => first | k_is | rfl)
    (case z_str => first | k_is | rfl)
    (case x_NoText => k_exc)
    (case kc_NoText => first | k_is | rfl)
    (case bc_NoText => first | k_is | rfl)
    (case tc_NoText => first | k_is | rfl)
    (case ic_NoText => first | k_is | rfl)
    (case sc_NoText => first | k_is | rfl)
    (case kc_FeastError => first | k_is | rfl)
    (case bc_FeastError => first | k_is | rfl)
    (case tc_FeastError => first | k_is | rfl)
    (case ic_FeastError => first | k_is | rfl)
    (case sc_FeastError => first | k_is | rfl)
    (case kc_NoNumber => first | k_is | rfl)
    (case bc_NoNumber => first | k_is | rfl)
    (case tc_NoNumber => first | k_is | rfl)
    (case ic_NoNumber => first | k_is | rfl)
    (case sc_NoNumber => first | k_is | rfl)
    (case sb_NoText_FeastError => first | k_is | rfl)
    (case sb_NoText_NoNumber => first | k_is | rfl)
    (case xc_NoText => constructor <;> first | k_is | rfl)
    (case sv_NoText => first | k_is | rfl)
