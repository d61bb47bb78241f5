import PyProof.Rows.All
import Wide.All
import OpenK.AllK
import Wide.FinOn
import HandS.ForMost
import HandS.Exc
import HandS.Wide
import HandS.WideBits
import HandS.IsInst
import HandS.Flow
import HandS.EndBits
import HandS.Conv
import HandS.ExcIs
import HandS.ExcField
import HandS.TryMany
import KE.KExcIs
import HandS.HotCalls
import HandS.ForExc
import HandS.ExcInit
import HandS.ClsMeth
import PySem.Challenge.RW_feastwheel_k10_rounds_refused
set_option Elab.async false
set_option linter.all false
set_option maxRecDepth 100000
set_option maxHeartbeats 4000000
namespace FW
open PySem PySem.Spec PyProof.Rows L2
/-! ### heaps -/
theorem same_t {K : PySem.W.Frag} {H H' : Hp} {a : Addr} {xs : List V} (e : Same H H') (h : SqT K H a xs) : SqT K H' a xs := by
  rcases h with (h | ⟨o, h⟩) | h
  · exact .inl (.inl (e _ _ h))
  · exact .inl (.inr ⟨o, e _ _ h⟩)
  · exact .inr h
theorem same_l {K : PySem.W.Frag} {H H' : Hp} {a : Addr} {xs : List V} (e : Same H H') (h : SqL K H a xs) : SqL K H' a xs := e.seq h
theorem same_at {H H' : Hp} {a : Addr} {o : HO} (e : Same H H') (h : H a = some o) : H' a = some o := e _ _ h
theorem same_new {H : Hp} {p : Addr} {o : HO} (h : H p = none) : Same H (upd H p o) := fun b x e => by
  rw [upd_ne (ne_of_none e h)]
  exact e
theorem same_mut {H H' : Hp} {p : Addr} {o : HO} (e : Same H H') (h : H p = none) : Same H (upd H' p o) := fun a u ha => by
  rw [upd_ne (ne_of_none ha h)]
  exact e a u ha
section
variable {K : PySem.W.Frag} {σ : L2.St} {H H1 : Hp} {Q : VK} {D : Ends} {i : Nat} {v x y : V} {ta tb tc te : TE} {t u : TT} {tr : TA} {m n : Int} {a b : Int} {r r' : R2}
/-! ### steps: expressions -/
theorem k_var (h : σ[i]? = some (some v)) (q : Q v H) : tVar i σ H Q := ⟨v, h, q⟩
theorem k_c (q : Q v H) : tC v σ H Q := q
theorem k_op (h : ta σ H fun x H1 => tb σ H1 fun y H2 => r x y H2 Q) : tOp r ta tb σ H Q := h
theorem k_un {r : V → Hp → VK → Prop} (h : ta σ H fun x H1 => r x H1 Q) : tUn r ta σ H Q := h
theorem k_I0 {g : Int → Int → V} (q : Q (g a b) H) : rI0 g (.int a) (.int b) H Q := ⟨a, b, rfl, rfl, q⟩
theorem k_I {C : Int → Int → Prop} {g : Int → Int → V} (c : C a b) (q : Q (g a b) H) : rI C g (.int a) (.int b) H Q := ⟨a, b, rfl, rfl, c, q⟩
theorem k_U {g : Int → V} (q : Q (g a) H) : rU g (.int a) H Q := ⟨a, rfl, q⟩
theorem k_nil {Q : List V → Hp → Prop} (q : Q [] H) : tNil σ H Q := q
theorem k_cons {Q : List V → Hp → Prop} (h : ta σ H fun x H1 => tr σ H1 fun xs H2 => Q (x :: xs) H2) : tCons ta tr σ H Q := h
theorem k_cb {r : List V → Hp → VK → Prop} (h : tr σ H fun vs H1 => r vs H1 Q) : tCB r tr σ H Q := h
theorem k_call {sp : Sp} {E : XK} (h : tr σ H fun vs H1 => sp vs H1 Q E) : tCall sp [] E tr σ H Q := by
  show tr σ H fun vs H1 => sp (vs ++ []) H1 Q E
  simp only [List.append_nil]
  exact h
def NewT (xs : List V) (H : Hp) (Q : VK) : Prop := xs.length ≤ sizeLine ∧ ∀ p, H p = none → Q (.ref p) (upd H p (.tup xs))
def NewL (xs : List V) (H : Hp) (Q : VK) : Prop := xs.length ≤ sizeLine ∧ ∀ p, H p = none → Q (.ref p) (upd H p (.lst xs))
theorem k_tup (h : tr σ H fun xs H1 => NewT xs H1 Q) : tTup tr σ H Q := h
theorem k_lst (h : tr σ H fun xs H1 => NewL xs H1 Q) : tLst tr σ H Q := h
theorem k_newtup {xs : List V} (hl : xs.length ≤ 1000) (h : ∀ p H2, H p = none → Same H H2 → H2 p = some (.tup xs) → Q (.ref p) H2) : NewT xs H Q :=
  ⟨Nat.le_trans hl (by decide), fun p hp => h p _ hp (same_new hp) upd_same⟩
theorem k_newlst {xs : List V} (hl : xs.length ≤ 1000) (h : ∀ p H2, H p = none → Same H H2 → H2 p = some (.lst xs) → Q (.ref p) H2) : NewL xs H Q :=
  ⟨Nat.le_trans hl (by decide), fun p hp => h p _ hp (same_new hp) upd_same⟩
theorem k_ifx {Q : VK} (h : t σ H fun c H1 => if c = true then ta σ H1 Q else tb σ H1 Q) : tIf t ta tb σ H Q := h
theorem k_andV (h : ta σ H fun x H1 => ∃ c, x = .bl c ∧ if c = true then tb σ H1 Q else Q (.bl false) H1) : tAndV ta tb σ H Q := h
theorem k_orV (h : ta σ H fun x H1 => ∃ c, x = .bl c ∧ if c = true then Q (.bl true) H1 else tb σ H1 Q) : tOrV ta tb σ H Q := h
theorem k_notV (h : ta σ H fun x H1 => ∃ c, x = .bl c ∧ Q (.bl (!c)) H1) : tNotV ta σ H Q := h
theorem k_chain (h : ta σ H fun x H1 => tb σ H1 fun y H2 => r x y H2 fun z H3 => ∃ k, z = .bl k ∧ (if k = true then tc σ H3 fun w' H4 => r' y w' H4 Q else Q (.bl false) H3)) : tChain r r' ta tb tc σ H Q := h
theorem k_and2 {i j : Nat} {x y : Bool} (h1 : σ[i]? = some (some (.bl x))) (h2 : σ[j]? = some (some (.bl y))) (q : Q (.bl (x && y)) H) : tAndV (tVar i) (tVar j) σ H Q :=
  ⟨_, h1, x, rfl, by cases x with
    | true => rw [if_pos rfl]; exact ⟨_, h2, q⟩
    | false => rw [if_neg Bool.false_ne_true]; exact q⟩
theorem k_or2 {i j : Nat} {x y : Bool} (h1 : σ[i]? = some (some (.bl x))) (h2 : σ[j]? = some (some (.bl y))) (q : Q (.bl (x || y)) H) : tOrV (tVar i) (tVar j) σ H Q :=
  ⟨_, h1, x, rfl, by cases x with
    | true => rw [if_pos rfl]; exact q
    | false => rw [if_neg Bool.false_ne_true]; exact ⟨_, h2, q⟩⟩
theorem k_andn2 {i j : Nat} {x y : Bool} (h1 : σ[i]? = some (some (.bl x))) (h2 : σ[j]? = some (some (.bl y))) (q : Q (.bl (x && !y)) H) : tAndV (tVar i) (tNotV (tVar j)) σ H Q :=
  ⟨_, h1, x, rfl, by cases x with
    | true => rw [if_pos rfl]; exact ⟨_, h2, _, rfl, q⟩
    | false => rw [if_neg Bool.false_ne_true]; exact q⟩
/-- a truth value told -/
theorem k_bl {p : Bool → Prop} {c : Bool} (h : p c) : ∃ k, V.bl c = .bl k ∧ p k := ⟨c, rfl, h⟩
/-! ### steps: tests -/
theorem k_test {Q : Bool → Hp → Prop} (h : ta σ H fun x H' => ∃ k, x = .bl k ∧ Q k H') : tTest ta σ H Q := h
theorem k_B {Q : Bool → Hp → Prop} (h : ta σ H fun x H' => ∃ k, x = .bl k ∧ Q k H') : tB ta σ H Q := h
theorem k_and {Q : Bool → Hp → Prop} (h : t σ H fun c H1 => if c = true then u σ H1 Q else Q false H1) : tAnd t u σ H Q := h
theorem k_or {Q : Bool → Hp → Prop} (h : t σ H fun c H1 => if c = true then Q true H1 else u σ H1 Q) : tOr t u σ H Q := h
theorem k_not {Q : Bool → Hp → Prop} (h : t σ H fun c H1 => Q (!c) H1) : tNot t σ H Q := h
/-! ### branches -/
theorem if_dec {p A B : Prop} [Decidable p] (h1 : p → A) (h2 : ¬ p → B) : if decide p = true then A else B := by
  by_cases h : p
  · rw [if_pos (decide_eq_true h)]; exact h1 h
  · rw [if_neg (by rw [decide_eq_false h]; decide)]; exact h2 h
theorem if_ndec {p A B : Prop} [Decidable p] (h1 : ¬ p → A) (h2 : p → B) : if (!decide p) = true then A else B := by
  by_cases h : p
  · rw [if_neg (by rw [decide_eq_true h]; decide)]; exact h2 h
  · rw [if_pos (by rw [decide_eq_false h]; rfl)]; exact h1 h
theorem if_b {c : Bool} {A B : Prop} (h1 : c = true → A) (h2 : c = false → B) : if c = true then A else B := by
  cases c with
  | true => rw [if_pos rfl]; exact h1 rfl
  | false => rw [if_neg Bool.false_ne_true]; exact h2 rfl
theorem if_t {A B : Prop} (h : A) : if true = true then A else B := iteT h
theorem if_f {A B : Prop} (h : B) : if false = true then A else B := iteF h
theorem if_nt {A B : Prop} (h : A) : if (!false) = true then A else B := iteT h
theorem if_nf {A B : Prop} (h : B) : if (!true) = true then A else B := iteF h
theorem fin_t {c : Bool} (hc : c = true) (q : Q (.bl true) H) : Q (.bl c) H := by rw [hc]; exact q
/-! ### steps: statements -/
theorem k_seq {t u : TS} (h : t { D with nx := u D } σ H) : tSeq t u D σ H := h
theorem k_seqA {g : TG} {u : TS} (h : tAsg te g { D with nx := u D } σ H) : tSeq (tAsg te g) u D σ H := h
theorem k_seqD {u : TS} (h : tDrop te { D with nx := u D } σ H) : tSeq (tDrop te) u D σ H := h
theorem k_seqP {i j : Nat} {u : TS} (h : tPar i j tr { D with nx := u D } σ H) : tSeq (tPar i j tr) u D σ H := h
theorem k_seqI {t u : TS} {c : TT} {w : TS} (h : c σ H fun b H1 => if b = true then t { D with nx := w D } σ H1 else u { D with nx := w D } σ H1) : tSeq (tIfS c t u) w D σ H := h
theorem k_nx {f : L2.St → Hp → Prop} {r : VK} {b c : L2.St → Hp → Prop} (h : f σ H) : Ends.nx ⟨f, r, b, c⟩ σ H := h
theorem k_rt {f : L2.St → Hp → Prop} {r : VK} {b c : L2.St → Hp → Prop} (h : r v H) : Ends.rt ⟨f, r, b, c⟩ v H := h
theorem k_next (h : D.nx σ H) : tNext D σ H := h
theorem k_asg {i : Nat} (h : te σ H fun x H1 => D.nx (σ.set i (some x)) H1) : tAsg te (gName i) D σ H := h
theorem k_asgG {g : TG} (h : te σ H fun x H1 => g x σ H1 D.nx) : tAsg te g D σ H := h
theorem k_gname {Q : L2.St → Hp → Prop} (h : Q (σ.set i (some v)) H) : gName i v σ H Q := h
theorem k_gtup {tg : TGs} {n : Nat} {p : Addr} {xs : List V} {Q : L2.St → Hp → Prop} (h : SqT K H p xs) (hl : xs.length = n) (q : tg xs σ H Q) : gTup K n tg (.ref p) σ H Q := ⟨p, xs, rfl, h, hl, q⟩
theorem k_gcons {tg : TG} {ug : TGs} {vs : List V} {Q : L2.St → Hp → Prop} (q : tg v σ H fun σ' H' => ug vs σ' H' Q) : gCons tg ug (v :: vs) σ H Q := ⟨v, vs, rfl, q⟩
theorem k_gnil {Q : L2.St → Hp → Prop} (q : Q σ H) : gNil [] σ H Q := ⟨rfl, q⟩
theorem k_par {i j : Nat} (h : tr σ H fun vs H1 => ∃ v w, vs = [v, w] ∧ D.nx ((σ.set i (some v)).set j (some w)) H1) : tPar i j tr D σ H := h
theorem k_par2 {P : V → V → Prop} {x y : V} (h : P x y) : ∃ v w, [x, y] = [v, w] ∧ P v w := ⟨x, y, rfl, h⟩
theorem k_drop (h : te σ H fun _ H1 => D.nx σ H1) : tDrop te D σ H := h
theorem k_ret (h : te σ H D.rt) : tRet te D σ H := h
theorem k_retN (h : D.rt .non H) : tRetN D σ H := h
theorem k_if {t u : TS} {c : TT} (h : c σ H fun b H1 => if b = true then t D σ H1 else u D σ H1) : tIfS c t u D σ H := h
theorem k_cutI {t u w : TS} {c : TT} (P : L2.St → Hp → Prop) (h1 : ∀ N : L2.St → Hp → Prop, (∀ σ' H', P σ' H' → N σ' H') → c σ H fun b H1 => if b = true then t { D with nx := N } σ H1 else u { D with nx := N } σ H1) (h2 : ∀ σ' H', P σ' H' → w D σ' H') : tSeq (tIfS c t u) w D σ H := h1 _ h2
/-- the ways of a statement meet again: what holds behind it -/
theorem k_cut {t u : TS} (P : L2.St → Hp → Prop) (h1 : ∀ N : L2.St → Hp → Prop, (∀ σ' H', P σ' H' → N σ' H') → t { D with nx := N } σ H) (h2 : ∀ σ' H', P σ' H' → u D σ' H') : tSeq t u D σ H := h1 _ h2
/-! ### loops -/
theorem k_seqW {t : TT} {tb u : TS} (h : tWhile t tb { D with nx := u D } σ H) : tSeq (tWhile t tb) u D σ H := h
theorem k_seqF {wi : TI} {g : TG} {tb u : TS} (h : tFor wi g tb { D with nx := u D } σ H) : tSeq (tFor wi g tb) u D σ H := h
theorem k_while {t : TT} {tb : TS} (W : Nat → L2.St → Hp → Prop) (m : Nat) (h0 : W m σ H) (hs : ∀ m σ H, W m σ H → t σ H fun b H1 => if b = true then ∃ N : L2.St → Hp → Prop, (∀ σ' H', N σ' H' → ∃ m', m' < m ∧ W m' σ' H') ∧ tb { D with nx := N, ct := N, bk := D.nx } σ H1 else D.nx σ H1) : tWhile t tb D σ H := ⟨W, ⟨m, h0⟩, hs⟩
theorem k_turn {tb : TS} {W : Nat → L2.St → Hp → Prop} {m : Nat} (h : tb { D with nx := fun σ' H' => ∃ m', m' < m ∧ W m' σ' H', ct := fun σ' H' => ∃ m', m' < m ∧ W m' σ' H', bk := D.nx } σ H) : ∃ N : L2.St → Hp → Prop, (∀ σ' H', N σ' H' → ∃ m', m' < m ∧ W m' σ' H') ∧ tb { D with nx := N, ct := N, bk := D.nx } σ H := ⟨_, fun _ _ h => h, h⟩
def ForG (J : It) (g : TG) (tb : TS) (D : Ends) (σ : L2.St) (H1 : Hp) : Prop := ∃ W : Nat → Nat → L2.St → Hp → Prop, (∃ m, W 0 m σ H1) ∧ ∀ i m σ H, W i m σ H →
  (J.stop i H ∧ D.nx σ H) ∨ (J.go i H ∧ ∃ N : L2.St → Hp → Prop, (∀ σ' H', N σ' H' → ∃ m', m' < m ∧ W (i + 1) m' σ' H') ∧ ∀ x H', J.yld i H x H' → g x σ H' fun σ2 H2 => tb { D with nx := N, ct := N, bk := D.nx } σ2 H2)
theorem k_for {wi : TI} {g : TG} {tb : TS} (h : wi σ H fun J H1 => ForG J g tb D σ H1) : tFor wi g tb D σ H := h
/-! ### comprehensions over a range -/
def Rng1 (vs : List V) (H : Hp) (R : It → Hp → Prop) : Prop := ∃ j : Int, vs = [.int j] ∧ -(2 ^ 62) ≤ j ∧ j < 2 ^ 62 ∧ R (Itr 0 j.toNat) H
def Rng2 (vs : List V) (H : Hp) (R : It → Hp → Prop) : Prop := ∃ i j : Int, vs = [.int i, .int j] ∧ (-(2 ^ 62) ≤ i ∧ i < 2 ^ 62 ∧ -(2 ^ 62) ≤ j ∧ j < 2 ^ 62) ∧ R (Itr i (j - i).toNat) H
theorem k_irng1 {R : It → Hp → Prop} (h : tr σ H fun vs H1 => Rng1 vs H1 R) : iRng1 tr σ H R := h
theorem k_irng2 {R : It → Hp → Prop} (h : tr σ H fun vs H1 => Rng2 vs H1 R) : iRng2 tr σ H R := h
theorem k_rng1 {n : Int} {R : It → Hp → Prop} (h0 : -(2 ^ 62) ≤ n ∧ n < 2 ^ 62) (h : R (Itr 0 n.toNat) H) : Rng1 [V.int n] H R := ⟨n, rfl, h0.1, h0.2, h⟩
theorem k_rng2 {n : Int} {R : It → Hp → Prop} (h0 : -(2 ^ 62) ≤ m ∧ m < 2 ^ 62 ∧ -(2 ^ 62) ≤ n ∧ n < 2 ^ 62) (h : R (Itr m (n - m).toNat) H) : Rng2 [V.int m, V.int n] H R := ⟨m, n, rfl, h0, h⟩
def LcG (J : It) (H1 : Hp) (g : TG) (tt : TT) (te : TE) (vs : List Nat) (σ : L2.St) (Q : VK) : Prop := ∀ D, H1 D = none → ∃ W : Nat → Nat → Hp → Prop, (∃ m, W 0 m (upd H1 D (.lst []))) ∧ ∀ i m H, W i m H →
  (J.stop i H ∧ Q (.ref D) H) ∨ (J.go i H ∧ ∃ Nx : Hp → Prop, (∀ H', Nx H' → ∃ m', m' < m ∧ W (i + 1) m' H') ∧ ∀ x H', J.yld i H x H' → g x (wipe σ vs) H' fun σ2 H2 => wipe σ2 vs = wipe σ vs ∧ tt σ2 H2 fun b H3 =>
    if b = true then te σ2 H3 fun y H4 => ∃ acc, H4 D = some (.lst acc) ∧ acc.length < sizeLine ∧ Nx (upd H4 D (.lst (acc ++ [y]))) else Nx H3)
theorem k_lc {wi : TI} {g : TG} {tt : TT} {vs : List Nat} (h : wi σ H fun J H1 => LcG J H1 g tt te vs σ Q) : tLc wi g tt te vs σ H Q := h
/-- [e for k in range(..)]: the list of the values, each told by its place -/
theorem k_lcr {lo : Int} {n j : Nat} (L : List V) (hl : L.length = n) (hz : n ≤ 1000000)
    (hs : ∀ (i : Nat) (v : V) (H2 : Hp) (R : VK), L[i]? = some v → Same H1 H2 → (∀ H3, Same H2 H3 → R v H3) → te (σ.set j (some (.int (lo + i)))) H2 R)
    (q : ∀ D H2, H1 D = none → Same H1 H2 → H2 D = some (.lst L) → Q (.ref D) H2) :
    LcG (Itr lo n) H1 (gName j) tYes te [j] σ Q := by
  intro D hD
  refine lc_range (fun i H' => Same H1 H' ∧ H' D = some (.lst (L.take i))) ⟨same_new hD, by rw [upd_same]; rfl⟩ (fun i H' hi ⟨sm, hd⟩ => ?_) (fun H' ⟨sm, hd⟩ => q D H' hD sm (by rw [hd, List.take_of_length_le (by omega)]))
  have ew : ∀ y : V, (wipe σ [j]).set j (some y) = σ.set j (some y) := fun y => by
    show ((σ.set j none).set j (some y)) = _
    rw [List.set_set]
  show wipe ((wipe σ [j]).set j _) [j] = wipe σ [j] ∧ _
  rw [ew]
  refine ⟨by show (σ.set j _).set j none = σ.set j none; rw [List.set_set], ?_⟩
  refine hs i (L[i]'(by omega)) H' _ (List.getElem?_eq_getElem (by omega)) sm fun H3 s3 => ?_
  refine ⟨L.take i, s3 _ _ hd, Nat.lt_of_le_of_lt (Nat.le_trans (by rw [List.length_take]; exact Nat.min_le_left _ _) (show i ≤ 1000000 by omega)) (by rw [sizeLine_eq]; decide), same_mut (sm.trans s3) hD, ?_⟩
  rw [upd_same, List.take_add_one, List.getElem?_eq_getElem (show i < L.length by omega)]
  rfl
/-! ### comprehensions and loops over a list, a tuple -/
def SqI (J : Addr → It) (ok : Addr → Hp → Prop) (x : V) (H : Hp) (R : It → Hp → Prop) : Prop := ∃ a, x = .ref a ∧ ok a H ∧ R (J a) H
theorem k_itup {tl : TE} {R : It → Hp → Prop} (h : tl σ H fun x H1 => SqI (Itt K) (fun a H => ∃ xs, SqT K H a xs) x H1 R) : iTup K tl σ H R := h
theorem k_ilst {tl : TE} {R : It → Hp → Prop} (h : tl σ H fun x H1 => SqI (Itl K) (fun a H => ∃ xs, SqL K H a xs) x H1 R) : iList K tl σ H R := h
theorem k_sqt {p : Addr} {xs : List V} {R : It → Hp → Prop} (h : SqT K H p xs) (q : R (Itt K p) H) : SqI (Itt K) (fun a H => ∃ xs, SqT K H a xs) (.ref p) H R := ⟨p, rfl, ⟨xs, h⟩, q⟩
theorem k_sql {p : Addr} {xs : List V} {R : It → Hp → Prop} (h : SqL K H p xs) (q : R (Itl K p) H) : SqI (Itl K) (fun a H => ∃ xs, SqL K H a xs) (.ref p) H R := ⟨p, rfl, ⟨xs, h⟩, q⟩
theorem wipe_set {σ : L2.St} {j : Nat} {y : V} : (wipe σ [j]).set j (some y) = σ.set j (some y) := by
  show ((σ.set j none).set j (some y)) = _
  rw [List.set_set]
theorem wipe_set2 {σ : L2.St} {j : Nat} {y : V} : wipe (σ.set j (some y)) [j] = wipe σ [j] := by
  show (σ.set j _).set j none = σ.set j none
  rw [List.set_set]
/-- [e for x in t], t a tuple: the list of the values -/
theorem k_lct {a : Addr} {xs : List V} {j : Nat} (hx : SqT K H1 a xs) (L : List V) (hl : L.length = xs.length) (hz : xs.length ≤ 1000000)
    (hs : ∀ (i : Nat) (x v : V) (H2 : Hp) (R : VK), xs[i]? = some x → L[i]? = some v → Same H1 H2 → (∀ H3, Same H2 H3 → R v H3) → te (σ.set j (some x)) H2 R)
    (q : ∀ D H2, H1 D = none → Same H1 H2 → H2 D = some (.lst L) → Q (.ref D) H2) : LcG (Itt K a) H1 (gName j) tYes te [j] σ Q := by
  intro D hD
  refine lc_tup (fun i H' => Same H1 H' ∧ H' D = some (.lst (L.take i))) ⟨same_new hD, by rw [upd_same]; rfl⟩ (fun i H' _ ⟨sm, _⟩ => same_t sm hx) (fun i x H' hi ⟨sm, hd⟩ => ?_) (fun H' ⟨sm, hd⟩ => q D H' hD sm (by rw [hd, List.take_of_length_le (by omega)]))
  have hil := (List.getElem?_eq_some_iff.mp hi).1
  show wipe ((wipe σ [j]).set j _) [j] = wipe σ [j] ∧ _
  rw [wipe_set]
  refine ⟨wipe_set2, ?_⟩
  refine hs i x (L[i]'(by omega)) H' _ hi (List.getElem?_eq_getElem (by omega)) sm fun H3 s3 => ?_
  refine ⟨L.take i, s3 _ _ hd, Nat.lt_of_le_of_lt (Nat.le_trans (by rw [List.length_take]; exact Nat.min_le_left _ _) (show i ≤ 1000000 by omega)) (by rw [sizeLine_eq]; decide), same_mut (sm.trans s3) hD, ?_⟩
  rw [upd_same, List.take_add_one, List.getElem?_eq_getElem (show i < L.length by omega)]
  rfl
/-- [e for x in xs], xs a list -/
theorem k_lcl {a : Addr} {xs : List V} {j : Nat} (hx : SqL K H1 a xs) (L : List V) (hl : L.length = xs.length) (hz : xs.length ≤ 1000000)
    (hs : ∀ (i : Nat) (x v : V) (H2 : Hp) (R : VK), xs[i]? = some x → L[i]? = some v → Same H1 H2 → (∀ H3, Same H2 H3 → R v H3) → te (σ.set j (some x)) H2 R)
    (q : ∀ D H2, H1 D = none → Same H1 H2 → H2 D = some (.lst L) → Q (.ref D) H2) : LcG (Itl K a) H1 (gName j) tYes te [j] σ Q := by
  intro D hD
  refine lc_list (fun i H' => Same H1 H' ∧ H' D = some (.lst (L.take i))) ⟨same_new hD, by rw [upd_same]; rfl⟩ (fun i H' _ ⟨sm, _⟩ => same_l sm hx) (fun i x H' hi ⟨sm, hd⟩ => ?_) (fun H' ⟨sm, hd⟩ => q D H' hD sm (by rw [hd, List.take_of_length_le (by omega)]))
  have hil := (List.getElem?_eq_some_iff.mp hi).1
  show wipe ((wipe σ [j]).set j _) [j] = wipe σ [j] ∧ _
  rw [wipe_set]
  refine ⟨wipe_set2, ?_⟩
  refine hs i x (L[i]'(by omega)) H' _ hi (List.getElem?_eq_getElem (by omega)) sm fun H3 s3 => ?_
  refine ⟨L.take i, s3 _ _ hd, Nat.lt_of_le_of_lt (Nat.le_trans (by rw [List.length_take]; exact Nat.min_le_left _ _) (show i ≤ 1000000 by omega)) (by rw [sizeLine_eq]; decide), same_mut (sm.trans s3) hD, ?_⟩
  rw [upd_same, List.take_add_one, List.getElem?_eq_getElem (show i < L.length by omega)]
  rfl
theorem rgc_pos {a b c : Int} (ha : 0 ≤ a) (ha' : a ≤ 1000000000) (hb : 0 ≤ b) (hb' : b ≤ 1000000000) (hc : 1 ≤ c) (hc' : c ≤ 1000000000) :
    ∃ n : Nat, RgC a b c n ∧ (n : Int) ≤ b ∧ ∀ i : Nat, i < n ↔ a + i * c < b := by
  have hpos : (0 : Int) ≤ Builtin.Range.rangeSize a b c := by
    unfold Builtin.Range.rangeSize
    rw [if_pos (by omega)]
    split
    · have := Int.ediv_nonneg (a := b - a - 1) (b := c) (by omega) (by omega); omega
    · omega
  have hle : Builtin.Range.rangeSize a b c ≤ b := by
    unfold Builtin.Range.rangeSize
    rw [if_pos (by omega)]
    split
    · have := Int.ediv_le_self c (show 0 ≤ b - a - 1 by omega); omega
    · omega
  obtain ⟨n, hn⟩ := Int.eq_ofNat_of_zero_le hpos
  refine ⟨n, ⟨by omega, by omega, ?_, hn⟩, by omega, fun i => ?_⟩
  · unfold Builtin.Range.small
    simp only [Builtin.Range.rangeFitsLong, Bool.and_eq_true, Bool.or_eq_true, decide_eq_true_eq, beq_iff_eq]
    rw [if_pos (show c > 0 by omega)]
    simp only [Bool.and_eq_true, decide_eq_true_eq]
    refine ⟨⟨⟨⟨?_, ?_⟩, ?_⟩, ?_⟩, .inr ?_⟩ <;> omega
  · unfold Builtin.Range.rangeSize at hn
    rw [if_pos (show c > 0 by omega)] at hn
    have e1 := Int.emod_add_mul_ediv (b - a - 1) c
    have e2 := Int.emod_nonneg (b - a - 1) (show c ≠ 0 by omega)
    have e3 := Int.emod_lt_of_pos (b - a - 1) (show 0 < c by omega)
    by_cases hab : a < b
    · rw [if_pos hab] at hn
      generalize (b - a - 1) / c = q at *
      constructor
      · intro hi
        have : c * (i : Int) ≤ c * q := Int.mul_le_mul_of_nonneg_left (by omega) (by omega)
        rw [Int.mul_comm (i : Int)]; omega
      · intro hi
        by_cases h : (i : Int) ≤ q
        · omega
        · have : c * (q + 1) ≤ c * (i : Int) := Int.mul_le_mul_of_nonneg_left (by omega) (by omega)
          rw [Int.mul_add] at this
          rw [Int.mul_comm (i : Int)] at hi; omega
    · rw [if_neg hab] at hn
      constructor
      · intro hi; omega
      · intro hi
        have : 0 ≤ (i : Int) * c := Int.mul_nonneg (by omega) (by omega)
        omega
def Rng3 (vs : List V) (H : Hp) (R : It → Hp → Prop) : Prop := ∃ (i j c : Int) (n : Nat), vs = [.int i, .int j, .int c] ∧ RgC i j c n ∧ R (Itc i c n) H
theorem k_irng3 {R : It → Hp → Prop} (h : tr σ H fun vs H1 => Rng3 vs H1 R) : iRng3 tr σ H R := h
theorem k_rng3 {i j c : Int} {n : Nat} {R : It → Hp → Prop} (h0 : RgC i j c n) (h : R (Itc i c n) H) : Rng3 [V.int i, V.int j, V.int c] H R := ⟨i, j, c, n, rfl, h0, h⟩
/-! ### list(range(..)), list + list -/
def LstRg (x : V) (H : Hp) (Q : VK) : Prop := ∃ n, x = .int n ∧ (RgOk 0 n ∧ ∀ q, H q = none → Q (.ref q) (upd H q (.lst (rgV 0 n))))
theorem k_lstrg (h : ta σ H fun x H1 => LstRg x H1 Q) : tLstRg (tRg1 ta) σ H Q := h
theorem k_lstrgV (h0 : 0 ≤ a ∧ a ≤ 16777216) (h : ∀ p H2, H p = none → Same H H2 → H2 p = some (.lst (rgV 0 a)) → Q (.ref p) H2) : LstRg (.int a) H Q :=
  ⟨a, rfl, RgOk.of_le (by omega) h0.2 (by omega) h0.1, fun p hp => h p _ hp (same_new hp) upd_same⟩
/-! ### any comprehension: over what tells n items one by one, with a test -/
theorem k_lcG {J : It} {n j : Nat} {item : Nat → V} {tt : TT} (p : Nat → Bool) (g : Nat → V) (hz : n ≤ 1000000)
    (hgo : ∀ i H2, Same H1 H2 → i < n → J.go i H2) (hy : ∀ i H2 x H', Same H1 H2 → i < n → J.yld i H2 x H' → H' = H2 ∧ x = item i) (hst : ∀ H2, Same H1 H2 → J.stop n H2)
    (ht : ∀ i H2 (R : Bool → Hp → Prop), i < n → Same H1 H2 → (∀ H3, Same H2 H3 → R (p i) H3) → tt (σ.set j (some (item i))) H2 R)
    (hv : ∀ i H2 (R : VK), i < n → p i = true → Same H1 H2 → (∀ H3, Same H2 H3 → R (g i) H3) → te (σ.set j (some (item i))) H2 R)
    (q : ∀ D H2, H1 D = none → Same H1 H2 → H2 D = some (.lst (((List.range n).filter p).map g)) → Q (.ref D) H2) : LcG J H1 (gName j) tt te [j] σ Q := by
  intro D hD
  refine ⟨fun i m H' => m = n - i ∧ i ≤ n ∧ Same H1 H' ∧ H' D = some (.lst (((List.range i).filter p).map g)), ⟨n, rfl, Nat.zero_le _, same_new hD, by rw [upd_same]; rfl⟩, ?_⟩
  rintro i m H' ⟨rfl, hi, sm, hd⟩
  by_cases hlt : i < n
  · refine .inr ⟨hgo i H' sm hlt, fun H'' => i + 1 ≤ n ∧ Same H1 H'' ∧ H'' D = some (.lst (((List.range (i + 1)).filter p).map g)), fun H'' ⟨a, b, c⟩ => ⟨n - (i + 1), by omega, rfl, a, b, c⟩, fun x H'' y => ?_⟩
    obtain ⟨rfl, rfl⟩ := hy i H' x H'' sm hlt y
    show wipe ((wipe σ [j]).set j _) [j] = wipe σ [j] ∧ _
    rw [wipe_set]
    refine ⟨wipe_set2, ht i H'' _ hlt sm fun H3 s3 => ?_⟩
    have er : ((List.range (i + 1)).filter p).map g = ((List.range i).filter p).map g ++ (if p i = true then [g i] else []) := by
      rw [List.range_succ, List.filter_append, List.map_append]
      congr 1
      by_cases h : p i = true <;> simp [h]
    cases hp : p i with
    | true =>
      refine hv i H3 _ hlt hp (sm.trans s3) fun H4 s4 => ?_
      refine ⟨_, s4 _ _ (s3 _ _ hd), ?_, hlt, same_mut ((sm.trans s3).trans s4) hD, ?_⟩
      · rw [List.length_map]
        refine Nat.lt_of_le_of_lt (Nat.le_trans (List.length_filter_le _ _) (by rw [List.length_range]; exact (show i ≤ 1000000 by omega))) (by rw [sizeLine_eq]; decide)
      · rw [upd_same, er, if_pos hp]
    | false =>
      refine ⟨hlt, sm.trans s3, ?_⟩
      rw [s3 _ _ hd, er, if_neg (by rw [hp]; decide), List.append_nil]
  · have e : i = n := by omega
    subst e
    exact .inl ⟨hst H' sm, q D H' hD sm hd⟩
theorem k_lcrf {lo : Int} {n j : Nat} {tt : TT} (p : Nat → Bool) (g : Nat → V) (hz : n ≤ 1000000)
    (ht : ∀ i H2 (R : Bool → Hp → Prop), i < n → Same H1 H2 → (∀ H3, Same H2 H3 → R (p i) H3) → tt (σ.set j (some (.int (lo + i)))) H2 R)
    (hv : ∀ i H2 (R : VK), i < n → p i = true → Same H1 H2 → (∀ H3, Same H2 H3 → R (g i) H3) → te (σ.set j (some (.int (lo + i)))) H2 R)
    (q : ∀ D H2, H1 D = none → Same H1 H2 → H2 D = some (.lst (((List.range n).filter p).map g)) → Q (.ref D) H2) : LcG (Itr lo n) H1 (gName j) tt te [j] σ Q :=
  k_lcG (item := fun i => .int (lo + i)) p g hz (fun i H2 _ h => h) (fun i H2 x H' _ _ y => ⟨y.1, y.2⟩) (fun H2 _ => Nat.le_refl _) ht hv q
theorem k_lccf {lo c : Int} {n j : Nat} {tt : TT} (p : Nat → Bool) (g : Nat → V) (hz : n ≤ 1000000)
    (ht : ∀ i H2 (R : Bool → Hp → Prop), i < n → Same H1 H2 → (∀ H3, Same H2 H3 → R (p i) H3) → tt (σ.set j (some (.int (lo + (i : Nat) * c)))) H2 R)
    (hv : ∀ i H2 (R : VK), i < n → p i = true → Same H1 H2 → (∀ H3, Same H2 H3 → R (g i) H3) → te (σ.set j (some (.int (lo + (i : Nat) * c)))) H2 R)
    (q : ∀ D H2, H1 D = none → Same H1 H2 → H2 D = some (.lst (((List.range n).filter p).map g)) → Q (.ref D) H2) : LcG (Itc lo c n) H1 (gName j) tt te [j] σ Q :=
  k_lcG (item := fun i => .int (lo + (i : Nat) * c)) p g hz (fun i H2 _ h => h) (fun i H2 x H' _ _ y => ⟨y.1, y.2⟩) (fun H2 _ => Nat.le_refl _) ht hv q
theorem k_lclf {a : Addr} {xs : List V} {j : Nat} {tt : TT} (hx : SqL K H1 a xs) (p : Nat → Bool) (g : Nat → V) (hz : xs.length ≤ 1000000)
    (ht : ∀ i H2 (R : Bool → Hp → Prop), i < xs.length → Same H1 H2 → (∀ H3, Same H2 H3 → R (p i) H3) → tt (σ.set j (some (xs.getD i .non))) H2 R)
    (hv : ∀ i H2 (R : VK), i < xs.length → p i = true → Same H1 H2 → (∀ H3, Same H2 H3 → R (g i) H3) → te (σ.set j (some (xs.getD i .non))) H2 R)
    (q : ∀ D H2, H1 D = none → Same H1 H2 → H2 D = some (.lst (((List.range xs.length).filter p).map g)) → Q (.ref D) H2) : LcG (Itl K a) H1 (gName j) tt te [j] σ Q :=
  k_lcG (item := fun i => xs.getD i .non) p g hz (fun i H2 s h => ⟨xs, xs[i], same_l s hx, by simp [h]⟩) (fun i H2 x H' s h y => by
    obtain ⟨e, y⟩ := y
    refine ⟨e, ?_⟩
    have := y xs (same_l s hx)
    rw [List.getD_eq_getElem?_getD, this]; rfl) (fun H2 s => ⟨xs, same_l s hx, Nat.le_refl _⟩) ht hv q
theorem range_all {α : Type} (xs : List α) (d : α) : ((List.range xs.length).filter fun _ => true).map (fun i => xs.getD i d) = xs := by
  rw [List.filter_eq_self.mpr (fun _ _ => rfl)]
  apply List.ext_getElem
  · simp
  · intro i h1 h2
    simp [List.getD_eq_getElem?_getD, List.getElem?_eq_getElem h2]
/-! ### operators by values -/
def rAddA : R2 := fun x y H Q => rI0 (fun i j => .int (i + j)) x y H Q ∨ (∃ i j, x = .str i ∧ y = .str j ∧ i.length + j.length ≤ sizeLine ∧ Q (.str (i ++ j)) H) ∨ rCat x y H Q
theorem op_addA {X : Cx} : OpR X (binaryOp .Add) rAddA := op_add.or (op_add_str.or op_cat)
theorem k_add (q : Q (.int (a + b)) H) : rAddA (.int a) (.int b) H Q := .inl ⟨a, b, rfl, rfl, q⟩
theorem k_cat {l c : Addr} {xs zs : List V} (h1 : H l = some (.lst xs)) (h2 : H c = some (.lst zs)) (hl : xs.length + zs.length ≤ 16000000) (h : ∀ p H2, H p = none → Same H H2 → H2 p = some (.lst (xs ++ zs)) → Q (.ref p) H2) : rAddA (.ref l) (.ref c) H Q :=
  .inr (.inr ⟨l, c, xs, zs, rfl, rfl, h1, h2, Nat.le_trans hl (by rw [sizeLine_eq]; decide), fun p hp => h p _ hp (same_new hp) upd_same⟩)
def rEqA (K : PySem.W.Frag) : R2 := fun x y H Q => rEq x y H Q ∨ rEqD K x y H Q
def rNeA (K : PySem.W.Frag) : R2 := fun x y H Q => rNe x y H Q ∨ rNeD K x y H Q
theorem op_eqA {X : Cx} (hu : X.A.units + 64 < cLine) : OpR X (compareOp .Eq) (rEqA X.K) := op_eq.or (op_eqD hu)
theorem op_neA {X : Cx} (hu : X.A.units + 64 < cLine) : OpR X (compareOp .NotEq) (rNeA X.K) := op_ne.or (op_neD hu)
theorem dec_i : decide (V.int a = V.int b) = decide (a = b) := by
  by_cases h : a = b
  · subst h; simp
  · rw [decide_eq_false h, decide_eq_false (fun e => h (V.int.inj e))]
theorem dec_b {a b : Bool} : decide (V.bl a = V.bl b) = decide (a = b) := by
  by_cases h : a = b
  · subst h; simp
  · rw [decide_eq_false h, decide_eq_false (fun e => h (V.bl.inj e))]
theorem dec_s {a b : Str} : decide (V.str a = V.str b) = decide (a = b) := by
  by_cases h : a = b
  · subst h; simp
  · rw [decide_eq_false h, decide_eq_false (fun e => h (V.str.inj e))]
theorem k_eq (q : Q (.bl (decide (a = b))) H) : rEqA K (.int a) (.int b) H Q := .inl ⟨rfl, by rw [dec_i]; exact q⟩
theorem k_ne (q : Q (.bl (!decide (a = b))) H) : rNeA K (.int a) (.int b) H Q := .inl ⟨rfl, by rw [dec_i]; exact q⟩
theorem k_eqb {a b : Bool} (q : Q (.bl (decide (a = b))) H) : rEqA K (.bl a) (.bl b) H Q := .inl ⟨rfl, by rw [dec_b]; exact q⟩
theorem k_neb {a b : Bool} (q : Q (.bl (!decide (a = b))) H) : rNeA K (.bl a) (.bl b) H Q := .inl ⟨rfl, by rw [dec_b]; exact q⟩
theorem k_eqs {a b : Str} (q : Q (.bl (decide (a = b))) H) : rEqA K (.str a) (.str b) H Q := .inl ⟨rfl, by rw [dec_s]; exact q⟩
theorem k_nes {a b : Str} (q : Q (.bl (!decide (a = b))) H) : rNeA K (.str a) (.str b) H Q := .inl ⟨rfl, by rw [dec_s]; exact q⟩
theorem k_ixT {p : Addr} {xs : List V} {i : Int} (h : SqT K H p xs) (ha : atI xs i = some v) (q : Q v H) : rIx K (.ref p) (.int i) H Q := .inr (.inl ⟨p, xs, i, v, rfl, rfl, h, ha, q⟩)
theorem k_ixL {p : Addr} {xs : List V} {i : Int} (h : SqL K H p xs) (ha : atI xs i = some v) (q : Q v H) : rIx K (.ref p) (.int i) H Q := .inl ⟨p, xs, i, v, rfl, rfl, h, ha, q⟩
theorem inV_ints {a : Int} : ∀ l : List Int, inV (.int a) (l.map V.int) = decide (a ∈ l)
  | [] => rfl
  | x :: r => by
    have ih := inV_ints (a := a) r
    show (inV (.int a) (.int x :: r.map V.int)) = _
    unfold inV at ih ⊢
    rw [List.any_cons, ih]
    have e : eqV (.int x) (.int a) = decide (a = x) := by
      show (x == a) = decide (a = x)
      by_cases h : a = x
      · subst h; simp
      · rw [decide_eq_false h]; simpa using fun e => h e.symm
    by_cases h : a = x
    · subst h; simp [e]
    · simp [e, h]
theorem flat_ints : ∀ l : List Int, (l.map V.int).all flatV = true
  | [] => rfl
  | x :: r => by rw [List.map_cons, List.all_cons, flat_ints r]; rfl
theorem k_inL {neg : Bool} {p : Addr} {l : List Int} (h : SqL K H p (l.map V.int)) (q : Q (.bl (if neg then !decide (a ∈ l) else decide (a ∈ l))) H) : rIn K neg (.int a) (.ref p) H Q :=
  ⟨p, l.map V.int, rfl, .inl h, rfl, flat_ints l, by rw [inV_ints]; exact q⟩
theorem k_notinL {p : Addr} {l : List Int} (h : SqL K H p (l.map V.int)) (q : Q (.bl (!decide (a ∈ l))) H) : rIn K true (.int a) (.ref p) H Q := k_inL (neg := true) h q
theorem k_inL' {p : Addr} {l : List Int} (h : SqL K H p (l.map V.int)) (q : Q (.bl (decide (a ∈ l))) H) : rIn K false (.int a) (.ref p) H Q := k_inL (neg := false) h q
theorem inV2 {x y : Int} : inV (.int a) [.int x, .int y] = decide (a = x ∨ a = y) := by
  have h := inV_ints (a := a) [x, y]
  have e : (decide (a ∈ [x, y])) = decide (a = x ∨ a = y) := by
    have : a ∈ [x, y] ↔ (a = x ∨ a = y) := by simp
    simp [this]
  exact h.trans e
theorem k_notin2 {p : Addr} {x y : Int} (h : SqL K H p [.int x, .int y]) (q : Q (.bl (!decide (a = x ∨ a = y))) H) : rIn K true (.int a) (.ref p) H Q :=
  ⟨p, _, rfl, .inl h, rfl, rfl, by rw [inV2]; exact q⟩
theorem k_in2 {p : Addr} {x y : Int} (h : SqL K H p [.int x, .int y]) (q : Q (.bl (decide (a = x ∨ a = y))) H) : rIn K false (.int a) (.ref p) H Q :=
  ⟨p, _, rfl, .inl h, rfl, rfl, by rw [inV2]; exact q⟩
def rIsN : R2 := fun x y H Q => y = .non ∧ Q (.bl (decide (x = .non))) H
def rNotN : R2 := fun x y H Q => y = .non ∧ Q (.bl (!decide (x = .non))) H
theorem kb_isN {X : Cx} : OpR X (compareOp .Is) rIsN := op_isN
theorem kb_notN {X : Cx} : OpR X (compareOp .IsNot) rNotN := op_notN
theorem k_isN_n (q : Q (.bl true) H) : rIsN .non .non H Q := ⟨rfl, q⟩
theorem k_isN_i (q : Q (.bl false) H) : rIsN (.int a) .non H Q := ⟨rfl, q⟩
theorem k_isN_r {p : Addr} (q : Q (.bl false) H) : rIsN (.ref p) .non H Q := ⟨rfl, q⟩
theorem k_notN_n (q : Q (.bl false) H) : rNotN .non .non H Q := ⟨rfl, q⟩
theorem k_notN_i (q : Q (.bl true) H) : rNotN (.int a) .non H Q := ⟨rfl, q⟩
theorem k_notN_r {p : Addr} (q : Q (.bl true) H) : rNotN (.ref p) .non H Q := ⟨rfl, q⟩
/-! ### == of pairs and lists of ints -/
theorem dp_ints : ∀ l : List Int, DpAll K H (l.map V.int) (l.map PyData.int)
  | [] => .nil
  | x :: r => .cons (.int x) (dp_ints r)
theorem eqv_ints : ∀ l m : List Int, PyData.eqvAll (l.map PyData.int) (m.map PyData.int) = decide (l = m)
  | [], [] => by simp [PyData.eqvAll]
  | [], _ :: _ => by simp [PyData.eqvAll]
  | _ :: _, [] => by simp [PyData.eqvAll]
  | x :: r, y :: t => by
    rw [List.map_cons, List.map_cons, PyData.eqvAll, eqv_ints r t, PyData.eqv]
    by_cases h : x = y <;> simp [h]
theorem shaped_tints (l : List Int) : SeqAt.shaped (.tuple (l.map PyData.int)) = true := by
  have h1 : ∀ l : List Int, PyData.canLayAll0 (l.map PyData.int) = true := fun l => by
    induction l with
    | nil => rfl
    | cons x r ih => rw [List.map_cons]; simp [PyData.canLayAll0, PyData.canLay0, ih]
  have h2 : ∀ l : List Int, PyData.depthAll (l.map PyData.int) ≤ 1 := fun l => by
    induction l with
    | nil => simp [PyData.depthAll]
    | cons x r ih => rw [List.map_cons]; simp [PyData.depthAll, PyData.depth]; omega
  have := h2 l
  simp [SeqAt.shaped, PyData.canLay0, PyData.depth, h1 l]
  omega
theorem shaped_lints (l : List Int) : SeqAt.shaped (.list (l.map PyData.int)) = true := by
  have h1 : ∀ l : List Int, PyData.canLayAll0 (l.map PyData.int) = true := fun l => by
    induction l with
    | nil => rfl
    | cons x r ih => rw [List.map_cons]; simp [PyData.canLayAll0, PyData.canLay0, ih]
  have h2 : ∀ l : List Int, PyData.depthAll (l.map PyData.int) ≤ 1 := fun l => by
    induction l with
    | nil => simp [PyData.depthAll]
    | cons x r ih => rw [List.map_cons]; simp [PyData.depthAll, PyData.depth]; omega
  have := h2 l
  simp [SeqAt.shaped, PyData.canLay0, PyData.depth, h1 l]
  omega
theorem k_eqT {p q : Addr} {l m : List Int} (h1 : SqT K H p (l.map V.int)) (h2 : SqT K H q (m.map V.int)) (r : Q (.bl (decide (l = m))) H) : rEqA K (.ref p) (.ref q) H Q :=
  .inr ⟨_, _, .tup h1 (dp_ints l), .tup h2 (dp_ints m), shaped_tints l, shaped_tints m, by rw [PyData.eqv, eqv_ints]; exact r⟩
theorem k_neT {p q : Addr} {l m : List Int} (h1 : SqT K H p (l.map V.int)) (h2 : SqT K H q (m.map V.int)) (r : Q (.bl (!decide (l = m))) H) : rNeA K (.ref p) (.ref q) H Q :=
  .inr ⟨_, _, .tup h1 (dp_ints l), .tup h2 (dp_ints m), shaped_tints l, shaped_tints m, by rw [PyData.eqv, eqv_ints]; exact r⟩
theorem k_eqL {p q : Addr} {l m : List Int} (h1 : SqL K H p (l.map V.int)) (h2 : SqL K H q (m.map V.int)) (r : Q (.bl (decide (l = m))) H) : rEqA K (.ref p) (.ref q) H Q :=
  .inr ⟨_, _, .lst h1 (dp_ints l), .lst h2 (dp_ints m), shaped_lints l, shaped_lints m, by rw [PyData.eqv, eqv_ints]; exact r⟩
theorem k_neL {p q : Addr} {l m : List Int} (h1 : SqL K H p (l.map V.int)) (h2 : SqL K H q (m.map V.int)) (r : Q (.bl (!decide (l = m))) H) : rNeA K (.ref p) (.ref q) H Q :=
  .inr ⟨_, _, .lst h1 (dp_ints l), .lst h2 (dp_ints m), shaped_lints l, shaped_lints m, by rw [PyData.eqv, eqv_ints]; exact r⟩
theorem k_eqP {p q : Addr} {c d : Int} (h1 : SqT K H p [.int a, .int b]) (h2 : SqT K H q [.int c, .int d]) (r : Q (.bl (decide (a = c ∧ b = d))) H) : rEqA K (.ref p) (.ref q) H Q :=
  k_eqT (l := [a, b]) (m := [c, d]) h1 h2 (by
    have e : decide ([a, b] = [c, d]) = decide (a = c ∧ b = d) := by simp
    rw [e]; exact r)
theorem k_neP {p q : Addr} {c d : Int} (h1 : SqT K H p [.int a, .int b]) (h2 : SqT K H q [.int c, .int d]) (r : Q (.bl (!decide (a = c ∧ b = d))) H) : rNeA K (.ref p) (.ref q) H Q :=
  k_neT (l := [a, b]) (m := [c, d]) h1 h2 (by
    have e : decide ([a, b] = [c, d]) = decide (a = c ∧ b = d) := by simp
    rw [e]; exact r)
/-! ### calls of built-ins by values -/
def rAbs : List V → Hp → VK → Prop := fun xs H Q => ∃ i, xs = [.int i] ∧ Q (.int (if i < 0 then -i else i)) H
theorem cb_abs {X : Cx} : CallR X (.builtin "abs") rAbs := call_abs
theorem k_abs (q : Q (.int (if a < 0 then -a else a)) H) : rAbs [.int a] H Q := ⟨a, rfl, q⟩
def rMax2 : List V → Hp → VK → Prop := fun xs H Q => ∃ i j, xs = [.int i, .int j] ∧ Q (.int (if j > i then j else i)) H
theorem cb_max2 {X : Cx} (hc : X.calm = true) : CallR X (.builtin "max") rMax2 := call_max2 hc
theorem k_max2 (q : ∀ k : Int, (k = a ∨ k = b) → a ≤ k → b ≤ k → Q (.int k) H) : rMax2 [.int a, .int b] H Q := ⟨a, b, rfl, by split <;> exact q _ (by omega) (by omega) (by omega)⟩
def rMin2 : List V → Hp → VK → Prop := fun xs H Q => ∃ i j, xs = [.int i, .int j] ∧ Q (.int (if j < i then j else i)) H
theorem cb_min2 {X : Cx} (hc : X.calm = true) : CallR X (.builtin "min") rMin2 := call_min2 hc
theorem k_min2 (q : ∀ k : Int, (k = a ∨ k = b) → k ≤ a → k ≤ b → Q (.int k) H) : rMin2 [.int a, .int b] H Q := ⟨a, b, rfl, by split <;> exact q _ (by omega) (by omega) (by omega)⟩
def rLen (K : PySem.W.Frag) : List V → Hp → VK → Prop := fun xs H Q => ∃ x n, xs = [x] ∧ LenV K x H n ∧ Q (.int n) H
theorem cb_len {X : Cx} : CallR X (.builtin "len") (rLen X.K) := call_len
theorem k_lenL {p : Addr} {xs : List V} (h : SqL K H p xs) (q : Q (.int (xs.length : Int)) H) : rLen K [.ref p] H Q := ⟨.ref p, xs.length, rfl, .inl ⟨xs, h, rfl⟩, q⟩
theorem k_lenT {p : Addr} {xs : List V} (h : SqT K H p xs) (q : Q (.int (xs.length : Int)) H) : rLen K [.ref p] H Q := ⟨.ref p, xs.length, rfl, .inr ⟨xs, h, rfl⟩, q⟩
def rDivmod : List V → Hp → VK → Prop := fun xs H Q => ∃ i j, xs = [.int i, .int j] ∧ CDivP i j ∧ ∀ p, H p = none → Q (.ref p) (upd H p (.tup [.int (i / j), .int (i % j)]))
theorem cb_divmod {X : Cx} : CallR X (.builtin "divmod") rDivmod := call_divmodW
theorem k_divmod (c : CDivP a b) (h : ∀ p H2, H p = none → Same H H2 → H2 p = some (.tup [.int (a / b), .int (a % b)]) → Q (.ref p) H2) : rDivmod [.int a, .int b] H Q :=
  ⟨a, b, rfl, c, fun p hp => h p _ hp (same_new hp) upd_same⟩
theorem k_sum {p : Addr} {l : List Int} (h : SqL K H p (l.map V.int)) (q : Q (.int l.sum) H) : rSum K [.ref p] H Q := ⟨p, l, rfl, h, q⟩
theorem k_all {p : Addr} {l : List Bool} (h : SqL K H p (l.map V.bl)) (q : Q (.bl (l.all id)) H) : rAll K [.ref p] H Q := ⟨p, l, rfl, h, q⟩
theorem k_any {p : Addr} {l : List Bool} (h : SqL K H p (l.map V.bl)) (q : Q (.bl (l.any id)) H) : rAny K [.ref p] H Q := ⟨p, l, rfl, h, q⟩
def BitsV (x : V) (H : Hp) (Q : VK) : Prop := ∃ i, x = .int i ∧ Q (.int (Builtin.Int.intBits i : Nat)) H
theorem k_bits (h : ta σ H fun x H1 => BitsV x H1 Q) : tBits ta σ H Q := h
theorem k_bitsV (q : Q (.int (Builtin.Int.intBits a : Nat)) H) : BitsV (.int a) H Q := ⟨a, rfl, q⟩
def rInt : List V → Hp → VK → Prop := fun xs H Q => (∃ i, xs = [.int i] ∧ Q (.int i) H) ∨ ∃ k, xs = [.bl k] ∧ Q (.int (if k then 1 else 0)) H
theorem cb_int {X : Cx} : CallR X (.type "int") rInt := call_int1
theorem k_intI (q : Q (.int a) H) : rInt [.int a] H Q := .inl ⟨a, rfl, q⟩
theorem k_intB {c : Bool} (q : Q (.int (if c then 1 else 0)) H) : rInt [.bl c] H Q := .inr ⟨c, rfl, q⟩
theorem k_isi_ii (q : Q (.bl true) H) : rIsi K [.int a, .ty "int"] H Q := ⟨.int a, .ty "int", .type "int", .type "int", true, rfl, .ty _, .base (.int _), kit_ty (by decide +kernel), q⟩
theorem k_isi_ib (q : Q (.bl false) H) : rIsi K [.int a, .ty "bool"] H Q := ⟨.int a, .ty "bool", .type "int", .type "bool", false, rfl, .ty _, .base (.int _), kit_ty (by decide +kernel), q⟩
theorem k_isi_bb {c : Bool} (q : Q (.bl true) H) : rIsi K [.bl c, .ty "bool"] H Q := ⟨.bl c, .ty "bool", .type "bool", .type "bool", true, rfl, .ty _, .base (.bl _), kit_ty (by decide +kernel), q⟩
theorem k_isi_it (q : Q (.bl false) H) : rIsi K [.int a, .ty "tuple"] H Q := ⟨.int a, .ty "tuple", .type "int", .type "tuple", false, rfl, .ty _, .base (.int _), kit_ty (by decide +kernel), q⟩
theorem tyx_t {p : Addr} {xs : List V} (h : SqT K H p xs) : TyX K H (.ref p) (.type "tuple") := by
  rcases h with (h | ⟨o, h⟩) | ⟨o, its, n, l, c, _⟩
  · exact .base (.tup h)
  · exact .fTuple h
  · exact .kTuple l c
theorem k_isi_tt {p : Addr} {xs : List V} (h : SqT K H p xs) (q : Q (.bl true) H) : rIsi K [.ref p, .ty "tuple"] H Q := ⟨.ref p, .ty "tuple", .type "tuple", .type "tuple", true, rfl, .ty _, tyx_t h, kit_ty (by decide +kernel), q⟩
/-! ### the rules that speak of the written part, by its own letter -/
section
variable {X : Cx} (K : PySem.W.Frag) (hK : X.K = K := by rfl)
include hK
theorem kb_ix : IxR X (rIx K) := hK ▸ ix_seq
theorem kb_eq (hu : X.A.units + 64 < cLine) : OpR X (compareOp .Eq) (rEqA K) := hK ▸ op_eqA hu
theorem kb_ne (hu : X.A.units + 64 < cLine) : OpR X (compareOp .NotEq) (rNeA K) := hK ▸ op_neA hu
theorem kb_in : OpR X (compareOp .In) (rIn K false) := hK ▸ op_in_seq
theorem kb_notIn : OpR X (compareOp .NotIn) (rIn K true) := hK ▸ op_notIn_seq
theorem kb_len : CallR X (.builtin "len") (rLen K) := hK ▸ cb_len
theorem kb_isi : CallR X (.builtin "isinstance") (rIsi K) := hK ▸ call_isi
theorem kb_sum (hc : X.calm = true) : CallR X (.builtin "sum") (rSum K) := hK ▸ cr_sum hc
theorem kb_max (hc : X.calm = true) : CallR X (.builtin "max") (rMax K) := hK ▸ cr_max hc
theorem kb_min (hc : X.calm = true) : CallR X (.builtin "min") (rMin K) := hK ▸ cr_min hc
theorem kb_all (hc : X.calm = true) : CallR X (.builtin "all") (rAll K) := hK ▸ cr_all hc
theorem kb_any (hc : X.calm = true) : CallR X (.builtin "any") (rAny K) := hK ▸ cr_any hc
end
/-- // by any divisor but 0, below 2 ^ 9000 -/
def CDivX (_ j : Int) : Prop := j ≠ 0 ∧ j.natAbs.log2 < 9000
theorem op_fdivX {X : Cx} : OpR X (binaryOp .FloorDiv) (rI CDivX fun i j => .int (i.fdiv j)) := opI fun i j _ _ _ _ _ hc q => floordiv_int hc.1 q (.inl (PyProof.noPylong_of_log2 hc.2))
/-- a power of written numbers -/
theorem pe_powc {X : Cx} {b e n : Int} {j1 j2 : Nat} {p1 p2 pos : Pos} (h : (0 ≤ e ∧ e ≤ 1000000 ∧ b.natAbs < 2 ^ 64) ∧ b ^ e.toNat = n) : PE X (.BinOp (.Constant (.int b) j1 p1) .Pow (.Constant (.int e) j2 p2) pos) (tC (.int n)) :=
  ⟨fun pins s σ H Q I q => (pe_op (X := X) op_pow pe_int pe_int).run pins s σ H Q I ⟨b, e, rfl, rfl, h.1, by show Q (.int (b ^ e.toNat)) H; rw [h.2]; exact q⟩⟩
end
/-! ### sizes -/
structure Sm (n : Nat) (i : Int) : Prop where
  h : i.natAbs < 2 ^ n
theorem sm_lit {i : Int} (h : i.natAbs < 2 ^ 400) : Sm 400 i := ⟨h⟩
theorem sm_mono {a b : Nat} {i : Int} (h : Sm a i) (hab : a ≤ b) : Sm b i := ⟨Nat.lt_of_lt_of_le h.h (Nat.pow_le_pow_right (by decide) hab)⟩
theorem sm41 {i : Int} (h1 : -1000000000000000000000000000000000000000000000000000000000000 ≤ i) (h2 : i ≤ 1000000000000000000000000000000000000000000000000000000000000) : Sm 200 i := by
  have e : (2 : Nat) ^ 200 = 1606938044258990275541962092341162602522202993782792835301376 := by decide
  refine ⟨?_⟩
  rw [e]; omega
theorem mul_bd {x k X Y : Int} (h1 : 1 ≤ x) (h2 : x ≤ X) (h3 : 1 ≤ k) (h4 : k ≤ Y) : 1 ≤ x * k ∧ x * k ≤ X * Y := by
  refine ⟨Int.mul_pos (by omega) (by omega), ?_⟩
  exact Int.mul_le_mul h2 h4 (by omega) (by omega)
theorem mul_bd2 {x k X Y : Int} (h1 : -X ≤ x) (h2 : x ≤ X) (h3 : -Y ≤ k) (h4 : k ≤ Y) : -(X * Y) ≤ x * k ∧ x * k ≤ X * Y := by
  have e : (x * k).natAbs ≤ X.natAbs * Y.natAbs := by rw [Int.natAbs_mul]; exact Nat.mul_le_mul (by omega) (by omega)
  have e2 : ((X.natAbs * Y.natAbs : Nat) : Int) = X * Y := by
    rw [Int.natCast_mul, show ((X.natAbs : Nat) : Int) = X by omega, show ((Y.natAbs : Nat) : Int) = Y by omega]
  omega
theorem sm_mul {i j : Int} {a b : Nat} (ha : Sm a i) (hb : Sm b j) : Sm (a + b) (i * j) := ⟨wide_lt ha.h hb.h⟩
theorem sm_bits {i : Int} {n : Nat} (h : Builtin.Int.intBits i ≤ n) : Sm n i := by
  unfold Builtin.Int.intBits at h
  split at h
  · rename_i z
    have : i = 0 := by simpa using z
    subst this
    exact ⟨Nat.pow_pos (by decide)⟩
  · rename_i z
    have hz : i.natAbs ≠ 0 := by
      intro q
      apply z
      have : i = 0 := by omega
      subst this
      decide
    exact ⟨Nat.lt_of_lt_of_le ((Nat.log2_lt hz).mp (Nat.lt_succ_self _)) (Nat.pow_le_pow_right (by decide) h)⟩
theorem sm_mulx {i j : Int} {a b : Nat} (ha : Sm a i) (hb : Sm b j) (h : a + b ≤ 134217728) : CMulX i j := mulx_ok ha.h hb.h h
theorem modbd {y n B : Int} (hn : 1 ≤ n) (h : n ≤ B) : 0 ≤ y % n ∧ y % n ≤ B := ⟨Int.emod_nonneg _ (by omega), by have := Int.emod_lt_of_pos y (show 0 < n by omega); omega⟩
theorem sm_divx {i j : Int} {b : Nat} (h : j ≠ 0) (hb : Sm b j) (h0 : 0 < b) (h9 : b ≤ 9000) : CDivX i j := ⟨h, Nat.lt_of_lt_of_le (PySem.Flt.log2_lt_of h0 hb.h) h9⟩
theorem sm_div {i j : Int} {b : Nat} (h : 0 < j) (hb : Sm b j) (h0 : 0 < b) (h9 : b ≤ 9000) : CDivW i j := wide_div h hb.h h0 h9
/-! ### range of great numbers -/
theorem turn_rangeL {P : Program} {w : World} {K : PySem.W.Frag} {tg : Expr} (it : Addr) (lo c : Int) (n : Nat) : Turn P w K tg (Itc lo c n) [it] it (fun i h => PySem.IsLongIter h it (lo + (i : Nat) * c) ((n : Int) - (i : Nat)) c) where
  mem := by simp
  obj := fun i h st b hb => by
    have e : b = it := by simpa using hb
    subst e
    exact ⟨_, st, fun v z => nomatch z⟩
  keep := fun i h h' st k => k it (by simp) _ st
  item := by
    intro X hP hw hK hc i pins s σ H E I hf st hg
    subst hP hw hK
    obtain ⟨f0, f1, f2, f3, f4, f5⟩ := hf it (by simp)
    have W := Walks.longrange (prog := X.prog) (w := X.w) (I.ok.hd hc) it lo c n
    refine W.item i s _ _ hg st fun v h' tk hv st' kk => ?_
    obtain ⟨t, rfl⟩ := hv
    have I1 : Inv X pins σ H { s with heap := h', toks := tk } := I.turned (fun b o hb e => kk b o (by simpa using hb) e) f0 f1 f3 f4 f5
    exact ⟨_, rfl, go_of (s := { s with heap := h', toks := tk }) (n := "longrange_iterator") st' rfl rfl (by decide) ⟨.int (lo + (i : Nat) * c), H, I1, ⟨t, rfl⟩, ⟨rfl, rfl⟩, st', fun b hb => (hf b hb).1⟩⟩
  done := by
    intro X hP hw hK hc i pins s σ H E I hf st hg
    subst hP hw hK
    obtain ⟨f0, f1, f2, f3, f4, f5⟩ := hf it (by simp)
    exact PySem.wpAny_pyNext_long_end (I.ok.hd hc) st (by have : n ≤ i := hg; omega) fun h' eb => ⟨rfl, I.turned (t' := s.toks) (fun b o hb e => eb b o hb e) f0 f1 f3 f4 f5⟩
  self := fun A i s Q E st h => PySem.wpAny_pyIter_longiter st h
theorem itc_one (lo : Int) (n : Nat) : Itc lo 1 n = Itr lo n := by
  unfold Itc Itr
  simp only [Int.mul_one]
def Rng2L (vs : List V) (H : Hp) (R : It → Hp → Prop) : Prop := ∃ i j : Int, vs = [.int i, .int j] ∧ R (Itr i (j - i).toNat) H
def iRng2L (ta : TA) : TI := fun σ H R => ta σ H fun vs H1 => Rng2L vs H1 R
theorem pi_range2L {X : Cx} {tg : Expr} {a b : Expr} {ta : TA} {p pos : Pos} (hg : Gl X "range") (hm : X.mg "range" = none) (ha : PA X [a, b] ta) (hs : starEach [a, b] X.env = [(false, eval a X.env), (false, eval b X.env)] := by rfl) (hs2 : starEach [b] X.env = [(false, eval b X.env)] := by rfl) :
    PI X tg (.Call (.Name "range" p) [a, b] [] pos) (iRng2L ta) := by
  refine ⟨fun pins s σ H R I h => ?_⟩
  refine Call_ (ld_blt I hg hm boot_range (PyProof.Rows.callWith_type1 (thn (ha.run pos pins s σ H _ I h) fun us s1 ⟨vs, H1, I1, r1, q1⟩ => ?_) (by rw [hs, hs2]) (by rw [hs2]; rfl)))
  obtain ⟨i, j, e, q⟩ := q1
  subst e
  cases r1 with
  | cons r rr =>
    cases rr with
    | cons r' rr =>
      cases rr
      obtain ⟨t, rfl⟩ := r
      obtain ⟨t', rfl⟩ := r'
      refine PySem.call_range_2 ?_
      have I2 : Inv X pins σ H1 { s1 with heap := s1.heap.push { cls := .type "range", data := .fields #[.int i t, .int j t', .int 1 s1.toks] }, toks := s1.toks + 1 } := I1.kept (t' := s1.toks + 1) fun b o e => Heap.get?_push_of_some _ e
      have e1 : i + ((0 : Nat) : Int) * 1 = i := by simp
      have e2 : (((j - i).toNat : Nat) : Int) - ((0 : Nat) : Int) = Builtin.Range.rangeSize i j 1 := by rw [PyProof.Rows.rangeSize_nat]; simp
      rw [← itc_one] at q
      cases hsm : Builtin.Range.small i j 1 with
      | true =>
        refine wpAny_pyIter_range (IsRange.new ..) hsm ?_
        refine pi_one (tk := s1.toks + 1) I2 _ (turn_rangeC _ i 1 (j - i).toNat) ?_ q
        show IsRangeIter _ _ (i + ((0 : Nat) : Int) * 1) ((((j - i).toNat : Nat) : Int) - ((0 : Nat) : Int)) 1
        rw [e1, e2]
        exact Heap.get?_push_size _ rfl
      | false =>
        refine wpAny_pyIter_longrange (IsRange.new ..) hsm ?_
        refine pi_one (tk := s1.toks + 1) I2 _ (turn_rangeL _ i 1 (j - i).toNat) ?_ q
        show IsLongIter _ _ (i + ((0 : Nat) : Int) * 1) ((((j - i).toNat : Nat) : Int) - ((0 : Nat) : Int)) 1
        rw [e1, e2]
        exact Heap.get?_push_size _ rfl
section
variable {σ : L2.St} {H : Hp} {tr : TA} {m n : Int}
theorem k_irng2L {R : It → Hp → Prop} (h : tr σ H fun vs H1 => Rng2L vs H1 R) : iRng2L tr σ H R := h
theorem k_rng2L {R : It → Hp → Prop} (h : R (Itr m (n - m).toNat) H) : Rng2L [V.int m, V.int n] H R := ⟨m, n, rfl, h⟩
end
theorem b_dec {b : Bool} {p : Prop} [Decidable p] (h : b = true ↔ p) : b = decide p := by
  by_cases hp : p
  · rw [decide_eq_true hp]; exact h.mpr hp
  · rw [decide_eq_false hp]
    cases hb : b with
    | false => rfl
    | true => exact absurd (h.mp hb) hp
/-- a test that something differs, where it does not -/
theorem if_same {p A B : Prop} [Decidable p] (h : p) (h2 : B) : if (!decide p) = true then A else B := if_ndec (fun hn => absurd h hn) (fun _ => h2)
theorem inV3 {a x y z : Int} : inV (.int a) [.int x, .int y, .int z] = decide (a = x ∨ a = y ∨ a = z) := by
  have h := inV_ints (a := a) [x, y, z]
  have e : (decide (a ∈ [x, y, z])) = decide (a = x ∨ a = y ∨ a = z) := by
    have : a ∈ [x, y, z] ↔ (a = x ∨ a = y ∨ a = z) := by simp
    simp [this]
  exact h.trans e
theorem k_in3 {K : PySem.W.Frag} {H : Hp} {Q : VK} {a : Int} {p : Addr} {x y z : Int} (h : SqL K H p [.int x, .int y, .int z]) (q : Q (.bl (decide (a = x ∨ a = y ∨ a = z))) H) : rIn K false (.int a) (.ref p) H Q :=
  ⟨p, _, rfl, .inl h, rfl, rfl, by rw [inV3]; exact q⟩
/-! ### words that are known -/
theorem if_seq {a b : Str} {A B : Prop} (h : a = b) (x : A) : if decide (a = b) = true then A else B := if_dec (fun _ => x) (fun hn => absurd h hn)
theorem if_sne {a b : Str} {A B : Prop} (h : ¬ a = b) (x : B) : if decide (a = b) = true then A else B := if_dec (fun he => absurd he h) (fun _ => x)
theorem if_nseq {a b : Str} {A B : Prop} (h : a = b) (x : B) : if (!decide (a = b)) = true then A else B := if_ndec (fun hn => absurd h hn) (fun _ => x)
theorem if_nsne {a b : Str} {A B : Prop} (h : ¬ a = b) (x : A) : if (!decide (a = b)) = true then A else B := if_ndec (fun _ => x) (fun he => absurd he h)
theorem or_split {t u : TT} {σ : L2.St} {H : Hp} {R : Bool → Hp → Prop} (p : Prop) (hT : p → R true H) (hF : ¬ p → R false H) (h : ∀ R' : Bool → Hp → Prop, (p → R' true H) → (¬ p → R' false H) → tOr t u σ H R') : tOr t u σ H R := h R hT hF

/-! ### remainders: the mathematics -/
theorem gcd_abs (a b : Int) : Int.gcd (if a < 0 then -a else a) (if b < 0 then -b else b) = Int.gcd a b := by
  split <;> split <;> simp
theorem abs_nn (a : Int) : 0 ≤ (if a < 0 then -a else a) := by split <;> omega
theorem abs_le {a b : Int} (h1 : -b ≤ a) (h2 : a ≤ b) : (if a < 0 then -a else a) ≤ b := by split <;> omega
theorem gcd_mod (x y : Int) : Int.gcd y (x % y) = Int.gcd x y := by
  have e : x % y = x - y * (x / y) := Int.emod_def x y
  rw [e, Int.gcd_comm, Int.mul_comm, Int.gcd_sub_mul_right_left]
theorem gcd_zero (x : Int) (h : 0 ≤ x) : ((Int.gcd x 0 : Nat) : Int) = x := by
  rw [Int.gcd_zero_right]; omega
/-- the least common multiple of two numbers from 1 on, as the program reckons it -/
def lcmI (a b : Int) : Int := a / (Int.gcd a b : Nat) * b
theorem gcd_pos {a b : Int} (ha : 1 ≤ a) : 1 ≤ ((Int.gcd a b : Nat) : Int) := by
  have : Int.gcd a b ≠ 0 := fun h => by
    have := Int.gcd_eq_zero_iff.mp h
    omega
  omega
theorem gcd_le {a b : Int} (ha : 1 ≤ a) : ((Int.gcd a b : Nat) : Int) ≤ a := Int.le_of_dvd (by omega) (Int.gcd_dvd_left a b)
theorem gcd_le' {a b : Int} (hb : 1 ≤ b) : ((Int.gcd a b : Nat) : Int) ≤ b := Int.le_of_dvd (by omega) (Int.gcd_dvd_right a b)
theorem lcm_mul_gcd {a b : Int} (ha : 1 ≤ a) : lcmI a b * (Int.gcd a b : Nat) = a * b := by
  have h := Int.ediv_mul_cancel (Int.gcd_dvd_left a b)
  unfold lcmI
  rw [Int.mul_assoc, Int.mul_comm b, ← Int.mul_assoc, h]
theorem lcm_pos {a b : Int} (ha : 1 ≤ a) (hb : 1 ≤ b) : 1 ≤ lcmI a b := by
  have h := lcm_mul_gcd (b := b) ha
  have h1 := gcd_pos (b := b) ha
  have h2 : 0 < a * b := Int.mul_pos (by omega) (by omega)
  rw [← h] at h2
  have := Int.pos_of_mul_pos_left h2 (by omega)
  omega
theorem dvd_lcm_right (a b : Int) : b ∣ lcmI a b := ⟨_, Int.mul_comm _ _⟩
theorem dvd_lcm_left {a b : Int} (ha : 1 ≤ a) : a ∣ lcmI a b := by
  obtain ⟨k, hk⟩ := Int.gcd_dvd_right a b
  have h := lcm_mul_gcd (b := b) ha
  have h1 := gcd_pos (b := b) ha
  refine ⟨k, ?_⟩
  have e : lcmI a b * (Int.gcd a b : Nat) = a * k * (Int.gcd a b : Nat) := by
    rw [h, Int.mul_assoc, Int.mul_comm k, ← hk]
  exact Int.eq_of_mul_eq_mul_right (by omega) e
theorem lcm_comm {a b : Int} (ha : 1 ≤ a) (hb : 1 ≤ b) : lcmI a b = lcmI b a := by
  have h := lcm_mul_gcd (b := b) ha
  have h' := lcm_mul_gcd (b := a) hb
  have h1 := gcd_pos (b := b) ha
  rw [Int.gcd_comm b a, Int.mul_comm b a, ← h] at h'
  exact (Int.eq_of_mul_eq_mul_right (by omega) h').symm
theorem bezout_dvd {a b u v g x : Int} (e : u * a + v * b = g) (ha : x ∣ a) (hb : x ∣ b) : x ∣ g := by
  rw [← e]; exact Int.dvd_add (Int.dvd_mul_of_dvd_right ha) (Int.dvd_mul_of_dvd_right hb)
theorem lcm_least {a b x : Int} (ha : 1 ≤ a) (hb : 1 ≤ b) (h1 : a ∣ x) (h2 : b ∣ x) : lcmI a b ∣ x := by
  -- a * b divides x * gcd
  have hg := gcd_pos (b := b) ha
  have h := lcm_mul_gcd (b := b) ha
  have hd : a * b ∣ x * (Int.gcd a b : Nat) := by
    have e : x * ((Int.gcd a b : Nat) : Int) = ((Int.gcd (x * a) (x * b) : Nat) : Int) ∨ x * ((Int.gcd a b : Nat) : Int) = -((Int.gcd (x * a) (x * b) : Nat) : Int) := by
      rw [Int.gcd_mul_left, Int.natCast_mul]
      rcases Int.natAbs_eq x with hx | hx
      · left; rw [← hx]
      · right
        have : ((x.natAbs : Nat) : Int) = -x := by omega
        rw [this, Int.neg_mul, Int.neg_neg]
    have d1 : a * b ∣ x * a := by rw [Int.mul_comm x a]; exact Int.mul_dvd_mul (Int.dvd_refl a) h2
    have d2 : a * b ∣ x * b := by exact Int.mul_dvd_mul h1 (Int.dvd_refl b)
    have d3 := Int.dvd_coe_gcd d1 d2
    rcases e with e | e
    · rw [e]; exact d3
    · rw [e]; exact Int.dvd_neg.mpr d3
  rw [← h] at hd
  exact Int.dvd_of_mul_dvd_mul_right (by omega) hd
theorem lcm_le_mul {a b : Int} (ha : 1 ≤ a) (hb : 1 ≤ b) : lcmI a b ≤ a * b := by
  have h := lcm_mul_gcd (b := b) ha
  have hg := gcd_pos (b := b) ha
  have hl := lcm_pos ha hb
  have := Int.mul_le_mul_of_nonneg_left hg (show (0 : Int) ≤ lcmI a b by omega)
  omega
/-! ### the equation: one step, and how great its numbers grow -/
theorem eq_rest {r1 r2 : Int} (h : r2 ≠ 0) : (0 < r2 → 0 ≤ r1 - r1.fdiv r2 * r2 ∧ r1 - r1.fdiv r2 * r2 < r2) ∧ (r2 < 0 → r2 < r1 - r1.fdiv r2 * r2 ∧ r1 - r1.fdiv r2 * r2 ≤ 0) := by
  constructor
  · intro h0
    rw [Int.fdiv_eq_ediv_of_nonneg _ (by omega)]
    have e := Int.emod_def r1 r2
    rw [Int.mul_comm] at e
    rw [← e]
    exact ⟨Int.emod_nonneg _ h, Int.emod_lt_of_pos _ h0⟩
  · intro h0
    have e1 : r1.fdiv r2 = (-r1) / (-r2) := by
      rw [← Int.fdiv_eq_ediv_of_nonneg (-r1) (show 0 ≤ -r2 by omega), Int.neg_fdiv_neg]
    have e := Int.emod_def (-r1) (-r2)
    have p1 := Int.emod_nonneg (-r1) (show -r2 ≠ 0 by omega)
    have p2 := Int.emod_lt_of_pos (-r1) (show 0 < -r2 by omega)
    rw [e1]
    have : r1 - (-r1) / (-r2) * r2 = -((-r1) % (-r2)) := by
      rw [e, Int.neg_mul, Int.mul_comm r2]; omega
    rw [this]
    omega
theorem gcd_rest (r1 r2 q : Int) : Int.gcd r2 (r1 - q * r2) = Int.gcd r1 r2 := by
  rw [Int.gcd_comm, Int.gcd_sub_mul_right_left]
/-- the sum of both rests times the quotient is no more than four times the sum ahead -/
theorem eq_quot {r1 r2 : Int} (h : r2 ≠ 0) : (r1.fdiv r2).natAbs * r2.natAbs ≤ r1.natAbs + r2.natAbs := by
  have hr := eq_rest (r1 := r1) h
  rw [← Int.natAbs_mul]
  generalize r1.fdiv r2 * r2 = z at *
  rcases Int.lt_or_gt_of_ne h with h0 | h0
  · have := hr.2 h0; omega
  · have := hr.1 h0; omega
/-- numbers so far are at most M, M times the cube of the rests' sum at most B: it stays so -/
theorem eq_grow {r1 r2 : Int} {M B : Nat} (h : r2 ≠ 0) (hs : (0 < r1 ∧ 0 < r2) ∨ (r1 < 0 ∧ r2 < 0)) (hlt : r2.natAbs < r1.natAbs)
    (hB : M * (r1.natAbs + r2.natAbs) ^ 3 ≤ B) : (M * (1 + (r1.fdiv r2).natAbs)) * (r2.natAbs + (r1 - r1.fdiv r2 * r2).natAbs) ^ 3 ≤ B := by
  have hr := eq_rest (r1 := r1) h
  have key : (r1.fdiv r2).natAbs * r2.natAbs + (r1 - r1.fdiv r2 * r2).natAbs = r1.natAbs ∧ 1 ≤ (r1.fdiv r2).natAbs := by
    have e := Int.natAbs_mul (r1.fdiv r2) r2
    rw [← e]
    have q1 : r1.fdiv r2 ≠ 0 := by
      intro z
      rw [z, Int.zero_mul] at hr
      omega
    refine ⟨?_, by omega⟩
    have hq : 0 ≤ r1.fdiv r2 * r2 ∧ 0 < r2 ∨ r1.fdiv r2 * r2 ≤ 0 ∧ r2 < 0 := by
      rcases hs with hs | hs
      · left; refine ⟨?_, hs.2⟩
        have := hr.1 hs.2
        rw [Int.fdiv_eq_ediv_of_nonneg _ (by omega)]
        exact Int.mul_nonneg (Int.ediv_nonneg (by omega) (by omega)) (by omega)
      · right; refine ⟨?_, hs.2⟩
        have e1 : r1.fdiv r2 = (-r1) / (-r2) := by
          rw [← Int.fdiv_eq_ediv_of_nonneg (-r1) (show 0 ≤ -r2 by omega), Int.neg_fdiv_neg]
        rw [e1]
        exact Int.mul_nonpos_of_nonneg_of_nonpos (Int.ediv_nonneg (by omega) (by omega)) (by omega)
    generalize r1.fdiv r2 * r2 = z at *
    rcases hs with hs | hs
    · have := hr.1 hs.2; omega
    · have := hr.2 hs.2; omega
  have h3 : (r1 - r1.fdiv r2 * r2).natAbs < r2.natAbs := by
    generalize r1.fdiv r2 * r2 = z at *
    rcases hs with hs | hs
    · have := hr.1 hs.2; omega
    · have := hr.2 hs.2; omega
  generalize (r1 - r1.fdiv r2 * r2).natAbs = c at *
  generalize (r1.fdiv r2).natAbs = q at *
  generalize r2.natAbs = b at *
  generalize r1.natAbs = a at *
  obtain ⟨k1, k2⟩ := key
  -- S = a + b, S' = b + c; S' (1 + q) ≤ 2 S ; 3 S' ≤ 2 S
  have t1 : (b + c) * (1 + q) ≤ 2 * (a + b) := by
    have : (b + c) * (1 + q) ≤ (2 * b) * (1 + q) := Nat.mul_le_mul_right _ (by omega)
    have e : (2 * b) * (1 + q) = 2 * b + 2 * (q * b) := by rw [Nat.mul_add, Nat.mul_one, Nat.mul_assoc, Nat.mul_comm b q]
    omega
  have t2 : 3 * (b + c) ≤ 2 * (a + b) := by
    have : b ≤ q * b := Nat.le_mul_of_pos_left _ k2
    omega
  have t3 : (3 * (b + c)) * (3 * (b + c)) ≤ (2 * (a + b)) * (2 * (a + b)) := Nat.mul_le_mul t2 t2
  generalize a + b = S at *
  generalize b + c = S' at *
  have t4 : (M * (1 + q) * S') ≤ M * (2 * S) := by
    rw [Nat.mul_assoc, Nat.mul_comm (1 + q)]; exact Nat.mul_le_mul_left _ t1
  have t5 : (M * (1 + q) * S') * ((3 * S') * (3 * S')) ≤ (M * (2 * S)) * ((2 * S) * (2 * S)) := Nat.mul_le_mul t4 t3
  have e1 : (M * (1 + q) * S') * ((3 * S') * (3 * S')) = 9 * (M * (1 + q) * S' ^ 3) := by
    simp only [Nat.pow_succ, Nat.pow_zero, Nat.one_mul]; simp only [Nat.mul_assoc, Nat.mul_comm, Nat.mul_left_comm]
  have e2 : (M * (2 * S)) * ((2 * S) * (2 * S)) = 8 * (M * S ^ 3) := by
    simp only [Nat.pow_succ, Nat.pow_zero, Nat.one_mul]; simp only [Nat.mul_assoc, Nat.mul_comm, Nat.mul_left_comm]
  rw [e1, e2] at t5
  omega
/-- between two turns of the equation, behind the first one -/
structure Later (B : Nat) (u1 v1 r1 u2 v2 r2 : Int) : Prop where
  sg : (0 < r1 ∧ 0 < r2) ∨ (r1 < 0 ∧ r2 < 0) ∨ (r2 = 0 ∧ r1 ≠ 0)
  lt : r2.natAbs < r1.natAbs
  bd : ∃ M : Nat, u1.natAbs ≤ M ∧ v1.natAbs ≤ M ∧ u2.natAbs ≤ M ∧ v2.natAbs ≤ M ∧ M * (r1.natAbs + r2.natAbs) ^ 3 ≤ B
theorem Later.le {B : Nat} {u1 v1 r1 u2 v2 r2 : Int} (h : Later B u1 v1 r1 u2 v2 r2) : u1.natAbs ≤ B ∧ v1.natAbs ≤ B ∧ u2.natAbs ≤ B ∧ v2.natAbs ≤ B := by
  obtain ⟨M, a1, a2, a3, a4, hM⟩ := h.bd
  have hp : 0 < (r1.natAbs + r2.natAbs) ^ 3 := Nat.pow_pos (by have := h.lt; omega)
  have : M ≤ B := Nat.le_trans (Nat.le_mul_of_pos_right M hp) hM
  omega
theorem mul_sub_abs {u1 u2 q : Int} {M : Nat} (h1 : u1.natAbs ≤ M) (h2 : u2.natAbs ≤ M) : (u1 - q * u2).natAbs ≤ M * (1 + q.natAbs) := by
  have e : (q * u2).natAbs ≤ M * q.natAbs := by rw [Int.natAbs_mul, Nat.mul_comm]; exact Nat.mul_le_mul_right _ h2
  rw [Nat.mul_add, Nat.mul_one]
  omega
theorem Later.step {B : Nat} {u1 v1 r1 u2 v2 r2 : Int} (h : Later B u1 v1 r1 u2 v2 r2) (h0 : r2 ≠ 0) :
    Later B u2 v2 r2 (u1 - r1.fdiv r2 * u2) (v1 - r1.fdiv r2 * v2) (r1 - r1.fdiv r2 * r2) := by
  obtain ⟨M, a1, a2, a3, a4, hM⟩ := h.bd
  have hs : (0 < r1 ∧ 0 < r2) ∨ (r1 < 0 ∧ r2 < 0) := by have := h.sg; omega
  have hr := eq_rest (r1 := r1) h0
  refine ⟨?_, ?_, ⟨M * (1 + (r1.fdiv r2).natAbs), ?_, ?_, mul_sub_abs a1 a3, mul_sub_abs a2 a4, eq_grow h0 hs h.lt hM⟩⟩
  · generalize r1 - r1.fdiv r2 * r2 = z at *
    rcases hs with hs | hs
    · have := hr.1 hs.2; omega
    · have := hr.2 hs.2; omega
  · generalize r1 - r1.fdiv r2 * r2 = z at *
    rcases hs with hs | hs
    · have := hr.1 hs.2; omega
    · have := hr.2 hs.2; omega
  · exact Nat.le_trans a3 (Nat.le_mul_of_pos_right M (by omega))
  · exact Nat.le_trans a4 (Nat.le_mul_of_pos_right M (by omega))
theorem Later.first {a b : Int} {n : Nat} (ha : a.natAbs ≤ 2 ^ n) (hb : b.natAbs ≤ 2 ^ n) (h0 : b ≠ 0) :
    Later (2 ^ (4 * n + 6)) 0 1 b (1 - a.fdiv b * 0) (0 - a.fdiv b * 1) (a - a.fdiv b * b) := by
  have hr := eq_rest (r1 := a) h0
  have hq := eq_quot (r1 := a) h0
  have h1 : (a.fdiv b).natAbs ≤ 2 ^ n + 2 ^ n := by
    have : (a.fdiv b).natAbs * 1 ≤ (a.fdiv b).natAbs * b.natAbs := Nat.mul_le_mul_left _ (by omega)
    omega
  refine ⟨?_, ?_, ⟨1 + (a.fdiv b).natAbs, by omega, by omega, ?_, ?_, ?_⟩⟩
  · generalize a - a.fdiv b * b = z at *
    rcases Int.lt_or_gt_of_ne h0 with h | h
    · have := hr.2 h; omega
    · have := hr.1 h; omega
  · generalize a - a.fdiv b * b = z at *
    rcases Int.lt_or_gt_of_ne h0 with h | h
    · have := hr.2 h; omega
    · have := hr.1 h; omega
  · rw [Int.mul_zero]; omega
  · rw [Int.mul_one]; omega
  · have h2 : b.natAbs + (a - a.fdiv b * b).natAbs ≤ 2 * 2 ^ n := by
      generalize a - a.fdiv b * b = z at *
      rcases Int.lt_or_gt_of_ne h0 with h | h
      · have := hr.2 h; omega
      · have := hr.1 h; omega
    have hp : 1 ≤ 2 ^ n := Nat.pow_pos (by decide)
    have h3 : 1 + (a.fdiv b).natAbs ≤ 2 ^ (n + 2) := by rw [Nat.pow_add]; omega
    have h4 : (b.natAbs + (a - a.fdiv b * b).natAbs) ^ 3 ≤ (2 ^ (n + 1)) ^ 3 := Nat.pow_le_pow_left (by rw [Nat.pow_add]; omega) 3
    have h5 := Nat.mul_le_mul h3 h4
    rw [← Nat.pow_mul, ← Nat.pow_add] at h5
    exact Nat.le_trans h5 (Nat.pow_le_pow_right (by decide) (by omega))
theorem fdiv_abs_le {r1 r2 : Int} (h : r2 ≠ 0) : (r1.fdiv r2).natAbs ≤ r1.natAbs + r2.natAbs := by
  have hq := eq_quot (r1 := r1) h
  have : (r1.fdiv r2).natAbs * 1 ≤ (r1.fdiv r2).natAbs * r2.natAbs := Nat.mul_le_mul_left _ (by omega)
  omega
theorem rest_lt {r1 r2 : Int} (h : r2 ≠ 0) : (r1 - r1.fdiv r2 * r2).natAbs < r2.natAbs := by
  have hr := eq_rest (r1 := r1) h
  generalize r1 - r1.fdiv r2 * r2 = z at *
  rcases Int.lt_or_gt_of_ne h with h | h
  · have := hr.2 h; omega
  · have := hr.1 h; omega
theorem bez_step {a b u1 v1 r1 u2 v2 r2 q : Int} (h1 : u1 * a + v1 * b = r1) (h2 : u2 * a + v2 * b = r2) : (u1 - q * u2) * a + (v1 - q * v2) * b = r1 - q * r2 := by
  rw [← h1, ← h2, Int.sub_mul, Int.sub_mul, Int.mul_add, Int.mul_assoc, Int.mul_assoc]
  omega
theorem met_ok {n m r s u v : Int} (hn : 1 ≤ n) (hm : 1 ≤ m) (hb : u * n + v * m = (Int.gcd n m : Nat)) (hd : (s - r) % (Int.gcd n m : Nat) = 0) :
    n ∣ (r + n * u * ((s - r) / (Int.gcd n m : Nat))) % lcmI n m - r ∧ m ∣ (r + n * u * ((s - r) / (Int.gcd n m : Nat))) % lcmI n m - s := by
  have hg := gcd_pos (b := m) hn
  have hk : (Int.gcd n m : Nat) * ((s - r) / (Int.gcd n m : Nat)) = s - r := by
    have := Int.emod_add_mul_ediv (s - r) (Int.gcd n m : Nat)
    omega
  generalize ((Int.gcd n m : Nat) : Int) = g at *
  generalize (s - r) / g = k at *
  have hL1 := dvd_lcm_left (b := m) hn
  have hL2 := dvd_lcm_right n m
  have e := Int.emod_def (r + n * u * k) (lcmI n m)
  rw [e]
  generalize (r + n * u * k) / lcmI n m = z
  constructor
  · have : r + n * u * k - lcmI n m * z - r = n * (u * k) - lcmI n m * z := by rw [Int.mul_assoc]; omega
    rw [this]
    exact Int.dvd_sub (Int.dvd_mul_right _ _) (Int.dvd_mul_of_dvd_left hL1)
  · have h2 : n * u * k = g * k - m * (v * k) := by
      have : n * u = g - m * v := by rw [← hb, Int.mul_comm u n, Int.mul_comm v m]; omega
      rw [this, Int.sub_mul, Int.mul_assoc]
    have : r + n * u * k - lcmI n m * z - s = -(m * (v * k)) - lcmI n m * z := by omega
    rw [this]
    exact Int.dvd_sub (Int.dvd_neg.mpr (Int.dvd_mul_right _ _)) (Int.dvd_mul_of_dvd_left hL2)
theorem alike_both {n m r s x d : Int} (hn : 1 ≤ n) (hm : 1 ≤ m) (h1 : n ∣ x - r) (h2 : m ∣ x - s) : ((d - r) % n = 0 ∧ (d - s) % m = 0) ↔ (d - x) % lcmI n m = 0 := by
  constructor
  · rintro ⟨a1, a2⟩
    have b1 := Int.dvd_of_emod_eq_zero a1
    have b2 := Int.dvd_of_emod_eq_zero a2
    refine Int.emod_eq_zero_of_dvd (lcm_least hn hm ?_ ?_)
    · have := Int.dvd_sub b1 h1; rwa [show d - r - (x - r) = d - x by omega] at this
    · have := Int.dvd_sub b2 h2; rwa [show d - s - (x - s) = d - x by omega] at this
  · intro a
    have b := Int.dvd_of_emod_eq_zero a
    refine ⟨Int.emod_eq_zero_of_dvd ?_, Int.emod_eq_zero_of_dvd ?_⟩
    · have := Int.dvd_add (Int.dvd_trans (dvd_lcm_left hn) b) h1; rwa [show d - x + (x - r) = d - r by omega] at this
    · have := Int.dvd_add (Int.dvd_trans (dvd_lcm_right n m) b) h2; rwa [show d - x + (x - s) = d - s by omega] at this

/-! ### numbers by their bits -/
def ofB (f : Nat → Bool) : Nat → Nat
  | 0 => 0
  | k + 1 => ofB f k + if f k then 2 ^ k else 0
theorem ofB_lt (f : Nat → Bool) : ∀ n, ofB f n < 2 ^ n
  | 0 => by simp [ofB]
  | k + 1 => by
    have := ofB_lt f k
    unfold ofB
    rw [Nat.pow_succ]
    split <;> omega
theorem tb_ofB (f : Nat → Bool) : ∀ n i, (ofB f n).testBit i = (decide (i < n) && f i)
  | 0, i => by simp [ofB]
  | k + 1, i => by
    have ih := tb_ofB f k
    have hl := ofB_lt f k
    unfold ofB
    by_cases hf : f k = true
    · rw [if_pos hf]
      have e : ofB f k + 2 ^ k = 2 ^ k * 1 + ofB f k := by omega
      rw [e, Nat.testBit_two_pow_mul_add _ hl]
      by_cases h : i < k
      · rw [if_pos h, ih, decide_eq_true h, decide_eq_true (show i < k + 1 by omega)]
      · rw [if_neg h]
        by_cases h2 : i = k
        · subst h2; simp [hf]
        · rw [decide_eq_false (show ¬ i < k + 1 by omega)]
          have : i - k ≠ 0 := by omega
          
          have t1 : Nat.testBit 1 (i - k) = false := by
            cases e1 : Nat.testBit 1 (i - k) with
            | false => rfl
            | true => exact absurd (Nat.testBit_one_eq_true_iff_self_eq_zero.mp e1) this
          simp [t1]
    · rw [if_neg hf, Nat.add_zero, ih]
      by_cases h2 : i = k
      · subst h2
        have hf' : f i = false := by simpa using hf
        simp [hf']
      · have : (decide (i < k)) = decide (i < k + 1) := by
          by_cases h : i < k
          · rw [decide_eq_true h, decide_eq_true (show i < k + 1 by omega)]
          · rw [decide_eq_false h, decide_eq_false (show ¬ i < k + 1 by omega)]
        rw [this]
theorem ofB_ext {f g : Nat → Bool} {n : Nat} (h : ∀ i, i < n → f i = g i) : ofB f n = ofB g n := by
  apply Nat.eq_of_testBit_eq
  intro i
  rw [tb_ofB, tb_ofB]
  by_cases hi : i < n
  · rw [h i hi]
  · rw [decide_eq_false hi]; rfl
theorem eq_ofB {x n : Nat} {f : Nat → Bool} (hx : ∀ i, x.testBit i = (decide (i < n) && f i)) : x = ofB f n := by
  apply Nat.eq_of_testBit_eq
  intro i
  rw [tb_ofB]; exact hx i
theorem ofB_self {x n : Nat} (hx : x < 2 ^ n) : ofB x.testBit n = x := by
  symm
  apply eq_ofB
  intro i
  by_cases hi : i < n
  · rw [decide_eq_true hi]; rfl
  · rw [decide_eq_false hi, Bool.false_and]
    exact Nat.testBit_lt_two_pow (Nat.lt_of_lt_of_le hx (Nat.pow_le_pow_right (by decide) (by omega)))
/-- whether a round holds on a day -/
def hold (n b : Nat) (d : Int) : Bool := b.testBit (d % (n : Int)).toNat
/-- the bits of the days of one round -/
def bitsOf (n : Nat) (f : Int → Bool) : Nat := ofB (fun i => f i) n
theorem bitsOf_lt (n : Nat) (f : Int → Bool) : bitsOf n f < 2 ^ n := ofB_lt _ _
theorem mod_lt' {n : Nat} (hn : 1 ≤ n) (d : Int) : (d % (n : Int)).toNat < n ∧ (((d % (n : Int)).toNat : Nat) : Int) = d % (n : Int) := by
  have h1 := Int.emod_nonneg d (show (n : Int) ≠ 0 by omega)
  have h2 := Int.emod_lt_of_pos d (show (0 : Int) < n by omega)
  omega
theorem hold_bitsOf {n : Nat} (hn : 1 ≤ n) (f : Int → Bool) (d : Int) : hold n (bitsOf n f) d = f (d % (n : Int)) := by
  obtain ⟨h1, h2⟩ := mod_lt' hn d
  unfold hold bitsOf
  rw [tb_ofB, decide_eq_true h1, Bool.true_and, h2]
theorem hold_per (n b : Nat) (d : Int) : hold n b (d % (n : Int)) = hold n b d := by
  unfold hold
  rw [Int.emod_emod_of_dvd _ (Int.dvd_refl _)]
theorem hold_eq {n b : Nat} {d e : Int} (h : d % (n : Int) = e % (n : Int)) : hold n b d = hold n b e := by
  unfold hold; rw [h]
theorem hold_nat {n b i : Nat} (hi : i < n) : hold n b (i : Int) = b.testBit i := by
  unfold hold
  have : ((i : Int) % (n : Int)) = i := Int.emod_eq_of_lt (by omega) (by omega)
  rw [this]; rfl
theorem bitsOf_self {n b : Nat} (hb : b < 2 ^ n) : bitsOf n (hold n b) = b := by
  unfold bitsOf
  rw [ofB_ext (g := b.testBit) (fun i hi => hold_nat hi)]
  exact ofB_self hb
theorem bitsOf_ext {n : Nat} {f g : Int → Bool} (h : ∀ i : Nat, i < n → f i = g i) : bitsOf n f = bitsOf n g := ofB_ext h
theorem eq_bitsOf {x n : Nat} {f : Int → Bool} (hx : x < 2 ^ n) (h : ∀ i : Nat, i < n → x.testBit i = f i) : x = bitsOf n f := by
  apply eq_ofB
  intro i
  by_cases hi : i < n
  · rw [decide_eq_true hi, h i hi]; rfl
  · rw [decide_eq_false hi, Bool.false_and]
    exact Nat.testBit_lt_two_pow (Nat.lt_of_lt_of_le hx (Nat.pow_le_pow_right (by decide) (by omega)))
theorem hold_mod {n : Nat} {f : Int → Bool} (hn : 1 ≤ n) (hf : ∀ d : Int, f (d % (n : Int)) = f d) (d : Int) : hold n (bitsOf n f) d = f d := by
  rw [hold_bitsOf hn, hf]
/-! ### the machine's operators on numbers from 0 on -/
theorem and_c (a b : Nat) : Builtin.bitAnd (a : Int) (b : Int) = ((a &&& b : Nat) : Int) := by
  rw [bitAnd_pp (Int.natCast_nonneg _) (Int.natCast_nonneg _), Int.toNat_natCast, Int.toNat_natCast]
theorem or_c (a b : Nat) : Builtin.bitOr (a : Int) (b : Int) = ((a ||| b : Nat) : Int) := by
  rw [bitOr_nn (Int.natCast_nonneg _) (Int.natCast_nonneg _), Int.toNat_natCast, Int.toNat_natCast]
theorem xor_c (a b : Nat) : Builtin.bitXor (a : Int) (b : Int) = ((a ^^^ b : Nat) : Int) := by
  rw [Bits.bitXor_pp (Int.natCast_nonneg _) (Int.natCast_nonneg _), Int.toNat_natCast, Int.toNat_natCast]
theorem pow_c (k : Nat) : (2 : Int) ^ k = ((2 ^ k : Nat) : Int) := (PySem.W.kbt_cast k).symm
theorem shl_c (a k : Nat) : (a : Int) * 2 ^ k = ((a * 2 ^ k : Nat) : Int) := by rw [pow_c, Int.natCast_mul]
theorem shr_c (a k : Nat) : (a : Int) / 2 ^ k = ((a / 2 ^ k : Nat) : Int) := by rw [pow_c, Int.natCast_ediv]
theorem mask_c (k : Nat) : (2 : Int) ^ k - 1 = ((2 ^ k - 1 : Nat) : Int) := by
  have := Nat.two_pow_pos k
  rw [pow_c]; omega
/-- (bits >> place) & 1 == 1 -/
theorem on_val (b : Nat) (z : Int) : decide (Builtin.bitAnd ((b : Int) / 2 ^ z.toNat) 1 = 1) = b.testBit z.toNat := by
  rw [shr_c, bitAnd_m1, Nat.testBit_eq_decide_div_mod_eq]
  congr 1
  apply propext
  omega
/-- (bits >> place) % 2 == 1 -/
theorem on_val2 (b : Nat) (z : Int) : decide ((b : Int) / 2 ^ z.toNat % 2 = 1) = b.testBit z.toNat := by
  rw [shr_c, Nat.testBit_eq_decide_div_mod_eq]
  congr 1
  apply propext
  omega
theorem and_mask (a k : Nat) : Builtin.bitAnd (a : Int) (2 ^ k - 1) = ((a % 2 ^ k : Nat) : Int) := by
  rw [mask_c, and_c, Nat.and_two_pow_sub_one_eq_mod]
theorem sm_nat {x n : Nat} (h : x < 2 ^ n) : Sm n (x : Int) := ⟨by rw [Int.natAbs_natCast]; exact h⟩
theorem sm_ofB {f : Nat → Bool} {m : Nat} (h : m ≤ 400000) : Sm 400000 ((ofB f m : Nat) : Int) := sm_mono (sm_nat (ofB_lt f m)) h
theorem sm_bitsOf {f : Int → Bool} {m : Nat} (h : m ≤ 400000) : Sm 400000 ((bitsOf m f : Nat) : Int) := sm_mono (sm_nat (bitsOf_lt m f)) h
theorem cshl {i j : Int} {n : Nat} (hi : Sm n i) (h0 : 0 ≤ j) (hj : j ≤ 100000000) (hn : n ≤ 34217728) : CShl i j := by
  obtain ⟨k, rfl⟩ := Int.eq_ofNat_of_zero_le h0
  exact shl_ok hi.h (by omega)
theorem sm_modp {x k n : Nat} (h : Sm n (x : Int)) : Sm n ((x % 2 ^ k : Nat) : Int) := by
  have h1 := h.h
  rw [Int.natAbs_natCast] at h1
  exact sm_nat (Nat.lt_of_le_of_lt (Nat.mod_le _ _) h1)
theorem sm_divp {x k n : Nat} (h : Sm n (x : Int)) : Sm n ((x / 2 ^ k : Nat) : Int) := by
  have h1 := h.h
  rw [Int.natAbs_natCast] at h1
  exact sm_nat (Nat.lt_of_le_of_lt (Nat.div_le_self _ _) h1)
theorem sm_shl {x n : Nat} {j : Int} (h : Sm n (x : Int)) (hj : j ≤ 400000) : Sm (n + 400000) ((x * 2 ^ j.toNat : Nat) : Int) := by
  have h1 := h.h
  rw [Int.natAbs_natCast] at h1
  refine sm_nat ?_
  rw [Nat.pow_add]
  exact Nat.mul_lt_mul_of_lt_of_le h1 (Nat.pow_le_pow_right (by decide) (by omega)) (Nat.two_pow_pos _)
theorem sm_or {x y n m : Nat} (h : Sm n (x : Int)) (h' : Sm m (y : Int)) : Sm (n + m) ((x ||| y : Nat) : Int) := by
  have h1 := (sm_mono h (Nat.le_add_right n m)).h
  have h2 := (sm_mono h' (Nat.le_add_left m n)).h
  rw [Int.natAbs_natCast] at h1 h2
  exact sm_nat (Nat.or_lt_two_pow h1 h2)
theorem sm_xor {x y n m : Nat} (h : Sm n (x : Int)) (h' : Sm m (y : Int)) : Sm (n + m) ((x ^^^ y : Nat) : Int) := by
  have h1 := (sm_mono h (Nat.le_add_right n m)).h
  have h2 := (sm_mono h' (Nat.le_add_left m n)).h
  rw [Int.natAbs_natCast] at h1 h2
  exact sm_nat (Nat.xor_lt_two_pow h1 h2)
theorem sm_and {x y n : Nat} (h : Sm n (x : Int)) : Sm n ((x &&& y : Nat) : Int) := by
  have h1 := h.h
  rw [Int.natAbs_natCast] at h1
  exact sm_nat (Nat.lt_of_le_of_lt Nat.and_le_left h1)
theorem sm_mask {j : Int} (hj : j ≤ 400000) : Sm 400001 ((2 : Int) ^ j.toNat - 1) := by
  rw [mask_c]
  refine sm_nat ?_
  have : 2 ^ j.toNat ≤ 2 ^ 400000 := Nat.pow_le_pow_right (by decide) (by omega)
  have h2 : (2 : Nat) ^ 400001 = 2 ^ 400000 * 2 := Nat.pow_succ ..
  have := Nat.two_pow_pos 400000
  generalize (2 : Nat) ^ 400000 = X at *
  omega
/-! ### steps: the operators on numbers from 0 on -/
section
variable {H : Hp} {Q : VK} {x y k : Nat} {j : Int}
theorem k_andm (q : Q (.int ((x % 2 ^ k : Nat) : Int)) H) : rI0 (fun i j => .int (Builtin.bitAnd i j)) (.int (x : Int)) (.int (2 ^ k - 1)) H Q := ⟨_, _, rfl, rfl, by dsimp only; rw [and_mask]; exact q⟩
theorem k_andc (q : Q (.int ((x &&& y : Nat) : Int)) H) : rI0 (fun i j => .int (Builtin.bitAnd i j)) (.int (x : Int)) (.int (y : Int)) H Q := ⟨_, _, rfl, rfl, by dsimp only; rw [and_c]; exact q⟩
theorem k_orc (q : Q (.int ((x ||| y : Nat) : Int)) H) : rI0 (fun i j => .int (Builtin.bitOr i j)) (.int (x : Int)) (.int (y : Int)) H Q := ⟨_, _, rfl, rfl, by dsimp only; rw [or_c]; exact q⟩
theorem k_xorc (q : Q (.int ((x ^^^ y : Nat) : Int)) H) : rI0 (fun i j => .int (Builtin.bitXor i j)) (.int (x : Int)) (.int (y : Int)) H Q := ⟨_, _, rfl, rfl, by dsimp only; rw [xor_c]; exact q⟩
theorem k_xorm (q : Q (.int ((x ^^^ (2 ^ k - 1) : Nat) : Int)) H) : rI0 (fun i j => .int (Builtin.bitXor i j)) (.int (x : Int)) (.int (2 ^ k - 1)) H Q := ⟨_, _, rfl, rfl, by dsimp only; rw [mask_c, xor_c]; exact q⟩
theorem k_shlc (c : CShl (x : Int) j) (q : Q (.int ((x * 2 ^ j.toNat : Nat) : Int)) H) : rI CShl (fun i j => .int (i * 2 ^ j.toNat)) (.int (x : Int)) (.int j) H Q := ⟨_, _, rfl, rfl, c, by dsimp only; rw [shl_c]; exact q⟩
theorem k_shrc (c : 0 ≤ j) (q : Q (.int ((x / 2 ^ j.toNat : Nat) : Int)) H) : rI (fun _ j => 0 ≤ j) (fun i j => .int (i / 2 ^ j.toNat)) (.int (x : Int)) (.int j) H Q := ⟨_, _, rfl, rfl, c, by dsimp only; rw [shr_c]; exact q⟩
/-- 1 << k -/
theorem k_shl1 (c : 0 ≤ j ∧ j ≤ 100000000) (q : Q (.int ((2 ^ j.toNat : Nat) : Int)) H) : rI CShl (fun i j => .int (i * 2 ^ j.toNat)) (.int 1) (.int j) H Q :=
  ⟨_, _, rfl, rfl, cshl (sm41 (by omega) (by omega)) c.1 c.2 (by decide), by dsimp only; rw [Int.one_mul, pow_c]; exact q⟩
end
/-! ### rounds -/
/-- a round at an address: its size and its bits -/
structure RT (K : PySem.W.Frag) (H : Hp) (a : Addr) (n b : Nat) : Prop where
  t : SqT K H a [.int (n : Int), .int (b : Int)]
  n1 : 1 ≤ n
  n2 : n ≤ 150000
  lt : b < 2 ^ n
theorem RT.mono {K : PySem.W.Frag} {H H' : Hp} {a : Addr} {n b : Nat} (r : RT K H a n b) (e : Same H H') : RT K H' a n b := ⟨same_t e r.t, r.n1, r.n2, r.lt⟩
theorem RT.sm {K : PySem.W.Frag} {H : Hp} {a : Addr} {n b : Nat} (r : RT K H a n b) : Sm 400000 (b : Int) := sm_mono (sm_nat r.lt) (by have := r.n2; omega)
/-! ### stretched -/
theorem str_step {g : Nat → Bool} {h k n : Nat} (hg : ∀ i, g (i % n) = g i) (hn : n ∣ h) (hk : k ≤ h) :
    (ofB g h) ||| (ofB g h % 2 ^ k * 2 ^ h) = ofB g (h + k) := by
  apply eq_ofB
  intro i
  rw [Nat.testBit_or, tb_ofB, Nat.testBit_mul_two_pow, Nat.testBit_mod_two_pow, tb_ofB]
  by_cases h1 : i < h
  · rw [decide_eq_true h1, decide_eq_false (show ¬ h ≤ i by omega), decide_eq_true (show i < h + k by omega)]
    simp
  · rw [decide_eq_false h1, decide_eq_true (show h ≤ i by omega)]
    by_cases h2 : i < h + k
    · rw [decide_eq_true h2, decide_eq_true (show i - h < k by omega), decide_eq_true (show i - h < h by omega)]
      have : g (i - h) = g i := by
        rw [← hg (i - h), ← hg i]
        obtain ⟨c, rfl⟩ := hn
        congr 1
        have e : i = (i - n * c) + n * c := by omega
        conv => rhs; rw [e]
        rw [Nat.add_mul_mod_self_left]
      simp [this]
    · rw [decide_eq_false h2, decide_eq_false (show ¬ i - h < k by omega)]
      simp
/-- the bits of a round told by a multiple of its size -/
theorem str_bits {n b m : Nat} (hn : 1 ≤ n) : ofB (fun i => b.testBit (i % n)) m = bitsOf m (hold n b) := by
  unfold bitsOf
  apply ofB_ext
  intro i _
  unfold hold
  congr 1
theorem str_start {n b : Nat} (hb : b < 2 ^ n) : b = ofB (fun i => b.testBit (i % n)) n := by
  apply eq_ofB
  intro i
  by_cases hi : i < n
  · rw [decide_eq_true hi, Nat.mod_eq_of_lt hi]; rfl
  · rw [decide_eq_false hi, Bool.false_and]
    exact Nat.testBit_lt_two_pow (Nat.lt_of_lt_of_le hb (Nat.pow_le_pow_right (by decide) (by omega)))
/-! ### the other functions over rounds -/
theorem on_valc (b : Nat) (z : Nat) : decide (Builtin.bitAnd ((b / 2 ^ z : Nat) : Int) 1 = 1) = b.testBit z := by
  rw [bitAnd_m1, Nat.testBit_eq_decide_div_mod_eq]
  congr 1
  apply propext
  omega
theorem on_valc2 (b : Nat) (z : Nat) : decide (((b / 2 ^ z : Nat) : Int) % 2 = 1) = b.testBit z := by
  rw [Nat.testBit_eq_decide_div_mod_eq]
  congr 1
  apply propext
  omega
theorem hold_dvd {n b m : Nat} (hd : n ∣ m) (d : Int) : hold n b (d % (m : Int)) = hold n b d := by
  unfold hold
  rw [Int.emod_emod_of_dvd _ (Int.natCast_dvd_natCast.mpr hd)]
theorem hold_str {n b m : Nat} (hm : 1 ≤ m) (hd : n ∣ m) (d : Int) : hold m (bitsOf m (hold n b)) d = hold n b d := hold_mod hm (fun d => hold_dvd hd d) d
theorem tb_bitsOf (n : Nat) (f : Int → Bool) (i : Nat) : (bitsOf n f).testBit i = (decide (i < n) && f i) := tb_ofB _ _ _
theorem both_bits (m : Nat) (f g : Int → Bool) : bitsOf m f &&& bitsOf m g = bitsOf m (fun d => f d && g d) := by
  apply Nat.eq_of_testBit_eq; intro i
  simp only [Nat.testBit_and, tb_bitsOf]
  cases decide (i < m) <;> simp
theorem either_bits (m : Nat) (f g : Int → Bool) : bitsOf m f ||| bitsOf m g = bitsOf m (fun d => f d || g d) := by
  apply Nat.eq_of_testBit_eq; intro i
  simp only [Nat.testBit_or, tb_bitsOf]
  cases decide (i < m) <;> simp
theorem unlike_bits (m : Nat) (f g : Int → Bool) : bitsOf m f ^^^ bitsOf m g = bitsOf m (fun d => f d != g d) := by
  apply Nat.eq_of_testBit_eq; intro i
  simp only [Nat.testBit_xor, tb_bitsOf]
  cases decide (i < m) <;> simp
theorem without_bits (m : Nat) (f g : Int → Bool) : bitsOf m f ^^^ (bitsOf m f &&& bitsOf m g) = bitsOf m (fun d => f d && !g d) := by
  apply Nat.eq_of_testBit_eq; intro i
  simp only [Nat.testBit_xor, Nat.testBit_and, tb_bitsOf]
  cases decide (i < m) <;> simp
  cases f i <;> cases g i <;> rfl
theorem other_bits {n b : Nat} (hb : b < 2 ^ n) : b ^^^ (2 ^ n - 1) = bitsOf n (fun d => !hold n b d) := by
  apply Nat.eq_of_testBit_eq; intro i
  rw [Nat.testBit_xor, Nat.testBit_two_pow_sub_one, tb_bitsOf]
  by_cases h : i < n
  · rw [decide_eq_true h, hold_nat h]; cases b.testBit i <;> rfl
  · rw [decide_eq_false h, Nat.testBit_lt_two_pow (Nat.lt_of_lt_of_le hb (Nat.pow_le_pow_right (by decide) (by omega)))]; rfl
/-- ((b << s) | (b >> (n - s))) & mask(n), s the remainder of the number -/
theorem later_bits {n b : Nat} (hn : 1 ≤ n) (hb : b < 2 ^ n) (k : Int) :
    ((b * 2 ^ (k % (n : Int)).toNat) ||| (b / 2 ^ ((n : Int) - k % (n : Int)).toNat)) % 2 ^ n = bitsOf n (fun d => hold n b (d - k)) := by
  obtain ⟨h1, h2⟩ := mod_lt' hn k
  have ed := Int.emod_add_mul_ediv k (n : Int)
  generalize hs : (k % (n : Int)).toNat = s at *
  have e2 : ((n : Int) - k % (n : Int)).toNat = n - s := by omega
  rw [e2]
  apply Nat.eq_of_testBit_eq; intro i
  rw [Nat.testBit_mod_two_pow, Nat.testBit_or, Nat.testBit_mul_two_pow, Nat.testBit_div_two_pow, tb_bitsOf]
  by_cases h : i < n
  · rw [decide_eq_true h, Bool.true_and, Bool.true_and]
    by_cases h3 : s ≤ i
    · have e : ((i : Int) - k) % (n : Int) = ((i - s : Nat) : Int) % (n : Int) := by
        have : (i : Int) - k = ((i - s : Nat) : Int) - n * (k / n) := by omega
        rw [this, Int.sub_mul_emod_self_left]
      rw [decide_eq_true h3, hold_eq e, hold_nat (by omega), Nat.testBit_lt_two_pow (x := b) (i := i + (n - s)) (Nat.lt_of_lt_of_le hb (Nat.pow_le_pow_right (by decide) (by omega)))]
      simp
    · have e : ((i : Int) - k) % (n : Int) = ((i + (n - s) : Nat) : Int) % (n : Int) := by
        have : (i : Int) - k = ((i + (n - s) : Nat) : Int) - n * (k / n + 1) := by rw [Int.mul_add]; omega
        rw [this, Int.sub_mul_emod_self_left]
      rw [decide_eq_false h3, hold_eq e, hold_nat (by omega)]
      simp
  · rw [decide_eq_false h]; rfl
theorem lcm_c {n m : Nat} (hn : 1 ≤ n) : lcmI (n : Int) (m : Int) = ((Nat.lcm n m : Nat) : Int) := by
  have h1 := lcm_mul_gcd (a := (n : Int)) (b := (m : Int)) (by omega)
  have hg := gcd_pos (a := (n : Int)) (b := (m : Int)) (by omega)
  have h2 := Nat.gcd_mul_lcm n m
  have e : ((Int.gcd (n : Int) (m : Int) : Nat) : Int) = ((Nat.gcd n m : Nat) : Int) := by rw [Int.gcd_natCast_natCast]
  rw [e] at h1 hg
  have h3 : ((Nat.lcm n m : Nat) : Int) * ((Nat.gcd n m : Nat) : Int) = (n : Int) * m := by
    rw [← Int.natCast_mul, ← Int.natCast_mul, Nat.mul_comm, h2]
  exact Int.eq_of_mul_eq_mul_right (by omega) (h1.trans h3.symm)
theorem lcm1 {n m : Nat} (hn : 1 ≤ n) (hm : 1 ≤ m) : 1 ≤ Nat.lcm n m := Nat.lcm_pos hn hm
/-! ### drawn rounds -/
theorem pow_pos_c (k : Nat) : (0 : Int) < ((2 ^ k : Nat) : Int) := by have := Nat.two_pow_pos k; omega
theorem natmod (i : Int) (n : Nat) : ∃ x : Nat, i % ((2 ^ (n : Int).toNat : Nat) : Int) = (x : Int) ∧ x < 2 ^ n := by
  rw [Int.toNat_natCast]
  have hp := Nat.two_pow_pos n
  have h1 := Int.emod_nonneg i (show ((2 ^ n : Nat) : Int) ≠ 0 by omega)
  have h2 := Int.emod_lt_of_pos i (show (0 : Int) < ((2 ^ n : Nat) : Int) by omega)
  exact ⟨(i % ((2 ^ n : Nat) : Int)).toNat, by omega, by omega⟩
theorem mask_nat (n : Nat) : ((2 ^ (n : Int).toNat : Nat) : Int) - 1 = ((2 ^ n - 1 : Nat) : Int) := by
  rw [Int.toNat_natCast]
  have hp := Nat.two_pow_pos n
  omega
theorem one_lt {n : Nat} (hn : 1 ≤ n) (z : Int) : 2 ^ (z % (n : Int)).toNat < 2 ^ n := Nat.pow_lt_pow_right (by decide) (mod_lt' hn z).1
theorem pow_le {n : Nat} : 2 ^ n - 1 < 2 ^ n := by have := Nat.two_pow_pos n; omega
/-- what a law asks of a told round: from 0 on and below 1 << size -/
theorem told_bits {n b : Nat} (h : b < 2 ^ n) : ((b : Nat) : Int) < ((2 ^ (n : Int).toNat : Nat) : Int) := by rw [Int.toNat_natCast]; exact Int.ofNat_lt.mpr h
def sp_round (K : PySem.W.Frag) (S : Nat) : Sp := fun vs H Q _ => ∃ (x y : Int), vs = [.int x, .int y] ∧ Sm 1048576 x ∧ Sm 1048576 y ∧
  ∀ (p : Addr) (H' : Hp) (n b : Nat), Same H H' → RT K H' p n b → n ≤ S → Q (.ref p) H'
theorem k_round {K : PySem.W.Frag} {S : Nat} {H : Hp} {Q : VK} {E : XK} {x y : Int} (h1 : Sm 1048576 x) (h2 : Sm 1048576 y)
    (q : ∀ (p : Addr) (H' : Hp) (n b : Nat), Same H H' → RT K H' p n b → n ≤ S → Q (.ref p) H') : sp_round K S [.int x, .int y] H Q E := ⟨x, y, rfl, h1, h2, q⟩
/-! ### folded -/
/-- the days of a round by a divisor of its size -/
def foldB (s b : Nat) : Nat → Nat
  | 0 => 0
  | k + 1 => (b % 2 ^ s) ||| foldB s (b / 2 ^ s) k
theorem tb_fold (s : Nat) : ∀ (k b i : Nat), (foldB s b k).testBit i = true ↔ (i < s ∧ ∃ j, j < k ∧ b.testBit (i + j * s) = true)
  | 0, b, i => by simp [foldB]
  | k + 1, b, i => by
    have ih := tb_fold s k (b / 2 ^ s) i
    unfold foldB
    rw [Nat.testBit_or, Bool.or_eq_true, ih, Nat.testBit_mod_two_pow, Bool.and_eq_true, decide_eq_true_eq]
    constructor
    · rintro (⟨h1, h2⟩ | ⟨h1, j, h2, h3⟩)
      · exact ⟨h1, 0, by omega, by simpa using h2⟩
      · refine ⟨h1, j + 1, by omega, ?_⟩
        rw [Nat.testBit_div_two_pow] at h3
        rw [Nat.add_mul, Nat.one_mul, ← Nat.add_assoc]; exact h3
    · rintro ⟨h1, j, h2, h3⟩
      cases j with
      | zero => exact .inl ⟨h1, by simpa using h3⟩
      | succ j =>
        refine .inr ⟨h1, j, by omega, ?_⟩
        rw [Nat.testBit_div_two_pow]
        rw [Nat.add_mul, Nat.one_mul, ← Nat.add_assoc] at h3; exact h3
theorem fold_lt (s b k : Nat) : foldB s b k < 2 ^ s := by
  apply Nat.lt_pow_two_of_testBit
  intro i hi
  cases h : (foldB s b k).testBit i with
  | false => rfl
  | true =>
    have := (tb_fold s k b i).mp h
    omega
theorem fold_zero (s : Nat) : ∀ k, foldB s 0 k = 0
  | 0 => rfl
  | k + 1 => by unfold foldB; rw [Nat.zero_div, fold_zero s k]; simp
/-- it holds where the round holds on some day that is alike -/
theorem fold_hold {n s b : Nat} (hn : 1 ≤ n) (hs : 1 ≤ s) (hd : s ∣ n) (hb : b < 2 ^ n) (d : Int) : hold s (foldB s b (n / s)) d = true ↔ ∃ e : Int, hold n b e = true ∧ (e - d) % (s : Int) = 0 := by
  obtain ⟨c, rfl⟩ := hd
  have hc : s * c / s = c := Nat.mul_div_cancel_left c (by omega)
  rw [hc]
  obtain ⟨h1, h2⟩ := mod_lt' hs d
  unfold hold
  rw [tb_fold]
  constructor
  · rintro ⟨_, j, hj, hjb⟩
    refine ⟨((((d % (s : Int)).toNat + j * s : Nat)) : Int), ?_, ?_⟩
    · have hlt : (d % (s : Int)).toNat + j * s < s * c := by
        have : (j + 1) * s ≤ c * s := Nat.mul_le_mul_right _ hj
        rw [Nat.add_mul, Nat.one_mul, Nat.mul_comm c s] at this
        omega
      rw [Int.emod_eq_of_lt (by omega) (by omega), Int.toNat_natCast]
      exact hjb
    · rw [Int.natCast_add, h2, Int.natCast_mul]
      have e := Int.emod_add_mul_ediv d (s : Int)
      have : d % (s : Int) + (j : Int) * (s : Int) - d = (s : Int) * (j - d / s) := by rw [Int.mul_sub, Int.mul_comm (s : Int) j]; omega
      rw [this, Int.mul_emod_right]
  · rintro ⟨e, he, hed⟩
    have hsc : (1 : Nat) ≤ s * c := hn
    obtain ⟨g1, g2⟩ := mod_lt' hsc e
    refine ⟨h1, (e % ((s * c : Nat) : Int)).toNat / s, ?_, ?_⟩
    · exact Nat.div_lt_of_lt_mul g1
    · have hm : (e % ((s * c : Nat) : Int)).toNat % s = (d % (s : Int)).toNat := by
        have a1 : (((e % ((s * c : Nat) : Int)).toNat % s : Nat) : Int) = d % (s : Int) := by
          rw [Int.natCast_emod, g2, Int.emod_emod_of_dvd _ (by exact ⟨(c : Int), by rw [Int.natCast_mul]⟩)]
          have := Int.emod_emod_of_dvd e (Int.dvd_refl (s : Int))
          have h3 := Int.dvd_of_emod_eq_zero hed
          obtain ⟨z, hz⟩ := h3
          have : e = d + s * z := by omega
          rw [this, Int.add_mul_emod_self_left]
        omega
      have e2 := Nat.mod_add_div (e % ((s * c : Nat) : Int)).toNat s
      rw [← hm, Nat.mul_comm _ s, e2]; exact he

/-! ### how many bits are 1 -/
def cnt (f : Nat → Bool) : Nat → Nat
  | 0 => 0
  | k + 1 => cnt f k + if f k then 1 else 0
theorem cnt_ext {f g : Nat → Bool} : ∀ {n : Nat}, (∀ i, i < n → f i = g i) → cnt f n = cnt g n
  | 0, _ => rfl
  | n + 1, h => by
    unfold cnt
    rw [cnt_ext (n := n) (fun i hi => h i (by omega)), h n (by omega)]
theorem cnt_add (f : Nat → Bool) (m : Nat) : ∀ n, cnt f (m + n) = cnt f m + cnt (fun i => f (m + i)) n
  | 0 => rfl
  | n + 1 => by
    show cnt f (m + n) + (if f (m + n) then 1 else 0) = cnt f m + (cnt (fun i => f (m + i)) n + if f (m + n) then 1 else 0)
    rw [cnt_add f m n, Nat.add_assoc]
theorem cnt_le (f : Nat → Bool) : ∀ n, cnt f n ≤ n
  | 0 => Nat.le_refl 0
  | n + 1 => by
    have := cnt_le f n
    unfold cnt; split <;> omega
theorem cnt_mono (f : Nat → Bool) {m n : Nat} (h : m ≤ n) : cnt f m ≤ cnt f n := by
  obtain ⟨k, rfl⟩ := Nat.exists_eq_add_of_le h
  rw [cnt_add]; omega
theorem cnt_zero {f : Nat → Bool} : ∀ {n : Nat}, (∀ i, i < n → f i = false) → cnt f n = 0
  | 0, _ => rfl
  | n + 1, h => by
    unfold cnt
    rw [cnt_zero (n := n) (fun i hi => h i (by omega)), h n (by omega)]; rfl
theorem cnt_pos {f : Nat → Bool} {n i : Nat} (hi : i < n) (h : f i = true) : 0 < cnt f n := by
  have : cnt f (i + 1) ≤ cnt f n := cnt_mono f (by omega)
  have e : cnt f (i + 1) = cnt f i + if f i then 1 else 0 := rfl
  rw [e, if_pos h] at this
  omega
def pop (x : Nat) : Nat := if x = 0 then 0 else x % 2 + pop (x / 2)
termination_by x
decreasing_by omega
theorem pop_zero : pop 0 = 0 := by unfold pop; simp
theorem pop_step (x : Nat) : pop x = x % 2 + pop (x / 2) := by
  by_cases h : x = 0
  · subst h; simp [pop_zero]
  · rw [pop]; simp [h]
theorem pop_pos {x : Nat} (h : 0 < x) : 0 < pop x := by
  induction x using Nat.strongRecOn with
  | _ x ih =>
    rw [pop_step]
    by_cases h2 : x % 2 = 1
    · omega
    · have := ih (x / 2) (by omega) (by omega); omega
theorem pop_clear {x : Nat} (h : 0 < x) : pop (x &&& (x - 1)) + 1 = pop x := by
  induction x using Nat.strongRecOn with
  | _ x ih =>
    by_cases h2 : x % 2 = 1
    · have e : x &&& (x - 1) = 2 * (x / 2) := by
        apply Nat.eq_of_testBit_eq
        intro i
        rw [Nat.testBit_and]
        cases i with
        | zero =>
          rw [Nat.testBit_zero, Nat.testBit_zero, Nat.testBit_zero, decide_eq_false (show ¬ (x - 1) % 2 = 1 by omega), decide_eq_false (show ¬ 2 * (x / 2) % 2 = 1 by omega), Bool.and_false]
        | succ i =>
          rw [Nat.testBit_succ, Nat.testBit_succ, Nat.testBit_succ, show (x - 1) / 2 = x / 2 by omega, show 2 * (x / 2) / 2 = x / 2 by omega, Bool.and_self]
      rw [e, pop_step (2 * (x / 2)), pop_step x, show 2 * (x / 2) / 2 = x / 2 by omega]
      omega
    · have e : x &&& (x - 1) = 2 * ((x / 2) &&& (x / 2 - 1)) := by
        apply Nat.eq_of_testBit_eq
        intro i
        rw [Nat.testBit_and]
        cases i with
        | zero =>
          rw [Nat.testBit_zero, Nat.testBit_zero, Nat.testBit_zero, decide_eq_false (show ¬ x % 2 = 1 by omega), decide_eq_false (show ¬ 2 * (x / 2 &&& (x / 2 - 1)) % 2 = 1 by omega), Bool.false_and]
        | succ i =>
          rw [Nat.testBit_succ, Nat.testBit_succ, Nat.testBit_succ, show (x - 1) / 2 = x / 2 - 1 by omega, show 2 * (x / 2 &&& (x / 2 - 1)) / 2 = x / 2 &&& (x / 2 - 1) by omega, Nat.testBit_and]
      have := ih (x / 2) (by omega) (by omega)
      rw [e, pop_step (2 * _), show 2 * (x / 2 &&& (x / 2 - 1)) / 2 = x / 2 &&& (x / 2 - 1) by omega, pop_step x]
      omega
theorem pop_split (x : Nat) : ∀ k, pop (x % 2 ^ k) + pop (x / 2 ^ k) = pop x
  | 0 => by simp [Nat.mod_one, pop_zero]
  | k + 1 => by
    have h1 := pop_split x k
    have h2 := pop_step (x / 2 ^ k)
    have e1 : x / 2 ^ k / 2 = x / 2 ^ (k + 1) := by rw [Nat.div_div_eq_div_mul, Nat.pow_succ]
    have e2 : pop (x % 2 ^ (k + 1)) = pop (x % 2 ^ k) + x / 2 ^ k % 2 := by
      have e3 : x % 2 ^ (k + 1) = x % 2 ^ k + 2 ^ k * (x / 2 ^ k % 2) := by rw [Nat.pow_succ, Nat.mod_mul]
      rcases Nat.mod_two_eq_zero_or_one (x / 2 ^ k) with h | h
      · rw [e3, h]; simp
      · rw [e3, h, Nat.mul_one]
        exact pop_top (Nat.mod_lt _ (Nat.two_pow_pos k))
    rw [e1] at h2
    omega
where
  pop_top : ∀ {k y : Nat}, y < 2 ^ k → pop (y + 2 ^ k) = pop y + 1
    | 0, y, h => by
      have : y = 0 := by simpa using h
      subst this
      rw [pop_step]; simp [pop_zero]
    | k + 1, y, h => by
      rw [Nat.pow_succ] at h
      have ih := pop_top (k := k) (y := y / 2) (by omega)
      rw [pop_step, pop_step y, Nat.pow_succ, show (y + 2 ^ k * 2) / 2 = y / 2 + 2 ^ k by omega, ih]
      omega
theorem pop_cnt {x : Nat} : ∀ n, pop (x % 2 ^ n) = cnt x.testBit n
  | 0 => by simp [Nat.mod_one, pop_zero, cnt]
  | k + 1 => by
    have ih := pop_cnt (x := x) k
    have e3 : x % 2 ^ (k + 1) = x % 2 ^ k + 2 ^ k * (x / 2 ^ k % 2) := by rw [Nat.pow_succ, Nat.mod_mul]
    unfold cnt
    rcases Nat.mod_two_eq_zero_or_one (x / 2 ^ k) with h | h
    · rw [e3, h, Nat.mul_zero, Nat.add_zero, ih, Nat.testBit_eq_decide_div_mod_eq, decide_eq_false (by omega)]; rfl
    · rw [e3, h, Nat.mul_one, pop_split.pop_top (Nat.mod_lt _ (Nat.two_pow_pos k)), ih, Nat.testBit_eq_decide_div_mod_eq, decide_eq_true h]; rfl
theorem pop_eq {x n : Nat} (h : x < 2 ^ n) : pop x = cnt x.testBit n := by
  rw [← pop_cnt, Nat.mod_eq_of_lt h]
theorem pop_le {x n : Nat} (h : x < 2 ^ n) : pop x ≤ n := by rw [pop_eq h]; exact cnt_le _ _
theorem and_pred {x : Nat} (h : 0 < x) : Builtin.bitAnd (x : Int) ((x : Int) - 1) = ((x &&& (x - 1) : Nat) : Int) := by
  have : (x : Int) - 1 = ((x - 1 : Nat) : Int) := by omega
  rw [this, and_c]
theorem and_pred_lt {x : Nat} (h : 0 < x) : x &&& (x - 1) < x := Nat.lt_of_le_of_lt Nat.and_le_right (by omega)
/-! ### the lowest bit -/
theorem low_bit {x : Nat} (h : 0 < x) : ∃ k, x - (x &&& (x - 1)) = 2 ^ k ∧ x.testBit k = true ∧ ∀ i, i < k → x.testBit i = false := by
  induction x using Nat.strongRecOn with
  | _ x ih =>
    by_cases h2 : x % 2 = 1
    · refine ⟨0, ?_, by rw [Nat.testBit_zero, decide_eq_true h2], fun i hi => by omega⟩
      have e : x &&& (x - 1) = 2 * (x / 2) := by
        apply Nat.eq_of_testBit_eq
        intro i
        rw [Nat.testBit_and]
        cases i with
        | zero =>
          rw [Nat.testBit_zero, Nat.testBit_zero, Nat.testBit_zero, decide_eq_false (show ¬ (x - 1) % 2 = 1 by omega), decide_eq_false (show ¬ 2 * (x / 2) % 2 = 1 by omega), Bool.and_false]
        | succ i =>
          rw [Nat.testBit_succ, Nat.testBit_succ, Nat.testBit_succ, show (x - 1) / 2 = x / 2 by omega, show 2 * (x / 2) / 2 = x / 2 by omega, Bool.and_self]
      rw [e]; omega
    · obtain ⟨k, h3, h4, h5⟩ := ih (x / 2) (by omega) (by omega)
      have e : x &&& (x - 1) = 2 * ((x / 2) &&& (x / 2 - 1)) := by
        apply Nat.eq_of_testBit_eq
        intro i
        rw [Nat.testBit_and]
        cases i with
        | zero =>
          rw [Nat.testBit_zero, Nat.testBit_zero, Nat.testBit_zero, decide_eq_false (show ¬ x % 2 = 1 by omega), decide_eq_false (show ¬ 2 * (x / 2 &&& (x / 2 - 1)) % 2 = 1 by omega), Bool.false_and]
        | succ i =>
          rw [Nat.testBit_succ, Nat.testBit_succ, Nat.testBit_succ, show (x - 1) / 2 = x / 2 - 1 by omega, show 2 * (x / 2 &&& (x / 2 - 1)) / 2 = x / 2 &&& (x / 2 - 1) by omega, Nat.testBit_and]
      refine ⟨k + 1, ?_, by rw [Nat.testBit_succ]; exact h4, fun i hi => ?_⟩
      · have h6 : x / 2 &&& (x / 2 - 1) ≤ x / 2 := Nat.and_le_left
        rw [e, Nat.pow_succ]; omega
      · cases i with
        | zero => rw [Nat.testBit_zero, decide_eq_false h2]
        | succ i => rw [Nat.testBit_succ]; exact h5 i (by omega)
theorem and_neg {x : Nat} (h : 0 < x) : Builtin.bitAnd (x : Int) (-(x : Int)) = ((x - (x &&& (x - 1)) : Nat) : Int) := by
  have e : Builtin.bitNot (-(x : Int)) = ((x - 1 : Nat) : Int) := by
    show -(-(x : Int)) - 1 = _
    omega
  have h6 : x &&& (x - 1) ≤ x := Nat.and_le_left
  rw [bitAnd_pn (by omega) (by omega), e, Int.toNat_natCast, Int.toNat_natCast]
  omega
theorem bits_pow (k : Nat) : Builtin.Int.intBits ((2 ^ k : Nat) : Int) = k + 1 := by
  unfold Builtin.Int.intBits
  have hp := Nat.two_pow_pos k
  rw [if_neg (show ¬ (((2 ^ k : Nat) : Int) == 0) = true by simpa using (show ((2 ^ k : Nat) : Int) ≠ 0 by omega)), Int.natAbs_natCast, Nat.log2_two_pow]
theorem bits_nat {x : Nat} (h : 0 < x) : Builtin.Int.intBits (x : Int) = x.log2 + 1 := by
  unfold Builtin.Int.intBits
  rw [if_neg (show ¬ ((x : Int) == 0) = true by simpa using (show (x : Int) ≠ 0 by omega)), Int.natAbs_natCast]
/-- the lowest bit's place, as the program finds it -/
theorem low_place {x : Nat} (h : 0 < x) : ∃ k, Builtin.Int.intBits (Builtin.bitAnd (x : Int) (-(x : Int))) = k + 1 ∧ x.testBit k = true ∧ ∀ i, i < k → x.testBit i = false := by
  obtain ⟨k, h1, h2, h3⟩ := low_bit h
  exact ⟨k, by rw [and_neg h, h1, bits_pow], h2, h3⟩
theorem high_place {x : Nat} (h : 0 < x) : ∃ k, Builtin.Int.intBits (x : Int) = k + 1 ∧ x.testBit k = true ∧ ∀ i, k < i → x.testBit i = false := by
  refine ⟨x.log2, bits_nat h, Nat.testBit_log2 (by omega), fun i hi => ?_⟩
  exact Nat.testBit_lt_two_pow (Nat.lt_of_lt_of_le (Nat.lt_log2_self) (Nat.pow_le_pow_right (by decide) (by omega)))
/-! ### how many days -/
/-- the days of a round from day 0 on and ahead of a day -/
def rankI (n b : Nat) (d : Int) : Int := d / (n : Int) * (pop b : Nat) + (pop (b % 2 ^ (d % (n : Int)).toNat) : Nat)
theorem rank_step {n b : Nat} (hn : 1 ≤ n) (hb : b < 2 ^ n) (d : Int) : rankI n b (d + 1) = rankI n b d + if hold n b d then 1 else 0 := by
  obtain ⟨h1, h2⟩ := mod_lt' hn d
  have e := Int.emod_add_mul_ediv d (n : Int)
  unfold rankI
  have hc : ∀ k, pop (b % 2 ^ k) = cnt b.testBit k := fun k => pop_cnt k
  have hh : hold n b d = b.testBit (d % (n : Int)).toNat := rfl
  rw [hh]
  generalize hk : (d % (n : Int)).toNat = k at *
  generalize hq : d / (n : Int) = q at *
  by_cases hlast : k + 1 < n
  · have e1 : (d + 1) % (n : Int) = ((k + 1 : Nat) : Int) := by
      have : d + 1 = ((k + 1 : Nat) : Int) + n * q := by omega
      rw [this, Int.add_mul_emod_self_left, Int.emod_eq_of_lt (by omega) (by omega)]
    have e2 : (d + 1) / (n : Int) = q := by
      have : d + 1 = ((k + 1 : Nat) : Int) + n * q := by omega
      rw [this, Int.add_mul_ediv_left _ _ (by omega), Int.ediv_eq_zero_of_lt (by omega) (by omega)]
      omega
    rw [e1, e2, Int.toNat_natCast, hc, hc]
    show q * (pop b : Nat) + ((cnt b.testBit k + if b.testBit k then 1 else 0 : Nat) : Int) = _
    split <;> omega
  · have e0 : k + 1 = n := by omega
    have e1 : (d + 1) % (n : Int) = 0 := by
      have : d + 1 = n * (q + 1) := by rw [Int.mul_add]; omega
      rw [this, Int.mul_emod_right]
    have e2 : (d + 1) / (n : Int) = q + 1 := by
      have : d + 1 = n * (q + 1) := by rw [Int.mul_add]; omega
      rw [this, Int.mul_ediv_cancel_left _ (by omega)]
    rw [e1, e2, hc, hc]
    have e3 : pop b = cnt b.testBit k + if b.testBit k then 1 else 0 := by
      rw [pop_eq hb, ← e0]; rfl
    have e4 : cnt b.testBit (0 : Int).toNat = 0 := rfl
    rw [e4, Int.add_mul, e3]
    split <;> omega
theorem rank_add {n b : Nat} (hn : 1 ≤ n) (hb : b < 2 ^ n) (d : Int) : ∀ k : Nat, rankI n b (d + k) = rankI n b d + (cnt (fun i => hold n b (d + i)) k : Nat)
  | 0 => by simp [cnt]
  | k + 1 => by
    have ih := rank_add hn hb d k
    have e : d + ((k + 1 : Nat) : Int) = (d + k) + 1 := by omega
    rw [e, rank_step hn hb, ih]
    show _ = _ + ((cnt (fun i => hold n b (d + i)) k + if hold n b (d + k) then 1 else 0 : Nat) : Int)
    split <;> omega
theorem rank_round {n b : Nat} (hn : 1 ≤ n) (d : Int) : rankI n b (d + n) = rankI n b d + (pop b : Nat) := by
  unfold rankI
  have e1 : (d + n) % (n : Int) = d % n := by rw [Int.add_emod_right]
  have e2 : (d + n) / (n : Int) = d / n + 1 := by
    have := Int.add_mul_ediv_left d 1 (show (n : Int) ≠ 0 by omega)
    rw [Int.mul_one] at this; exact this
  rw [e1, e2, Int.add_mul]; omega
theorem rank_mono {n b : Nat} (hn : 1 ≤ n) (hb : b < 2 ^ n) {d e : Int} (h : d ≤ e) : rankI n b d ≤ rankI n b e := by
  obtain ⟨k, hk⟩ := Int.eq_ofNat_of_zero_le (show 0 ≤ e - d by omega)
  have : e = d + k := by omega
  rw [this, rank_add hn hb]; omega
theorem rank_sm {n b : Nat} (hn : 1 ≤ n) (hn2 : n ≤ 150000) (hb : b < 2 ^ n) {d : Int} {s : Nat} (h : Sm s d) : Sm (s + 40) (rankI n b d) := by
  have h1 := pop_le hb
  have h2 : pop (b % 2 ^ (d % (n : Int)).toNat) ≤ n := pop_le (Nat.lt_of_le_of_lt (Nat.mod_le _ _) hb)
  have h3 : (d / (n : Int)).natAbs ≤ d.natAbs := Int.natAbs_ediv_le_natAbs d n
  have h4 := h.h
  refine ⟨?_⟩
  unfold rankI
  have h5 : (d / (n : Int) * (pop b : Nat)).natAbs ≤ d.natAbs * 150000 := by
    rw [Int.natAbs_mul, Int.natAbs_natCast]
    exact Nat.mul_le_mul h3 (by omega)
  have h6 : 2 ^ (s + 40) = 2 ^ s * 1099511627776 := by rw [Nat.pow_add]
  have h7 := Nat.two_pow_pos s
  rw [h6]
  generalize (2 : Nat) ^ s = X at *
  omega

/-! ### a list that is written: all else stays -/
def Mut (p : Addr) (H H' : Hp) : Prop := ∀ a o, a ≠ p → H a = some o → H' a = some o
theorem Mut.of {p : Addr} {H H' : Hp} (s : Same H H') : Mut p H H' := fun a o _ h => s a o h
theorem Mut.trans {p : Addr} {H H' H2 : Hp} (m : Mut p H H') (m2 : Mut p H' H2) : Mut p H H2 := fun a o n h => m2 a o n (m a o n h)
theorem Mut.same {p : Addr} {H0 H H' : Hp} (s : Same H0 H) (m : Mut p H H') (h : H0 p = none) : Same H0 H' := fun a o e => m a o (fun e2 => by subst e2; rw [h] at e; exact nomatch e) (s a o e)
theorem mut_upd {p : Addr} {H : Hp} {o : HO} : Mut p H (upd H p o) := fun a x n h => by rw [upd_ne n]; exact h
theorem mut_t {K : PySem.W.Frag} {H H' : Hp} {p a : Addr} {xs ys : List V} (m : Mut p H H') (hp : H p = some (.lst xs)) (h : SqT K H a ys) : SqT K H' a ys := by
  rcases h with (h | ⟨o, h⟩) | h
  · exact .inl (.inl (m _ _ (fun e => by subst e; rw [hp] at h; exact nomatch h) h))
  · exact .inl (.inr ⟨o, m _ _ (fun e => by subst e; rw [hp] at h; exact nomatch h) h⟩)
  · exact .inr h
theorem mut_l {K : PySem.W.Frag} {H H' : Hp} {p a : Addr} {ys : List V} (m : Mut p H H') (n : a ≠ p) (h : SqL K H a ys) : SqL K H' a ys := by
  rcases h with (h | ⟨o, h⟩) | h
  · exact .inl (.inl (m _ _ n h))
  · exact .inl (.inr ⟨o, m _ _ n h⟩)
  · exact .inr h
theorem RT.mut {K : PySem.W.Frag} {H H' : Hp} {p a : Addr} {xs : List V} {n b : Nat} (m : Mut p H H') (hp : H p = some (.lst xs)) (r : RT K H a n b) : RT K H' a n b := ⟨mut_t m hp r.t, r.n1, r.n2, r.lt⟩
section
variable {K : PySem.W.Frag} {H : Hp} {Q : VK} {σ : L2.St} {l p : Addr} {xs : List V} {y : V}
def App (l : Addr) (ys : List V) (H : Hp) (Q : VK) : Prop := rAppend (.ref l) ys H Q
def BmR (K : PySem.W.Frag) (T : String) (r : V → List V → Hp → VK → Prop) (t : TA) (σ : L2.St) (x : V) (H : Hp) (Q : VK) : Prop := tyV K T x H ∧ t σ H fun xs H2 => r x xs H2 Q
theorem k_bm {T : String} {r : V → List V → Hp → VK → Prop} {to : TE} {t : TA} (h : to σ H fun x H1 => BmR K T r t σ x H1 Q) : tBM K T r to t σ H Q := h
theorem k_bmA {t : TA} (hl : SqL K H l xs) (h : t σ H fun ys H2 => App l ys H2 Q) : BmR K "list" rAppend t σ (.ref l) H Q := ⟨.inl ⟨rfl, xs, hl⟩, h⟩
theorem k_app (h : H l = some (.lst xs)) (hz : xs.length ≤ 1000000) (q : ∀ H', Mut l H H' → H' l = some (.lst (xs ++ [y])) → Q .non H') : App l [y] H Q :=
  ⟨l, xs, y, rfl, rfl, h, Nat.lt_of_le_of_lt hz (by decide), q _ mut_upd upd_same⟩
/-! ### slices -/
def SlV (K : PySem.W.Frag) (x : V) (lo hi : Option Int) (H : Hp) (Q : VK) : Prop := rSlL K x lo hi H Q
def PartV (x : V) (H : Hp) (Q : Option Int → Hp → Prop) : Prop := ∃ i, x = .int i ∧ Q (some i) H
theorem k_sl {te : TE} {tl th : TO} (h : te σ H fun x H1 => tl σ H1 fun lo H2 => th σ H2 fun hi H3 => SlV K x lo hi H3 Q) : L2.tSl (rSlL K) te tl th σ H Q := h
theorem k_part {t : TE} {Q : Option Int → Hp → Prop} (h : t σ H fun x H1 => PartV x H1 Q) : tPart t σ H Q := h
theorem k_partV {i : Int} {Q : Option Int → Hp → Prop} (h : Q (some i) H) : PartV (.int i) H Q := ⟨i, rfl, h⟩
theorem k_nopart {Q : Option Int → Hp → Prop} (h : Q none H) : tNoPart σ H Q := h
theorem k_slV {lo hi : Option Int} (h : SqL K H p xs) (q : ∀ a H2, H a = none → Same H H2 → H2 a = some (.lst (cutV xs lo hi)) → Q (.ref a) H2) : SlV K (.ref p) lo hi H Q :=
  ⟨p, xs, rfl, h, fun a ha => q a _ ha (same_new ha) upd_same⟩
theorem cutV_ints (ns : List Int) (lo hi : Option Int) : ∃ ms : List Int, cutV (ns.map V.int) lo hi = ms.map V.int ∧ (∀ z ∈ ms, z ∈ ns) ∧ ms.length ≤ ns.length := by
  refine ⟨(ns.drop (HT.sIx (ns.map V.int).length 0 lo)).take (HT.sIx (ns.map V.int).length (ns.map V.int).length hi - HT.sIx (ns.map V.int).length 0 lo), ?_, fun z hz => List.mem_of_mem_drop (List.mem_of_mem_take hz), ?_⟩
  · unfold cutV; rw [List.map_take, List.map_drop]
  · rw [List.length_take, List.length_drop]; omega
theorem cutV_to (xs : List V) (k : Nat) : (cutV xs none (some (k : Int))).length ≤ k := by
  unfold cutV
  rw [List.length_take, HT.sIx_nat]
  omega
/-! ### list(a list), a[i] = y -/
def LofV (K : PySem.W.Frag) (xs : List V) (H : Hp) (Q : VK) : Prop := ∃ p ys, xs = [.ref p] ∧ (SqL K H p ys ∨ SqT K H p ys) ∧ ∀ l, H l = none → Q (.ref l) (upd H l (.lst ys))
def rLof (K : PySem.W.Frag) : List V → Hp → VK → Prop := fun xs H Q => LofV K xs H Q
theorem kb_lof {X : Cx} (K : PySem.W.Frag) (hk : X.K = K) : CallR X (.type "list") (rLof K) := by subst hk; exact call_list_of
theorem k_lofL {ys : List V} (h : SqL K H p ys) (q : ∀ a H2, H a = none → Same H H2 → H2 a = some (.lst ys) → Q (.ref a) H2) : rLof K [.ref p] H Q := ⟨p, ys, rfl, .inl h, fun a ha => q a _ ha (same_new ha) upd_same⟩
def SetV (o i v : V) (H : Hp) (Q : Hp → Prop) : Prop := rSetL o i v H Q
theorem k_gsub {to ti : TE} {v : V} {Q : L2.St → Hp → Prop} (h : to σ H fun o H1 => ti σ H1 fun i H2 => SetV o i v H2 fun H3 => Q σ H3) : gSub to ti rSetL v σ H Q := h
theorem k_setV {i : Int} {j : Nat} {v : V} {Q : Hp → Prop} (h : H p = some (.lst xs)) (hj : ixN xs.length i = some j) (q : ∀ H', Mut p H H' → H' p = some (.lst (xs.set j v)) → Q H') : SetV (.ref p) (.int i) v H Q :=
  ⟨p, xs, i, j, rfl, rfl, h, hj, q _ mut_upd upd_same⟩
end
theorem k_eqE {K : PySem.W.Frag} {H : Hp} {Q : VK} {p q : Addr} {l : List Int} (h1 : SqL K H p (l.map V.int)) (h2 : SqL K H q []) (r : Q (.bl (decide (l = []))) H) : rEqA K (.ref p) (.ref q) H Q := k_eqL (m := []) h1 h2 r
theorem k_neE {K : PySem.W.Frag} {H : Hp} {Q : VK} {p q : Addr} {l : List Int} (h1 : SqL K H p (l.map V.int)) (h2 : SqL K H q []) (r : Q (.bl (!decide (l = []))) H) : rNeA K (.ref p) (.ref q) H Q := k_neL (m := []) h1 h2 r
theorem atI_last {l : List Int} (h : l ≠ []) : ∃ z, z ∈ l ∧ atI (l.map V.int) (-1) = some (.int z) := by
  have hp : 0 < l.length := List.length_pos_iff.mpr h
  refine ⟨l[l.length - 1], List.getElem_mem _, ?_⟩
  unfold atI ixN
  rw [if_neg (by decide), if_pos (by rw [List.length_map]; omega), List.length_map, show ((-1 : Int) + (l.length : Int)).toNat = l.length - 1 by omega]
  show (l.map V.int)[l.length - 1]? = _
  rw [List.getElem?_map, List.getElem?_eq_getElem (by omega)]
  rfl
/-- days of a round, as a list -/
structure DL (K : PySem.W.Frag) (H : Hp) (L : Addr) (n : Nat) (l : List Int) : Prop where
  h : SqL K H L (l.map V.int)
  b : ∀ x ∈ l, 0 ≤ x ∧ x < n
  z : l.length ≤ 4000
theorem DL.mono {K : PySem.W.Frag} {H H' : Hp} {L : Addr} {n : Nat} {l : List Int} (r : DL K H L n l) (s : Same H H') : DL K H' L n l := ⟨same_l s r.h, r.b, r.z⟩
theorem tb_put {x d : Nat} {l : List Int} (hx : ∀ j, x.testBit j = true ↔ (j : Int) ∈ l) (j : Nat) : (x ||| 2 ^ d).testBit j = true ↔ (j : Int) ∈ l ++ [(d : Int)] := by
  rw [Nat.testBit_or, Nat.testBit_two_pow, Bool.or_eq_true, hx, List.mem_append, List.mem_singleton, decide_eq_true_iff]
  constructor <;> (rintro (h | h); exact .inl h; right; omega)
theorem tb_add {x e : Nat} (h : x.testBit e = false) (j : Nat) : (2 ^ e + x).testBit j = (decide (e = j) || x.testBit j) := by
  rcases Nat.lt_trichotomy j e with hj | hj | hj
  · rw [Nat.testBit_two_pow_add_gt hj, decide_eq_false (by omega), Bool.false_or]
  · subst hj; rw [Nat.testBit_two_pow_add_eq, h]; simp
  · obtain ⟨k, rfl⟩ := Nat.exists_eq_add_of_lt hj
    rw [decide_eq_false (by omega), Bool.false_or]
    have e1 : ∀ y : Nat, y.testBit (e + k + 1) = (y / 2 ^ e / 2).testBit k := fun y => by
      rw [Nat.div_div_eq_div_mul, ← Nat.pow_succ, Nat.testBit_div_two_pow]; congr 1; omega
    rw [e1, e1, Nat.add_div_left _ (Nat.two_pow_pos e)]
    rw [Nat.testBit_eq_decide_div_mod_eq] at h
    have := of_decide_eq_false h
    congr 1
    omega
theorem sum_bits {n : Nat} : ∀ {l : List Int}, l.Nodup → (∀ x ∈ l, 0 ≤ x ∧ x < (n : Int)) →
    ∃ x : Nat, (l.map fun e => ((2 ^ e.toNat : Nat) : Int)).sum = (x : Int) ∧ x < 2 ^ n ∧ ∀ j : Nat, x.testBit j = true ↔ (j : Int) ∈ l
  | [], _, _ => ⟨0, rfl, Nat.two_pow_pos n, fun j => by simp⟩
  | e :: r, hd, hb => by
    obtain ⟨x, h1, h2, h3⟩ := sum_bits (n := n) (List.nodup_cons.mp hd).2 (fun y hy => hb y (List.mem_cons_of_mem _ hy))
    obtain ⟨b0, b1⟩ := hb e List.mem_cons_self
    obtain ⟨k, rfl⟩ := Int.eq_ofNat_of_zero_le b0
    have hk : x.testBit k = false := by
      cases hx : x.testBit k with
      | false => rfl
      | true => exact absurd ((h3 k).mp hx) (List.nodup_cons.mp hd).1
    have ht := tb_add hk
    refine ⟨2 ^ k + x, ?_, ?_, fun j => ?_⟩
    · rw [List.map_cons, List.sum_cons, h1, Int.toNat_natCast, Int.natCast_add]
    · refine Nat.lt_pow_two_of_testBit _ fun i hi => ?_
      rw [ht, decide_eq_false (by omega), Bool.false_or]
      exact Nat.testBit_lt_two_pow (Nat.lt_of_lt_of_le h2 (Nat.pow_le_pow_right (by decide) hi))
    · rw [ht, Bool.or_eq_true, decide_eq_true_iff, h3, List.mem_cons]
      constructor
      · rintro (h | h)
        · left; omega
        · exact .inr h
      · rintro (h | h)
        · left; omega
        · exact .inr h

/-! ### a caught exception, handed on to a def -/
/-! a def called in the suite that caught p: p's object is pinned while it runs -/
structure FnP (P : Program) (w : World) (K : PySem.W.Frag) (mg : Str → Option Value) (base : Heap) (CX : CXT) (k : Nat) (f : Addr) (fd : FuncData) (ps : List Str) (sp : Addr × Obj → Sp) : Prop where
  len : ∀ p vs H Q E, sp p vs H Q E → vs.length = ps.length
  run : ∀ (A : Around) (outer : List Env) (s : Shared) (H : Hp) (args : Args) (us : List Value) (vs : List V) (Q : VK) (E : XK) (p : Addr × Obj), L2H.RoomH k A → L2H.PinOk outer H s p → Env0 P w K mg base A outer s H → BindsTo s fd args (ps.zip us) → Vals vs us → sp p vs H Q E →
    codeAny (model P w) A (.call (.ref f) args) (CR CX outer P w H s Q E) s
theorem fn_ofP {CX : CXT} {P : Program} {w : World} {K : PySem.W.Frag} {mg : Str → Option Value} {base : Heap} {k : Nat} {f : Addr} {name qual : Str} {params : Arguments} {body : List Stmt} {scope : Scope} {dV kV doc pm cdv ct oc : Value} {an od : Option Addr}
    {osl : Array (Option Value)} {N ps : List Str} {sp : Addr × Obj → Sp} (lk : K.lookup f = some ⟨oc, od, .func (PySem.W.fnOf name qual params body scope dV kV doc pm an cdv ct), osl⟩) (hcd : PySem.W.codeIn K cdv qual = true) (S : FnScope N ps scope)
    (len : ∀ p vs H Q E, sp p vs H Q E → vs.length = ps.length)
    (hbody : ∀ (A : Around) (outer : List Env) (s : Shared) (H : Hp) (vs : List V) (Q : VK) (E : XK) (p : Addr × Obj), L2H.RoomH k (A.deeper (envOfC qual scope s.heap.objs.size f cdv)) → sp p vs H Q E →
      ∃ t, PSs (L2H.cxH CX P w K mg base N qual scope f cdv A outer s H E p) body t ∧ t { nx := fun _ H' => Q .non H', rt := Q } (L2.start N vs) H) :
    FnP P w K mg base CX (k + 1) f (PySem.W.fnOf name qual params body scope dV kV doc pm an cdv ct) ps sp := by
  refine ⟨len, fun A outer s H args us vs Q E p hr hpin e0 hb r hsp => ?_⟩
  have hl := len _ _ _ _ _ hsp
  have KX : K.In s.heap := e0.mod.kin.keeps fun b o e => (e0.bs b o e).1
  have lim : s.heap.NoLimit := e0.mod.nolimit.keeps fun b o e => (e0.bs b o e).1
  have hkind : ∀ y ∈ ps.zip us, scope.names.lookup y.1 = some .local ∨ (scope.names.lookup y.1 = some .cell ∧ ((cellsFrom (s.heap.objs.size + 1) scope.names []).lookup y.1).isSome = true) := fun ⟨n, v⟩ hy => by
    rcases S.par n (List.of_mem_zip hy).1 with q | q
    · exact .inl q
    · exact .inr ⟨q, PySem.W.cellsFrom_some _ _ _ (.inl q)⟩
  refine codeAny_call_function hr.depth (KX _ _ lk) rfl S.co S.gen rfl (PySem.W.codeRec_of KX hcd) (hb _ _ _ _ ?_)
  refine wpAny_newFunctionEnv_cells S.kind hkind fun env he s1 x => ?_
  subst he
  refine ⟨lim.keeps x.toInCall.keep, codeAny_func ?_⟩
  obtain ⟨t, ht, hq⟩ := hbody A outer s H vs Q E p (hr.deeper _) hsp
  have I : Inv (L2H.cxH CX P w K mg base N qual scope f cdv A outer s H E p) [] (L2.start N vs) H s1 := L2H.inv_startH S hpin e0 hl r x
  refine wpAny_mono (ht.run [] s1 (L2.start N vs) H _ I hq) (fun fl s' hs => ?_) fun e s' hs => hs
  have fin : ∀ {σ' : L2.St} {H' : Hp} {v : V} {u : Value}, Inv (L2H.cxH CX P w K mg base N qual scope f cdv A outer s H E p) [] σ' H' s' → RelV v u → Q v H' → CE outer P w H s Q u s' :=
    fun {σ' H' v u} J rv q => ⟨v, H', J.os, J.bare, J.base, J.hok, rv, q⟩
  cases fl with
  | ret u =>
    obtain ⟨v, σ', H', J, rv, q⟩ := hs
    exact fin J rv q
  | next =>
    obtain ⟨σ', H', J, q⟩ := hs
    exact fin (v := V.non) (u := Value.none) J rfl q
  | brk =>
    obtain ⟨_, _, _, q⟩ := hs
    exact False.elim q
  | cont =>
    obtain ⟨_, _, _, q⟩ := hs
    exact False.elim q
theorem Fun.okP {P : Program} {w : World} {K : PySem.W.Frag} {mg : Str → Option Value} {base : Heap} {x qual : Str} {st : Stmt} {f : Addr} {fd : FuncData} {N ps : List Str} {k : Nat} {sp : Addr × Obj → Sp} (F : Fun K x qual st f fd) (S : FnScope N ps (defScope st)) (len : ∀ p vs H Q E, sp p vs H Q E → vs.length = ps.length)
    (hbody : ∀ (cdv : Value) (A : Around) (outer : List Env) (s : Shared) (H : Hp) (vs : List V) (Q : VK) (E : XK) (p : Addr × Obj), L2H.RoomH k (A.deeper (envOfC qual (defScope st) s.heap.objs.size f cdv)) → sp p vs H Q E →
      ∃ t, PSs (L2H.cxH CX0 P w K mg base N qual (defScope st) f cdv A outer s H E p) (defBody st) t ∧ t { nx := fun _ H' => Q .non H', rt := Q } (L2.start N vs) H) : FnP P w K mg base CX0 (k + 1) f fd ps sp := by
  obtain ⟨oc, od, kV, doc, pm, an, cdv, ct, osl, rfl, lk, hcd⟩ := F.ex
  exact fn_ofP lk hcd S len fun A outer s H vs Q E p hr hsp => hbody cdv A outer s H vs Q E p hr hsp
section
variable {X : Cx} {CX : CXT} {k : Nat} {f a : Addr} {fd : FuncData} {ps : List Str} {sp : Addr × Obj → Sp} {x : Str} {p pos : Pos} {e : Expr} {es : List Expr} {t : TA} {oe : Obj} {pn : List (Addr × Obj)}
/-- f(.., err, ..) in an except suite: the exception is pinned while the callee runs -/
def tCallV (a : Addr) (cls : Value) (d : Option Addr) (sp : Addr × Obj → Sp) (t : TA) : TE := fun σ H Q => t σ H fun vs H1 =>
  ∀ oe : Obj, Zc cls d oe → (∃ u, oe.data = .fields u) → sp (a, oe) vs H1 Q (fun _ _ _ => False)
theorem pe_callV {cls : Value} {d : Option Addr} (hz : Zc cls d oe) (hf : ∃ u, oe.data = .fields u) (F : FnP X.prog X.w X.K X.mg X.base CX k f fd ps sp) (hr : Room k X.A) (hg : Gl X x) (hm : X.mg x = some (.ref f)) (hk : PySem.W.keepIn X.K (.ref f) = true) (hb : Binds X.K fd ps [])
    (hx : ∀ (l : List Env) (H : Hp) (s : Shared) (e : Value) (s' : Shared), ¬ CX l H s (fun _ _ _ => False) e s')
    (ha : PA (X.suite a ((a, oe) :: pn)) (e :: es) t) (hdb : (x == ("__debug__" : Str)) = false := by decide) (he : starEach (e :: es) X.env = (false, eval e X.env) :: starEach es X.env := by rfl) (hpl : (backTo pos (starEach es X.env)).any (·.1) = false := by rfl) :
    PE (X.suite a ((a, oe) :: pn)) (.Call (.Name x p) (e :: es) [] pos) (tCallV a cls d sp t) := by
  refine ⟨fun pins s σ H Q I h => ?_⟩
  refine wpAny_Call_Name_kw (ld_glob I hg hm ?_ hdb)
  refine PySem.W.callWith_K (h₀ := X.base) I.ok.mod.kin hk (thn (ha.run pos pins s σ H _ I h) fun us s1 ⟨vs, H1, I1, r, q⟩ => ⟨I1.kIn, ?_⟩) he hpl
  have q := q oe hz hf
  have P1 := I1.pin (a, oe) (List.mem_append_left _ List.mem_cons_self)
  have hpin : L2H.PinOk X.stack H1 s1 (a, oe) := ⟨P1.1, P1.2.1, fun hm => (List.mem_cons.mp (I1.stkSub a hm)).elim P1.2.2.1 P1.2.2.2.1, P1.2.2.2.2⟩
  have hl : us.length = ps.length := by rw [← r.length]; exact F.len _ _ _ _ _ q
  have b := hb s1 us I1.kIn (by rw [List.append_nil]; exact hl)
  rw [List.append_nil] at b
  refine wpAny_call (codeAny_mono (F.run _ X.stack s1 H1 ⟨us, []⟩ us vs Q (fun _ _ _ => False) (a, oe) ⟨hr.dp, hr.un⟩ hpin I1.env0 b r q) fun r s' hq => ?_)
  cases r with
  | error e => exact absurd hq (hx _ _ _ _ _)
  | ok fl =>
    cases fl with
    | ret u => exact I1.after hq
    | next => exact False.elim hq
    | brk => exact False.elim hq
    | cont => exact False.elim hq
/-- where the dict of the exception stands -/
def DOk (H : Hp) (d : Option Addr) : Prop := d = none ∨ ∃ (dd : Addr) (fs : List (Str × V)), d = some dd ∧ H dd = some (.xd fs)
theorem inst_exc {X : Cx} {pins : List (Addr × Obj)} {σ : L2.St} {H : Hp} {s : Shared} {a D : Addr} {d : Option Addr} {oe : Obj} (I : Inv X pins σ H s) (hget : s.heap.get? a = some oe) (hz : Zc (.ref D) d oe) (hf : ∃ vs, oe.data = .fields vs) (hd : DOk H d) :
    ∃ od, PySem.W.InstAt s.heap a oe D od := by
  obtain ⟨vs, hv⟩ := hf
  have hno : PySem.W.notCls oe = true := by unfold PySem.W.notCls; rw [hv] <;> rfl
  rcases hd with rfl | ⟨dd, fs, rfl, ea⟩
  · exact ⟨none, hget, hz.1, hno, by rw [hz.2]; exact trivial⟩
  · have hx : ObjOk X.prog X.w H s.heap dd (.xd fs) := I.hok dd _ ea
    obtain ⟨mA, hns, _⟩ := hx
    obtain ⟨od, ho, _⟩ := lookIn_ns hns
    exact ⟨some od, hget, hz.1, hno, by rw [hz.2]; exact ho⟩
theorem isinst_exc {X : Cx} {pins : List (Addr × Obj)} {σ : L2.St} {H : Hp} {s : Shared} {a D : Addr} {d : Option Addr} {oe : Obj} {cv : Value} {b : Bool} {Q : VK} (I : Inv X pins σ H s) (hget : s.heap.get? a = some oe) (hz : Zc (.ref D) d oe) (hf : ∃ vs, oe.data = .fields vs) (hd : DOk H d) (C : ExcC X.K D)
    (e : PySem.W.kitOne X.K (.ref D) cv = some b) (q : Q (.bl b) H) : wpAny (model X.prog X.w) X.A (call (.builtin "isinstance") [.ref a, cv]) (EP X pins σ Q) X.xe s := by
  obtain ⟨od, J⟩ := inst_exc I hget hz hf hd
  refine PySem.W.kia_one (PySem.W.kitx_exc ?_ C.hg C.hk C.hs C.ha C.hn C.ht C.hm) I.kIn J e (fun z => nomatch z) fun tk => ⟨.bl b, H, I.kept (t' := tk) fun _ _ z => z, rfl, q⟩
  obtain ⟨cd, hc, _⟩ := PySem.W.any_some C.hd
  rw [hc]; rfl
/-- isinstance(e, c), e the caught exception p, in a def that was called in its suite -/
def rIsV (K : PySem.W.Frag) (p : Addr × Obj) : List V → Hp → VK → Prop := fun xs H Q => ∃ (D : Addr) (d : Option Addr) (c : V) (cv : Value) (b : Bool), xs = [.ref p.1, c] ∧ ExcC K D ∧ Zc (.ref D) d p.2 ∧ DOk H d ∧ (∃ vs, p.2.data = .fields vs) ∧ (∀ u, RelV c u → u = cv) ∧ PySem.W.kitOne K (.ref D) cv = some b ∧ Q (.bl b) H
theorem call_isV {X : Cx} {p : Addr × Obj} (hp : X.pn = [p]) : CallR X (.builtin "isinstance") (rIsV X.K p) := by
  intro pins s σ H xs us Q I r h
  obtain ⟨D, d, c, cv, b, rfl, C, hz, hd, hf, hcv, e, q⟩ := h
  cases r with
  | cons rx rr =>
    cases rr with
    | cons rt rr =>
      cases rr
      cases rx
      have ec := hcv _ rt
      subst ec
      exact isinst_exc I (I.pin p (List.mem_append_left _ (by rw [hp]; exact List.mem_cons_self))).1 hz hf hd C e q
/-- isinstance(e, c) in the suite that caught e -/
def rIsC (K : PySem.W.Frag) (a : Addr) (cls : Value) (d : Option Addr) : List V → Hp → VK → Prop := fun xs H Q => ∃ (D : Addr) (c : V) (cv : Value) (b : Bool), cls = .ref D ∧ xs = [.ref a, c] ∧ ExcC K D ∧ DOk H d ∧ (∀ u, RelV c u → u = cv) ∧ PySem.W.kitOne K (.ref D) cv = some b ∧ Q (.bl b) H
theorem call_isC {X : Cx} {a : Addr} {oe : Obj} {pn : List (Addr × Obj)} {cls : Value} {d : Option Addr} (hz : Zc cls d oe) (hf : ∃ vs, oe.data = .fields vs) : CallR (X.suite a ((a, oe) :: pn)) (.builtin "isinstance") (rIsC X.K a cls d) := by
  intro pins s σ H xs us Q I r h
  obtain ⟨D, c, cv, b, rfl, rfl, C, hd, hcv, e, q⟩ := h
  cases r with
  | cons rx rr =>
    cases rr with
    | cons rt rr =>
      cases rr
      cases rx
      have ec := hcv _ rt
      subst ec
      obtain ⟨hget, _⟩ := I.pin (a, oe) (List.mem_append.mpr (.inl List.mem_cons_self))
      exact isinst_exc I hget hz hf hd C e q
end
/-- an error of the class at D, asked of the class at C: an except clause, isinstance -/
theorem exm_of {K : PySem.W.Frag} {D C : Addr} {b : Bool} (h1 : PySem.W.subIn K (.ref C) (.type "BaseException") = some true) (h2 : PySem.W.isClsIn K C = true) (h3 : PySem.W.typeIn K (.ref C) = some (.type "type")) (h4 : PySem.W.subIn K (.ref D) (.ref C) = some b) :
    PySem.W.exmOne K (.ref D) (.ref C) = some b := by
  have e1 : (PySem.W.subIn K (.ref C) (.type "BaseException") == some true) = true := by rw [h1] <;> rfl
  have e2 : ((PySem.W.clsIn K C).isSome && PySem.W.typeIn K (.ref C) == some (.type "type")) = true := by
    have h2' : (PySem.W.clsIn K C).isSome = true := h2
    rw [h2', h3] <;> rfl
  show (if (PySem.W.subIn K (.ref C) (.type "BaseException") == some true) = true then (if ((PySem.W.clsIn K C).isSome && PySem.W.typeIn K (.ref C) == some (.type "type")) = true then PySem.W.subIn K (.ref D) (.ref C) else none) else none) = some b
  rw [if_pos e1, if_pos e2]
  exact h4
theorem kit_of {K : PySem.W.Frag} {D C : Addr} {b : Bool} (h2 : PySem.W.isClsIn K C = true) (h3 : PySem.W.typeIn K (.ref C) = some (.type "type")) (hs : PySem.W.subIn K (.ref C) (.ref C) = some true) (h4 : PySem.W.subIn K (.ref D) (.ref C) = some b) :
    PySem.W.kitOne K (.ref D) (.ref C) = some b := by
  unfold PySem.W.kitOne
  by_cases e : D = C
  · subst e
    rw [hs] at h4
    rw [if_pos (by simp)]
    exact h4
  · rw [if_neg (by simpa using e)]
    have e2 : ((PySem.W.clsIn K C).isSome && PySem.W.typeIn K (.ref C) == some (.type "type")) = true := by
      have h2' : (PySem.W.clsIn K C).isSome = true := h2
      rw [h2', h3] <;> rfl
    show (if ((PySem.W.clsIn K C).isSome && PySem.W.typeIn K (.ref C) == some (.type "type")) = true then PySem.W.subIn K (.ref D) (.ref C) else none) = some b
    rw [if_pos e2]
    exact h4
theorem kit_ve {K : PySem.W.Frag} {D : Addr} {b : Bool} (h : PySem.W.subIn K (.ref D) (.type "ValueError") = some b) : PySem.W.kitOne K (.ref D) (.type "ValueError") = some b := by
  unfold PySem.W.kitOne
  rw [if_neg (by simp)]
  show (if PySem.W.kitMeta "ValueError" = true then PySem.W.subIn K (.ref D) (.type "ValueError") else none) = some b
  rw [if_pos (by decide +kernel)]
  exact h

/-! ### several except clauses, each with a name -/
def wAsM (K : PySem.W.Frag) (Wout : WX) (D : Ends) : List (Value × Nat × (Addr → Value → Option Addr → TS)) → WX
  | [] => Wout
  | (c, i, ts) :: r => fun cls d σ H => ∃ b, PySem.W.exmOne K cls c = some b ∧ (b = true → ∀ a, H a = none → ts a cls d { nx := fun σ' H' => D.nx (σ'.set i none) H', rt := D.rt, bk := fun σ' H' => D.bk (σ'.set i none) H', ct := fun σ' H' => D.ct (σ'.set i none) H' } (σ.set i (some (.ref a))) H) ∧
      (b = false → wAsM K Wout D r cls d σ H)
inductive HasOk (X : Cx) : List ExceptHandler → List (Value × Nat × (Addr → Value → Option Addr → TS)) → Prop
  | nil : HasOk X [] []
  | cons {x n : Str} {c : Value} {i : Nat} {ts : Addr → Value → Option Addr → TS} {b₀ : Stmt} {suite : List Stmt} {np pos' : Pos} {hds : List ExceptHandler} {l : List (Value × Nat × (Addr → Value → Option Addr → TS))}
      (hN : X.N.Nodup) (hi : X.N[i]? = some n) (hln : X.env.kindOf n = some .local) (hc : Names X x c)
      (hsu : ∀ (a : Addr) (oe : Obj) (cls : Value) (d : Option Addr) (pn : List (Addr × Obj)), Zc cls d oe → (∃ vs, oe.data = .fields vs) → PSs (X.suite a ((a, oe) :: pn)) (b₀ :: suite) (ts a cls d)) (r : HasOk X hds l) :
      HasOk X (.ExceptHandler (some (.Name x np)) (some n) (b₀ :: suite) pos' :: hds) ((c, i, ts) :: l)
section
variable {X : Cx} {body : List Stmt} {h₀ : ExceptHandler} {hds : List ExceptHandler} {l : List (Value × Nat × (Addr → Value → Option Addr → TS))} {pos : Pos} {tb : WX → TS} {Wout : WX}
theorem ps_try_asN (hs : X.stack = X.env :: X.outer) (hf : X.env.frame = some X.env.locals) (tk : Takes X Wout)
    (hb : ∀ (W : WX) (pn : List (Addr × Obj)) (xe : Value → Shared → Prop), Takes (X.tr pn xe) W → PassesOwn (model X.prog X.w) X.A X.env xe → PSs (X.tr pn xe) body (tb W))
    (hh : HasOk X (h₀ :: hds) l) : PS X (.Try body (h₀ :: hds) [] [] pos) (fun D σ H => tb (wAsM X.K Wout D l) D σ H) := by
  refine ⟨fun pins s σ H D I h => ?_⟩
  have ok := I.ok
  have hfr : X.A.frames = some (X.env :: X.outer) := by rw [ok.frames, hs]
  refine wpAny_Try_except ?_
  refine wpAny_mono ((hb (wAsM X.K Wout D l) (X.pn ++ pins) (fun e s₁ => wpAny (model X.prog X.w) X.A (noteFrame e X.env) (fun _ s₂ => wpAny (model X.prog X.w) X.A (setFlight e none) (fun _ s₃ =>
    wpAny (model X.prog X.w) X.A (handleBy e X.env (h₀ :: hds)) (SP X pins D) X.xe s₃) X.xe s₂) X.xe s₁) (fun u s' xx => ?_) PassesOwn.looking).run [] s σ H D (I.toTry _) h) (fun f s1 hsp => ?_) (fun e s1 he => he)
  · -- the catch
    obtain ⟨a, B, sI, pins', σ', H', cls, d, rfl, J', nb, up, sky, na, os, ag, w⟩ := xx
    have J : Inv X pins σ' H' sI := J'.ofTry ok
    have sky' : Sky B (X.env :: X.outer) a (Zc cls d) X.env.locals s'.heap := by rw [← hs]; exact sky
    show wpAny (model X.prog X.w) X.A (noteFrame (.ref a) X.env) _ _ _
    refine Sky.land Zc.steady hfr hf sky' fun h3 fl3 up3 => ?_
    have J3 : Inv X pins σ' H' { s' with heap := h3 } := J.landed nb fl3.1 (up.trans up3) os ag
    obtain ⟨oe3, vs3, he3, hz3, hd3⟩ := fl3.there
    have notFr : ∀ {h : Heap} {o : Obj} {vs : Array Value}, h.FunFrames B (X.env :: X.outer) → h.get? a = some o → o.data = .fields vs → a ∉ frs (X.env :: X.outer) := fun {h o vs} ff e dd hm => by
      obtain ⟨_, o', e', hnf⟩ := ff.mem hm
      rw [e] at e'; cases e'
      exact hnf _ dd
    have nfr := notFr fl3.2.2.1 he3 hd3
    have nL : a ≠ X.env.locals := fun z => nfr (List.mem_filterMap.mpr ⟨X.env, List.mem_cons_self, by rw [hf, z]⟩)
    have nF : a ∉ X.fs := fun hm => by
      obtain ⟨e, he, q⟩ := List.mem_filterMap.mp hm
      exact nfr (List.mem_filterMap.mpr ⟨e, List.mem_cons_of_mem _ he, q⟩)
    have S3 := J3.suite he3 hd3 na nL nF
    have go : ∀ {hds' : List ExceptHandler} {l' : List (Value × Nat × (Addr → Value → Option Addr → TS))}, HasOk X hds' l' → wAsM X.K Wout D l' cls d σ' H' →
        wpAny (model X.prog X.w) X.A (handleBy (.ref a) X.env hds') (SP X pins D) X.xe { s' with heap := h3 } := by
      intro hds' l' hk
      induction hk with
      | nil =>
        intro w
        refine wpAny_handleBy_nil ?_
        obtain ⟨k1, k2, k3, oe, vs, T, oT, ts', he, hz, hd, h1, hr⟩ := id fl3
        unfold PySem.passOn
        refine wpAny_bind (wpAny_field he hd h1 ?_)
        rw [if_neg (show ¬ ((Value.ref T == Value.none) = true) from by simp)]
        have fin : wpAny (model X.prog X.w) X.A (setFlight (.ref a) X.env.frame) (fun _ s4 => wpAny (model X.prog X.w) X.A (throw (.ref a) : Sem Flow) (SP X pins D) X.xe s4) X.xe { s' with heap := h3 } := by
          rw [hf]
          refine HandSPX.setFlight_upZ fl3 fun h4 hh4 up4 => wpAny_throw (tk _ _ ?_)
          exact ⟨a, B, sI, pins, σ', H', cls, d, rfl, J, nb, (up.trans up3).trans up4, .inr (.inr (by rw [hs]; exact hh4)), na, os, ag, w⟩
        first
          | exact wpAny_bind (wpAny_pure (wpAny_bind fin))
          | exact wpAny_bind fin
      | @cons x n c i ts b₀ suite np pos' hds2 l2 hN hi hln hc hsu r ih =>
        intro w
        obtain ⟨b, hb1, hyes, hno⟩ := w
        have hloc : Loc X.env.scope n := .inl hln
        refine wpAny_handleBy_cons (codeAny_handlers_test ?_) (by intro q; cases q)
        have LT : PySem.W.Looks (model X.prog X.w) h3 (typeOf (.ref a)) cls := fun A Q E s k q => wpAny_typeOf_ref (k _ _ he3) (by rw [hz3.1]; exact q)
        have LM := PySem.W.exm_one (M := model X.prog X.w) (J3.kIn) LT hb1
        have test : ∀ {Q : Value → Shared → Prop} {E : Value → Shared → Prop}, Q c { s' with heap := h3 } → wpAny (model X.prog X.w) (X.A.mark (some (.ref a))) (eval (.Name x np) X.env) Q E { s' with heap := h3 } := fun {Q E} q => by
          obtain ⟨hg, hdbg, hm | ⟨hm, hv, hnn⟩⟩ := hc
          · exact ld_glob (X := X.suite a ((a, oe3) :: (X.pn ++ pins))) S3 hg hm q hdbg
          · exact ld_blt (X := X.suite a ((a, oe3) :: (X.pn ++ pins))) S3 hg hm hv q hnn hdbg
        refine test (LM.here ?_)
        cases b with
        | true =>
          refine codeAny_handlers_suite_as ?_
          refine HandSPX.lands_againZ fl3 fun h4 fl4 up4 => ?_
          have J4 : Inv X pins σ' H' { s' with heap := h4 } := J.landed nb fl4.1 ((up.trans up3).trans up4) os ag
          obtain ⟨oe4, vs4, he4, hz4, hd4⟩ := fl4.there
          have S4 := J4.suite he4 hd4 na nL nF
          refine store_ok (X := X.suite a ((a, oe4) :: (X.pn ++ pins))) (v := .ref a) S4 hN hi hloc rfl (fun s5 S5 => ?_) (.inr hln)
          refine wpAny_mono ((hsu a oe4 cls d (X.pn ++ pins) hz4 ⟨_, hd4⟩).run [] s5 _ H' _ S5 (hyes rfl a na)) (fun f s6 hsp => ?_) (fun _ _ z => False.elim z)
          have end_ : ∀ {σ6 : L2.St} {H6 : Hp} {Q : Shared → Prop}, Inv (X.suite a ((a, oe4) :: (X.pn ++ pins))) [] σ6 H6 s6 → (∀ s7, Inv X pins (σ6.set i none) H6 s7 → Q s7) →
              wpAny (model X.prog X.w) X.A (do bindName X.env n .none; unbindBehindTheSuite X.env n pos') (fun _ s7 => Q s7) X.xe s6 := fun {σ6 H6 Q} S6 hq => gone_ok (S6.unsuite ok) hN hi hln hq
          cases f with
          | next =>
            obtain ⟨σ6, H6, S6, q6⟩ := hsp
            exact end_ S6 fun s7 J7 => ⟨_, _, J7, q6⟩
          | brk =>
            obtain ⟨σ6, H6, S6, q6⟩ := hsp
            exact end_ S6 fun s7 J7 => ⟨_, _, J7, q6⟩
          | cont =>
            obtain ⟨σ6, H6, S6, q6⟩ := hsp
            exact end_ S6 fun s7 J7 => ⟨_, _, J7, q6⟩
          | ret u =>
            obtain ⟨v6, σ6, H6, S6, r6, q6⟩ := hsp
            exact end_ S6 fun s7 J7 => ⟨_, _, _, J7, r6, q6⟩
        | false =>
          show wpAny _ X.A (handleBy (.ref a) X.env hds2) _ _ _
          exact ih (hno rfl)
    exact go hh w
  · cases f with
    | next =>
      obtain ⟨σ', H', J', q⟩ := hsp
      exact wpAny_execs_nil ⟨σ', H', J'.ofTry ok, q⟩
    | brk =>
      obtain ⟨σ', H', J', q⟩ := hsp
      exact ⟨σ', H', J'.ofTry ok, q⟩
    | cont =>
      obtain ⟨σ', H', J', q⟩ := hsp
      exact ⟨σ', H', J'.ofTry ok, q⟩
    | ret u =>
      obtain ⟨v, σ', H', J', r, q⟩ := hsp
      exact ⟨v, σ', H', J'.ofTry ok, r, q⟩
end
/-! ### C0.__init__(self, ..), C0 an own class whose __init__ is ValueError's -/
section
variable {X : Cx} {e : Expr} {es : List Expr} {ta : TA} {n : Str} {C0 : Addr} {mc : Value} {p1 p2 pos : Pos}
theorem pe_xinit {pl : Sem Bool} (hg : Gl X n) (hm : X.mg n = some (.ref C0)) (r : ClX.CRead X.K C0 mc) (vV : PySem.W.findCls X.K (.ref C0) mc "__init__" = some (.val (.builtin "ValueError.__init__"))) (ha : PA X (e :: es) ta)
    (hc : eval (.Call (.Attribute (.Name n p1) "__init__" p2) (e :: es) [] pos) X.env = (do
      let ov ← eval (.Name n p1) X.env
      standAt p2.atName
      let (f, first) ← holding [ov] (getMethod ov "__init__" pl)
      callWith pos f first (backTo pos (starEach (e :: es) X.env)) (backToKw pos (keywordEach [] X.env))) := by rfl)
    (hd : (n == ("__debug__" : Str)) = false := by decide)
    (he : starEach (e :: es) X.env = (false, eval e X.env) :: starEach es X.env := by rfl) (hpl : (backTo pos (starEach es X.env)).any (·.1) = false := by rfl) :
    PE X (.Call (.Attribute (.Name n p1) "__init__" p2) (e :: es) [] pos) (tVeI X.K ta) := by
  refine ⟨fun pins s σ H Q I h => ?_⟩
  refine PySem.W.methodCall_KW (ld_glob I hg hm ?_ hd) hc
  refine PySem.W.method_cls I.kIn r.ga ?_
  refine PySem.W.cls_value I.kIn r.rd vV (by decide +kernel) ?_
  show wpAny _ _ (callWith pos (Value.builtin "ValueError.__init__") [] (backTo pos (starEach (e :: es) X.env)) []) _ _ _
  refine PyProof.Rows.callWith_method1 (thn (ha.run pos pins _ σ H _ (I.tok _) h) fun us s1 ⟨vs, H1, I1, r1, a, C, ws, ev, hl, T, ea, q⟩ => ?_) he hpl
  subst ev
  cases r1 with
  | @cons _ u0 _ ur ra rw' =>
    obtain rfl : u0 = Value.ref a := ra
    have hlen : ur.length ≤ sizeLine := by
      rw [← Paired.length rw', sizeLine_eq]
      omega
    exact oinit_ok T I1 ea hlen fun s' J => ⟨.non, H1, J, rfl, q⟩
end
/-! ### readings' heads, and what is told of TooLong -/
theorem k_ifSx {c : TT} {t u : TS} {D : Ends} {σ : L2.St} {H : Hp} (h : c σ H fun b H1 => if b = true then t D σ H1 else u D σ H1) : tIfS c t u D σ H := h
theorem k_callSx {sp : Sp} {E : L2.St → XK} {tr : TA} {σ : L2.St} {H : Hp} {Q : VK} (h : tr σ H fun vs H1 => sp vs H1 Q (E σ)) : tCallS sp E tr σ H Q := h
/-- an error of the class at C may lie in the air, that has needed = m -/
def TL (C : Addr) (E : XK) (H : Hp) (m : Int) : Prop := ∀ (d : Addr) (H' : Hp), Same H H' → H' d = some (.xd [("needed", .int m)]) → E (.ref C) (some d) H'
theorem TL.mono {C : Addr} {E : XK} {H H1 : Hp} {m : Int} (t : TL C E H m) (s : Same H H1) : TL C E H1 m := fun d H' s' e => t d H' (s.trans s') e
theorem k_isX {K : PySem.W.Frag} {H : Hp} {Q : VK} {a D : Addr} {d : Option Addr} {c : V} {cv : Value} {b : Bool} (C : ExcC K D) (hd : DOk H d) (hcv : ∀ u, RelV c u → u = cv) (h : PySem.W.kitOne K (.ref D) cv = some b) (q : Q (.bl b) H) : rIsC K a (.ref D) d [.ref a, c] H Q :=
  ⟨D, c, cv, b, rfl, rfl, C, hd, hcv, h, q⟩
theorem k_xf {a C : Addr} {cls : Value} {d : Option Addr} {f : Str} {te : TE} {σ : L2.St} {H : Hp} {Q : VK} (h : te σ H fun x H1 => x = .ref a ∧ cls = .ref C ∧ ∃ (dd : Addr) (fs : List (Str × V)) (v : V), d = some dd ∧ H1 dd = some (.xd fs) ∧ fs.lookup f = some v ∧ Q v H1) : tXf a cls d C f te σ H Q := h
/-- self of an own error, being made -/
theorem tl_made {C a d : Addr} {E : XK} {H H2 : Hp} {m : Int} (t : TL C E H m) (ha : H a = none) (hd : H d = none) (e : H2 = upd (upd (upd H a (exo a C none)) d (exd d [("needed", .int m)])) a (exo a C (some d))) : E (.ref C) (some d) (upd (del H2 a) d (.xd [("needed", .int m)])) := by
  refine t d _ (fun b o h => ?_) upd_same
  have nb : b ≠ d := ne_of_none h hd
  have na : b ≠ a := ne_of_none h ha
  rw [upd_ne nb, del_ne na, e, upd_ne na, upd_ne nb, upd_ne na]
  exact h
/-- C(self, needed) -/
def spTL (C : Addr) : Sp := fun vs H Q _ => ∃ (a : Addr) (m : Int), vs = [.ref a, .int m] ∧ H a = some (exo a C none) ∧ ∀ dx, H dx = none → dx ≠ a → Q .non (upd (upd H dx (exd dx [("needed", .int m)])) a (exo a C (some dx)))
theorem k_mkTL {C : Addr} {H : Hp} {E : XK} {m : Int} (t : TL C E H m) : ([V.int m] : List V).length ≤ 1000 ∧ ∀ a, H a = none → spTL C (.ref a :: ([V.int m] ++ [])) (upd H a (exo a C none))
    (fun v H2 => v = .non ∧ ∃ (d : Addr) (fs : List (Str × V)), H2 a = some (exo a C (some d)) ∧ H2 d = some (exd d fs) ∧ H d = none ∧ E (.ref C) (some d) (upd (del H2 a) d (.xd fs))) (fun _ _ _ => False) := by
  refine ⟨by show 1 ≤ 1000; decide, fun a ha => ⟨a, m, rfl, upd_same, fun dx hd hda => ⟨rfl, dx, [("needed", .int m)], upd_same, ?_, ?_, ?_⟩⟩⟩
  · rw [upd_ne hda, upd_same]
  · rw [upd_ne hda] at hd; exact hd
  · rw [upd_ne hda] at hd
    exact tl_made t ha hd rfl
theorem k_veI {K : PySem.W.Frag} {ta : TA} {σ : L2.St} {H : Hp} {Q : VK} (h : ta σ H fun vs H1 => ∃ (a C : Addr) (ws : List V), vs = .ref a :: ws ∧ ws.length ≤ 1000 ∧ OexC K C ∧ H1 a = some (exo a C none) ∧ Q .non H1) : tVeI K ta σ H Q := h
theorem k_ost {K : PySem.W.Frag} {f : Str} {to te : TE} {D : Ends} {σ : L2.St} {H : Hp} (h : te σ H fun y H1 => to σ H1 fun x H2 => ∃ a C : Addr, x = .ref a ∧ OexC K C ∧ PySem.W.findIn K (.ref C) f = some none ∧
  ((H2 a = some (exo a C none) ∧ ∀ dx, H2 dx = none → dx ≠ a → D.nx σ (upd (upd H2 dx (exd dx [(f, y)])) a (exo a C (some dx)))) ∨
    ∃ (dx : Addr) (fs : List (Str × V)), H2 a = some (exo a C (some dx)) ∧ H2 dx = some (exd dx fs) ∧ fs.length ≤ 900 ∧ D.nx σ (upd H2 dx (exd dx ((f, y) :: fs))))) : tOst K f to te D σ H := h
theorem k_mkO {C : Addr} {sp : Sp} {dvs : List V} {ta : TA} {σ : L2.St} {H : Hp} {Q : XK} (h : ta σ H fun vs H1 => vs.length ≤ 1000 ∧ ∀ a, H1 a = none → sp (.ref a :: (vs ++ dvs)) (upd H1 a (exo a C none))
  (fun v H2 => v = .non ∧ ∃ (d : Addr) (fs : List (Str × V)), H2 a = some (exo a C (some d)) ∧ H2 d = some (exd d fs) ∧ H1 d = none ∧ Q (.ref C) (some d) (upd (del H2 a) d (.xd fs))) (fun _ _ _ => False)) : tMkO C sp dvs ta σ H Q := h

/-! ### the walker: one step, by the head of the reading -/
local macro_rules | `(tactic| walk_at "hp") => `(tactic| first | assumption | (refine' same_t ?h1 ?h2; (case h1 => assumption); (case h2 => walk_at "hp")) | (refine' same_l ?h1 ?h2; (case h1 => assumption); (case h2 => walk_at "hp")) | (refine' same_at ?h1 ?h2; (case h1 => assumption); (case h2 => walk_at "hp")) | fail)
local macro_rules | `(tactic| walk_at "hl") => `(tactic| first | walk_at "hp" | (refine' SqL.of ?h1; (case h1 => walk_at "hp")) | fail)
local macro_rules | `(tactic| walk_at "ht") => `(tactic| first | walk_at "hp" | (refine' SqT.of ?h1; (case h1 => walk_at "hp")) | fail)
local macro_rules | `(tactic| walk_at "sm") => `(tactic| first | assumption | (refine' sm_lit ?h1; (case h1 => decide +kernel)) | exact sm41 (by omega) (by omega) | walk_at "smx" | (refine' sm_mul ?h1 ?h2; (case h1 => walk_at "sm"); (case h2 => walk_at "sm")) | fail)
local macro_rules | `(tactic| walk_at "sd") => `(tactic| first
  | omega
  | decide +kernel
  | ((with_reducible apply Int.emod_nonneg); omega)
  | ((with_reducible refine sm_divx (b := 200) ?_ ?_ (by decide) (by decide)) <;> first | omega | walk_at "sm")
  | ((with_reducible refine sm_div (b := 200) ?_ ?_ (by decide) (by decide)) <;> first | omega | walk_at "sm")
  | walk_at "sdx"
  | ((with_reducible refine' sm_mulx ?h1 ?h2 ?h3); (case h1 => walk_at "sm"); (case h2 => walk_at "sm"); (case h3 => decide +kernel)) | fail)
local macro_rules | `(tactic| walk_at "st") => `(tactic| first
  | (with_reducible apply k_seqA)
  | (with_reducible apply k_seqD)
  | (with_reducible apply k_seqP)
  | ((with_reducible apply k_var); (· rfl))
  | (with_reducible apply k_c)
  | (with_reducible apply k_op)
  | (with_reducible apply k_add)
  | (with_reducible apply k_I0)
  | (with_reducible apply k_asg)
  | (with_reducible apply k_call)
  | (with_reducible apply k_cb)
  | (with_reducible apply k_cons)
  | (with_reducible apply k_nil)
  | (with_reducible apply k_ret)
  | (with_reducible apply k_test)
  | (with_reducible apply k_eq)
  | (with_reducible apply k_ne)
  | (with_reducible apply k_bl)
  | ((with_reducible apply k_I); (· walk_at "sd"))
  | (with_reducible apply k_U)
  | (with_reducible apply k_un)
  | ((with_reducible apply k_ixT); (· walk_at "ht"); (· rfl))
  | ((with_reducible apply k_ixL); (· walk_at "hl"); (· rfl))
  | (with_reducible apply k_tup)
  | ((with_reducible apply k_newtup); (· exact Nat.le_of_ble_eq_true rfl); intro p H' hn hs ht)
  | (with_reducible apply k_lst)
  | ((with_reducible apply k_newlst); (· exact Nat.le_of_ble_eq_true rfl); intro p H' hn hs ht)
  | (with_reducible apply k_B)
  | (with_reducible apply k_and)
  | (with_reducible apply k_or)
  | (with_reducible apply k_not)
  | ((with_reducible apply k_and2); (· rfl); (· rfl))
  | ((with_reducible apply k_or2); (· rfl); (· rfl))
  | ((with_reducible apply k_andn2); (· rfl); (· rfl))
  | (with_reducible apply k_andV)
  | (with_reducible apply k_orV)
  | (with_reducible apply k_notV)
  | (with_reducible apply k_chain)
  | (with_reducible apply k_eqb)
  | (with_reducible apply k_neb)
  | (with_reducible apply k_eqs)
  | (with_reducible apply k_nes)
  | (with_reducible apply k_drop)
  | (with_reducible apply k_next)
  | (with_reducible apply if_t)
  | (with_reducible apply if_f)
  | (with_reducible apply if_nt)
  | (with_reducible apply if_nf)
  | (with_reducible apply k_isi_ii)
  | (with_reducible apply k_isi_ib)
  | (with_reducible apply k_isi_bb)
  | (with_reducible apply k_isi_it)
  | ((with_reducible apply k_isi_tt); (· walk_at "ht"))
  | (with_reducible apply k_abs)
  | ((with_reducible apply k_max2); intro k hk1 hk2 hk3)
  | ((with_reducible apply k_min2); intro k hk1 hk2 hk3)
  | ((with_reducible apply k_lenT); (· walk_at "ht"))
  | ((with_reducible apply k_lenL); (· walk_at "hl"))
  | (with_reducible apply k_intI)
  | (with_reducible apply k_intB)
  | (with_reducible apply k_par)
  | (with_reducible apply k_par2)
  | (with_reducible apply k_ifx)
  | (with_reducible apply k_gname)
  | (with_reducible apply k_asgG)
  | (with_reducible apply k_retN)
  | (with_reducible apply k_lstrg)
  | ((with_reducible apply k_lstrgV); (· omega); intro p H' hn hs ht)
  | (with_reducible apply k_bits)
  | (with_reducible apply k_bitsV)
  | (with_reducible apply k_isN_n)
  | (with_reducible apply k_isN_i)
  | (with_reducible apply k_isN_r)
  | (with_reducible apply k_notN_n)
  | (with_reducible apply k_notN_i)
  | (with_reducible apply k_notN_r)
  | (with_reducible apply k_lc)
  | (with_reducible apply k_itup)
  | (with_reducible apply k_ilst)
  | ((with_reducible apply k_sqt); (· walk_at "ht"))
  | ((with_reducible apply k_sql); (· walk_at "hl"))
  | (with_reducible apply k_irng1)
  | ((with_reducible apply k_rng1); (· first | decide | omega))
  | (with_reducible apply k_irng2L)
  | (with_reducible apply k_rng2L)
  | (with_reducible apply k_irng2)
  | (with_reducible apply k_irng3)
  | ((with_reducible apply k_rng2); (· first | decide | omega))
  | ((with_reducible apply k_gtup); (· walk_at "ht"); (· rfl))
  | (with_reducible apply k_gcons)
  | (with_reducible apply k_gnil)
  | ((with_reducible apply k_notin2); (· walk_at "hl"))
  | ((with_reducible apply k_in2); (· walk_at "hl"))
  | ((with_reducible apply k_in3); (· walk_at "hl"))
  | ((with_reducible apply k_notinL); (· walk_at "hl"))
  | ((with_reducible apply k_inL'); (· walk_at "hl"))
  | ((with_reducible apply k_divmod); (· walk_at "sd"); intro p H' hn hs ht) | fail)
local macro_rules | `(tactic| walk_at "go") => `(tactic| repeat' walk_at "st")
/-- a branch: both ways, those that cannot be shut by omega -/
local macro_rules | `(tactic| walk_at "br") => `(tactic| (first | with_reducible apply if_dec | with_reducible apply if_ndec | with_reducible apply if_b) <;> intro hbr <;> first | (first | exact absurd (by assumption) hbr | exact absurd hbr (by assumption) | (exfalso; omega) | (exfalso; simp only [List.length_cons, List.length_nil] at hbr; omega)) | skip)
/-- an if statement: its test walked, the ways that can be -/
local macro_rules | `(tactic| walk_at "if") => `(tactic| ((first | with_reducible apply k_seqI | with_reducible apply k_if); walk_at "go"; walk_at "br"))
/-- a branch of which omega shuts one way -/
local macro_rules | `(tactic| walk_at "br1") => `(tactic| first
  | (with_reducible apply if_dec; (· (intro hbr; first | exact absurd (by assumption) hbr | exact absurd hbr (by assumption) | (exfalso; omega) | (exfalso; simp only [List.length_cons, List.length_nil] at hbr; omega))); intro hbr)
  | (with_reducible apply if_dec; rotate_left; (· (intro hbr; first | exact absurd (by assumption) hbr | exact absurd hbr (by assumption) | (exfalso; omega) | (exfalso; simp only [List.length_cons, List.length_nil] at hbr; omega))); intro hbr)
  | (with_reducible apply if_ndec; (· (intro hbr; first | exact absurd (by assumption) hbr | exact absurd hbr (by assumption) | (exfalso; omega) | (exfalso; simp only [List.length_cons, List.length_nil] at hbr; omega))); intro hbr)
  | (with_reducible apply if_ndec; rotate_left; (· (intro hbr; first | exact absurd (by assumption) hbr | exact absurd hbr (by assumption) | (exfalso; omega) | (exfalso; simp only [List.length_cons, List.length_nil] at hbr; omega))); intro hbr) | fail)
local macro_rules | `(tactic| walk_at "run") => `(tactic| repeat' (first | walk_at "st" | walk_at "br1" | with_reducible apply k_seqI | with_reducible apply k_if))
local macro_rules | `(tactic| walk_at "all") => `(tactic| repeat' (first | walk_at "st" | walk_at "br1" | walk_at "br" | with_reducible apply k_seqI | with_reducible apply k_if))
local macro_rules | `(tactic| walk_at "st") => `(tactic| first
  | ((with_reducible apply k_eqP); (· walk_at "ht"); (· walk_at "ht"))
  | ((with_reducible apply k_neP); (· walk_at "ht"); (· walk_at "ht")) | fail)
local macro_rules | `(tactic| walk_at "st") => `(tactic| first
  | ((with_reducible apply if_seq); (· rfl))
  | ((with_reducible apply if_nseq); (· rfl))
  | ((with_reducible apply if_sne); (· decide +kernel))
  | ((with_reducible apply if_nsne); (· decide +kernel)) | fail)

local macro_rules | `(tactic| walk_at "smx") => `(tactic| first | exact sm_ofB (by omega) | exact sm_bitsOf (by omega) | exact sm_mask (by omega) | (refine' sm_modp ?h1; (case h1 => walk_at "sm")) | (refine' sm_divp ?h1; (case h1 => walk_at "sm")) | (refine' sm_shl ?h1 ?h2; (case h1 => walk_at "sm"); (case h2 => omega)) | (refine' sm_or ?h1 ?h2; (case h1 => walk_at "sm"); (case h2 => walk_at "sm")) | (refine' sm_xor ?h1 ?h2; (case h1 => walk_at "sm"); (case h2 => walk_at "sm")) | (refine' sm_and ?h1; (case h1 => walk_at "sm")) | fail)
local macro_rules | `(tactic| walk_at "sdx") => `(tactic| first | (with_reducible exact pow_pos_c _) | ((with_reducible refine' cshl ?h1 ?h2 ?h3 ?h4); (case h1 => walk_at "sm"); (case h2 => omega); (case h3 => omega); (case h4 => decide +kernel)) | fail)
local macro_rules | `(tactic| walk_at "st") => `(tactic| first
  | (with_reducible apply k_andm)
  | (with_reducible apply k_andc)
  | (with_reducible apply k_orc)
  | (with_reducible apply k_xorm)
  | (with_reducible apply k_xorc)
  | ((with_reducible apply k_shl1); (· first | omega | exact modbd (by omega) (by omega)))
  | ((with_reducible apply k_shlc); (· exact cshl (by walk_at "sm") (by omega) (by omega) (by decide +kernel)))
  | ((with_reducible apply k_shrc); (· first | omega | exact Int.emod_nonneg _ (by omega))) | fail)
local macro_rules | `(tactic| walk_at "hr") => `(tactic| first | assumption | (refine' RT.mono ?h1 ?h2; (case h2 => assumption); (case h1 => walk_at "hr")) | fail)
local macro_rules | `(tactic| walk_at "lround") => `(tactic| (walk_at "go"))

local macro_rules | `(tactic| walk_at "st") => `(tactic| first
  | (with_reducible apply k_bm)
  | ((with_reducible apply k_bmA); (· walk_at "hl"))
  | ((with_reducible apply k_app); (· walk_at "hp"); (· first | assumption | decide | omega | (simp; omega)); intro H' hm hh)
  | (with_reducible apply k_sl)
  | (with_reducible apply k_part)
  | (with_reducible apply k_partV)
  | (with_reducible apply k_nopart)
  | ((with_reducible apply k_slV); (· walk_at "hl"); intro p H' hn hs ht)
  | ((with_reducible apply k_lofL); (· walk_at "hl"); intro p H' hn hs ht)
  | (with_reducible apply k_gsub)
  | ((with_reducible apply k_eqE); (· walk_at "hl"); (· walk_at "hl"))
  | ((with_reducible apply k_neE); (· walk_at "hl"); (· walk_at "hl")) | fail)

local macro_rules | `(tactic| walk_at "st") => `(tactic| first | (with_reducible apply k_callSx) | fail)

theorem k_nevX {K : PySem.W.Frag} {H : Hp} {Q : VK} {x y : V} {d e : PyData} {r : Bool} (hd : Dp K H x d) (he : Dp K H y e) (sd : SeqAt.shaped d = true) (se : SeqAt.shaped e = true) (hr : PyData.eqv d e = r) (q : Q (.bl (!r)) H) : rNeA K x y H Q :=
  .inr ⟨d, e, hd, he, sd, se, by rw [hr]; exact q⟩
theorem k_neW {K : PySem.W.Frag} {H : Hp} {Q : VK} {p q : Addr} {w : Str} {m : Int} (h1 : SqT K H p [.str w, .int m]) (h2 : SqT K H q [.str w, .int m]) (hw : PyData.strOk w = true) (r : Q (.bl false) H) : rNeA K (.ref p) (.ref q) H Q :=
  k_nevX (r := true) (.tup h1 (.cons (.str _) (.cons (.int _) .nil))) (.tup h2 (.cons (.str _) (.cons (.int _) .nil))) (by simp [SeqAt.shaped, PyData.canLay0, PyData.canLayAll0, PyData.depth, PyData.depthAll, hw])
    (by simp [SeqAt.shaped, PyData.canLay0, PyData.canLayAll0, PyData.depth, PyData.depthAll, hw]) (by simp [PyData.eqv, PyData.eqvAll]) r
theorem rt_two {K : PySem.W.Frag} {H : Hp} {p : Addr} {x y : Int} (t : H p = some (.tup [.int x, .int y])) (h1 : 1 ≤ x) (h2 : x ≤ 150000) (h3 : 0 ≤ y) (h4 : y < 2) : RT K H p x.toNat y.toNat := by
  refine ⟨?_, by omega, by omega, ?_⟩
  · have := SqT.of t (K := K)
    rw [show ((x.toNat : Nat) : Int) = x by omega, show ((y.toNat : Nat) : Int) = y by omega]
    exact this
  · have h1 : y.toNat < 2 ^ 1 := by omega
    exact Nat.lt_of_lt_of_le h1 (Nat.pow_le_pow_right (by decide) (by omega))
/-- what is due: none, a number refused, too long with what is needed -/
def due10 (y i : Int) (n n2 n3 : Nat) : Option (Option Int) :=
  if y = 3 then (if i = 0 then some none else none)
  else if 3 < y then (if 150000 < Nat.lcm n2 n3 then some (some ((Nat.lcm n2 n3 : Nat) : Int)) else none)
  else if i < 1 then some none
  else if (y = 1 ∧ i % (n : Int) ≠ 0) ∨ (y = 2 ∧ (n : Int) % i ≠ 0) then some none
  else if 150000 < i then some (some i) else none
theorem due3a {y i : Int} {n n2 n3 : Nat} (h : y = 3) (h0 : i = 0) : due10 y i n n2 n3 = some none := by unfold due10; rw [if_pos h, if_pos h0]
theorem due3b {y i : Int} {n n2 n3 : Nat} (h : y = 3) (h0 : ¬ i = 0) : due10 y i n n2 n3 = none := by unfold due10; rw [if_pos h, if_neg h0]
theorem due4a {y i : Int} {n n2 n3 : Nat} (h : 3 < y) (h0 : 150000 < Nat.lcm n2 n3) : due10 y i n n2 n3 = some (some ((Nat.lcm n2 n3 : Nat) : Int)) := by unfold due10; rw [if_neg (by omega), if_pos h, if_pos h0]
theorem due4b {y i : Int} {n n2 n3 : Nat} (h : 3 < y) (h0 : ¬ 150000 < Nat.lcm n2 n3) : due10 y i n n2 n3 = none := by unfold due10; rw [if_neg (by omega), if_pos h, if_neg h0]
theorem due0a {y i : Int} {n n2 n3 : Nat} (h : y < 3) (h0 : i < 1) : due10 y i n n2 n3 = some none := by unfold due10; rw [if_neg (by omega), if_neg (by omega), if_pos h0]
theorem due0b {y i : Int} {n n2 n3 : Nat} (h : y < 3) (h0 : ¬ i < 1) (h1 : (y = 1 ∧ i % (n : Int) ≠ 0) ∨ (y = 2 ∧ (n : Int) % i ≠ 0)) : due10 y i n n2 n3 = some none := by unfold due10; rw [if_neg (by omega), if_neg (by omega), if_neg h0, if_pos h1]
theorem due0c {y i : Int} {n n2 n3 : Nat} (h : y < 3) (h0 : ¬ i < 1) (h1 : ¬ ((y = 1 ∧ i % (n : Int) ≠ 0) ∨ (y = 2 ∧ (n : Int) % i ≠ 0))) (h2 : 150000 < i) : due10 y i n n2 n3 = some (some i) := by unfold due10; rw [if_neg (by omega), if_neg (by omega), if_neg h0, if_neg h1, if_pos h2]
theorem due0d {y i : Int} {n n2 n3 : Nat} (h : y < 3) (h0 : ¬ i < 1) (h1 : ¬ ((y = 1 ∧ i % (n : Int) ≠ 0) ∨ (y = 2 ∧ (n : Int) % i ≠ 0))) (h2 : ¬ 150000 < i) : due10 y i n n2 n3 = none := by unfold due10; rw [if_neg (by omega), if_neg (by omega), if_neg h0, if_neg h1, if_neg h2]
def told10 (d : Option (Option Int)) : V × Int := match d with
  | none => (.str "none", 0)
  | some none => (.str "number", 0)
  | some (some m) => (.str "long", m)

def topS (i : Nat) : Stmt := PySem.Challenge.pw_feastwheel_k10_rounds_refused.main.body.getD i (.Pass ⟨0, 0, 0, 0⟩)
abbrev s_sized : Stmt := topS 6
theorem sc_sized : FnScope ["size"] ["size"] (defScope s_sized) := ⟨rfl, rfl, rfl, by decide +kernel, rfl, by decide +kernel, by decide +kernel⟩
abbrev s_divisor : Stmt := topS 5
theorem sc_divisor : FnScope ["one", "other"] ["one", "other"] (defScope s_divisor) := ⟨rfl, rfl, rfl, by decide +kernel, rfl, by decide +kernel, by decide +kernel⟩
abbrev s_common : Stmt := topS 7
theorem sc_common : FnScope ["one", "other"] ["one", "other"] (defScope s_common) := ⟨rfl, rfl, rfl, by decide +kernel, rfl, by decide +kernel, by decide +kernel⟩
abbrev s_Ldue : Stmt := topS 30
theorem sc_Ldue : FnScope ["_law_way", "_law_turn", "_law_size", "_law_one", "_law_other", "_law_needed"] ["_law_way", "_law_turn", "_law_size", "_law_one", "_law_other"] (defScope s_Ldue) := ⟨rfl, rfl, rfl, by decide +kernel, rfl, by decide +kernel, by decide +kernel⟩
abbrev s_Lcell_at : Stmt := topS 27
theorem sc_Lcell_at : FnScope ["_law_script", "_law_k"] ["_law_script", "_law_k"] (defScope s_Lcell_at) := ⟨rfl, rfl, rfl, by decide +kernel, rfl, by decide +kernel, by decide +kernel⟩
abbrev s_TooLong_init : Stmt := inClass (topS 3) 0
theorem sc_TooLong_init : FnScope ["self", "needed"] ["self", "needed"] (defScope s_TooLong_init) := ⟨rfl, rfl, rfl, by decide +kernel, rfl, by decide +kernel, by decide +kernel⟩
abbrev s_allowed : Stmt := topS 10
theorem sc_allowed : FnScope ["size"] ["size"] (defScope s_allowed) := ⟨rfl, rfl, rfl, by decide +kernel, rfl, by decide +kernel, by decide +kernel⟩
abbrev s_common_size : Stmt := topS 14
theorem sc_common_size : FnScope ["one", "other", "size"] ["one", "other"] (defScope s_common_size) := ⟨rfl, rfl, rfl, by decide +kernel, rfl, by decide +kernel, by decide +kernel⟩
abbrev s_mask : Stmt := topS 11
theorem sc_mask : FnScope ["size"] ["size"] (defScope s_mask) := ⟨rfl, rfl, rfl, by decide +kernel, rfl, by decide +kernel, by decide +kernel⟩
abbrev s_stretched : Stmt := topS 13
theorem sc_stretched : FnScope ["turn", "size", "bits", "have", "more"] ["turn", "size"] (defScope s_stretched) := ⟨rfl, rfl, rfl, by decide +kernel, rfl, by decide +kernel, by decide +kernel⟩
abbrev s_without : Stmt := topS 18
theorem sc_without : FnScope ["one", "other", "size", "bits"] ["one", "other"] (defScope s_without) := ⟨rfl, rfl, rfl, by decide +kernel, rfl, by decide +kernel, by decide +kernel⟩
abbrev s_round_by : Stmt := topS 12
theorem sc_round_by : FnScope ["size", "days", "bits", "day"] ["size", "days"] (defScope s_round_by) := ⟨rfl, rfl, rfl, by decide +kernel, rfl, by decide +kernel, by decide +kernel⟩
abbrev s_folded : Stmt := topS 19
theorem sc_folded : FnScope ["turn", "size", "bits", "rest"] ["turn", "size"] (defScope s_folded) := ⟨rfl, rfl, rfl, by decide +kernel, rfl, by decide +kernel, by decide +kernel⟩
abbrev s_ones : Stmt := topS 22
theorem sc_ones : FnScope ["bits", "many", "part"] ["bits"] (defScope s_ones) := ⟨rfl, rfl, rfl, by decide +kernel, rfl, by decide +kernel, by decide +kernel⟩
abbrev s_place : Stmt := topS 24
theorem sc_place : FnScope ["bits", "size", "number", "low", "high", "middle"] ["bits", "size", "number"] (defScope s_place) := ⟨rfl, rfl, rfl, by decide +kernel, rfl, by decide +kernel, by decide +kernel⟩
abbrev s_rank : Stmt := topS 23
theorem sc_rank : FnScope ["turn", "day", "rounds", "rest"] ["turn", "day"] (defScope s_rank) := ⟨rfl, rfl, rfl, by decide +kernel, rfl, by decide +kernel, by decide +kernel⟩
abbrev s_nth_day : Stmt := topS 25
theorem sc_nth_day : FnScope ["turn", "day", "number", "wanted", "rounds", "rest"] ["turn", "day", "number"] (defScope s_nth_day) := ⟨rfl, rfl, rfl, by decide +kernel, rfl, by decide +kernel, by decide +kernel⟩
abbrev s_both : Stmt := topS 15
theorem sc_both : FnScope ["one", "other", "size"] ["one", "other"] (defScope s_both) := ⟨rfl, rfl, rfl, by decide +kernel, rfl, by decide +kernel, by decide +kernel⟩
abbrev s_either : Stmt := topS 16
theorem sc_either : FnScope ["one", "other", "size"] ["one", "other"] (defScope s_either) := ⟨rfl, rfl, rfl, by decide +kernel, rfl, by decide +kernel, by decide +kernel⟩
abbrev s_unlike : Stmt := topS 17
theorem sc_unlike : FnScope ["one", "other", "size"] ["one", "other"] (defScope s_unlike) := ⟨rfl, rfl, rfl, by decide +kernel, rfl, by decide +kernel, by decide +kernel⟩
abbrev s_Lasked : Stmt := topS 28
theorem sc_Lasked : FnScope ["_law_way", "_law_turn", "_law_size", "_law_one", "_law_other"] ["_law_way", "_law_turn", "_law_size", "_law_one", "_law_other"] (defScope s_Lasked) := ⟨rfl, rfl, rfl, by decide +kernel, rfl, by decide +kernel, by decide +kernel⟩
abbrev s_Ltold : Stmt := topS 29
theorem sc_Ltold : FnScope ["_law_way", "_law_turn", "_law_size", "_law_one", "_law_other", "_law_told_here", "_law_apart", "e"] ["_law_way", "_law_turn", "_law_size", "_law_one", "_law_other"] (defScope s_Ltold) := ⟨rfl, rfl, rfl, by decide +kernel, rfl, by decide +kernel, by decide +kernel⟩
abbrev s_Lrefused_by_any : Stmt := topS 31
theorem sc_Lrefused_by_any : FnScope ["_law_way", "_law_turn", "_law_size", "_law_one", "_law_other", "_law_refused", "e"] ["_law_way", "_law_turn", "_law_size", "_law_one", "_law_other"] (defScope s_Lrefused_by_any) := ⟨rfl, rfl, rfl, by decide +kernel, rfl, by decide +kernel, by decide +kernel⟩
abbrev s_law : Stmt := topS 32
theorem sc_law : FnScope ["_law_script", "_law_way", "_law_turn", "_law_size", "_law_one", "_law_other", "_law_due_here"] ["_law_script"] (defScope s_law) := ⟨rfl, rfl, rfl, by decide +kernel, rfl, by decide +kernel, by decide +kernel⟩
structure Txt (K : PySem.W.Frag) (mg : Str → Option Value) where
  a_sized : Addr
  fd_sized : FuncData
  F_sized : Fun K "sized" "sized" s_sized a_sized fd_sized
  g_sized : mg "sized" = some (.ref a_sized)
  b_sized : Binds K fd_sized ["size"] []
  a_divisor : Addr
  fd_divisor : FuncData
  F_divisor : Fun K "divisor" "divisor" s_divisor a_divisor fd_divisor
  g_divisor : mg "divisor" = some (.ref a_divisor)
  b_divisor : Binds K fd_divisor ["one", "other"] []
  a_common : Addr
  fd_common : FuncData
  F_common : Fun K "common" "common" s_common a_common fd_common
  g_common : mg "common" = some (.ref a_common)
  b_common : Binds K fd_common ["one", "other"] []
  a_Ldue : Addr
  fd_Ldue : FuncData
  F_Ldue : Fun K "_law_due" "_law_due" s_Ldue a_Ldue fd_Ldue
  g_Ldue : mg "_law_due" = some (.ref a_Ldue)
  b_Ldue : Binds K fd_Ldue ["_law_way", "_law_turn", "_law_size", "_law_one", "_law_other"] []
  a_Lcell_at : Addr
  fd_Lcell_at : FuncData
  F_Lcell_at : Fun K "_law_cell_at" "_law_cell_at" s_Lcell_at a_Lcell_at fd_Lcell_at
  g_Lcell_at : mg "_law_cell_at" = some (.ref a_Lcell_at)
  b_Lcell_at : Binds K fd_Lcell_at ["_law_script", "_law_k"] []
  a_TooLong_init : Addr
  fd_TooLong_init : FuncData
  F_TooLong_init : Fun K "__init__" "TooLong.__init__" s_TooLong_init a_TooLong_init fd_TooLong_init
  b_TooLong_init : Binds K fd_TooLong_init ["self", "needed"] []
  a_allowed : Addr
  fd_allowed : FuncData
  F_allowed : Fun K "allowed" "allowed" s_allowed a_allowed fd_allowed
  g_allowed : mg "allowed" = some (.ref a_allowed)
  b_allowed : Binds K fd_allowed ["size"] []
  a_common_size : Addr
  fd_common_size : FuncData
  F_common_size : Fun K "common_size" "common_size" s_common_size a_common_size fd_common_size
  g_common_size : mg "common_size" = some (.ref a_common_size)
  b_common_size : Binds K fd_common_size ["one", "other"] []
  a_mask : Addr
  fd_mask : FuncData
  F_mask : Fun K "mask" "mask" s_mask a_mask fd_mask
  g_mask : mg "mask" = some (.ref a_mask)
  b_mask : Binds K fd_mask ["size"] []
  a_stretched : Addr
  fd_stretched : FuncData
  F_stretched : Fun K "stretched" "stretched" s_stretched a_stretched fd_stretched
  g_stretched : mg "stretched" = some (.ref a_stretched)
  b_stretched : Binds K fd_stretched ["turn", "size"] []
  a_without : Addr
  fd_without : FuncData
  F_without : Fun K "without" "without" s_without a_without fd_without
  g_without : mg "without" = some (.ref a_without)
  b_without : Binds K fd_without ["one", "other"] []
  a_round_by : Addr
  fd_round_by : FuncData
  F_round_by : Fun K "round_by" "round_by" s_round_by a_round_by fd_round_by
  g_round_by : mg "round_by" = some (.ref a_round_by)
  b_round_by : Binds K fd_round_by ["size", "days"] []
  a_folded : Addr
  fd_folded : FuncData
  F_folded : Fun K "folded" "folded" s_folded a_folded fd_folded
  g_folded : mg "folded" = some (.ref a_folded)
  b_folded : Binds K fd_folded ["turn", "size"] []
  a_ones : Addr
  fd_ones : FuncData
  F_ones : Fun K "ones" "ones" s_ones a_ones fd_ones
  g_ones : mg "ones" = some (.ref a_ones)
  b_ones : Binds K fd_ones ["bits"] []
  a_place : Addr
  fd_place : FuncData
  F_place : Fun K "place" "place" s_place a_place fd_place
  g_place : mg "place" = some (.ref a_place)
  b_place : Binds K fd_place ["bits", "size", "number"] []
  a_rank : Addr
  fd_rank : FuncData
  F_rank : Fun K "rank" "rank" s_rank a_rank fd_rank
  g_rank : mg "rank" = some (.ref a_rank)
  b_rank : Binds K fd_rank ["turn", "day"] []
  a_nth_day : Addr
  fd_nth_day : FuncData
  F_nth_day : Fun K "nth_day" "nth_day" s_nth_day a_nth_day fd_nth_day
  g_nth_day : mg "nth_day" = some (.ref a_nth_day)
  b_nth_day : Binds K fd_nth_day ["turn", "day", "number"] []
  a_both : Addr
  fd_both : FuncData
  F_both : Fun K "both" "both" s_both a_both fd_both
  g_both : mg "both" = some (.ref a_both)
  b_both : Binds K fd_both ["one", "other"] []
  a_either : Addr
  fd_either : FuncData
  F_either : Fun K "either" "either" s_either a_either fd_either
  g_either : mg "either" = some (.ref a_either)
  b_either : Binds K fd_either ["one", "other"] []
  a_unlike : Addr
  fd_unlike : FuncData
  F_unlike : Fun K "unlike" "unlike" s_unlike a_unlike fd_unlike
  g_unlike : mg "unlike" = some (.ref a_unlike)
  b_unlike : Binds K fd_unlike ["one", "other"] []
  a_Lasked : Addr
  fd_Lasked : FuncData
  F_Lasked : Fun K "_law_asked" "_law_asked" s_Lasked a_Lasked fd_Lasked
  g_Lasked : mg "_law_asked" = some (.ref a_Lasked)
  b_Lasked : Binds K fd_Lasked ["_law_way", "_law_turn", "_law_size", "_law_one", "_law_other"] []
  a_Ltold : Addr
  fd_Ltold : FuncData
  F_Ltold : Fun K "_law_told" "_law_told" s_Ltold a_Ltold fd_Ltold
  g_Ltold : mg "_law_told" = some (.ref a_Ltold)
  b_Ltold : Binds K fd_Ltold ["_law_way", "_law_turn", "_law_size", "_law_one", "_law_other"] []
  a_Lrefused_by_any : Addr
  fd_Lrefused_by_any : FuncData
  F_Lrefused_by_any : Fun K "_law_refused_by_any" "_law_refused_by_any" s_Lrefused_by_any a_Lrefused_by_any fd_Lrefused_by_any
  g_Lrefused_by_any : mg "_law_refused_by_any" = some (.ref a_Lrefused_by_any)
  b_Lrefused_by_any : Binds K fd_Lrefused_by_any ["_law_way", "_law_turn", "_law_size", "_law_one", "_law_other"] []
  a_law : Addr
  fd_law : FuncData
  F_law : Fun K "law" "law" s_law a_law fd_law
  g_law : mg "law" = some (.ref a_law)
  b_law : Binds K fd_law ["_law_script"] []
  t_LIMIT : Tok
  c_LIMIT : mg "LIMIT" = some (.int 150000 t_LIMIT)
  t_CHUNK : Tok
  c_CHUNK : mg "CHUNK" = some (.int 60 t_CHUNK)
  n_ValueError : mg "ValueError" = none
  n_abs : mg "abs" = none
  n_divmod : mg "divmod" = none
  n_isinstance : mg "isinstance" = none
  n_len : mg "len" = none
  n_min : mg "min" = none
  C_FeastError : Addr
  gc_FeastError : mg "FeastError" = some (.ref C_FeastError)
  kc_FeastError : PySem.W.keepIn K (.ref C_FeastError) = true
  bc_FeastError : PySem.W.subIn K (.ref C_FeastError) (.type "BaseException") = some true
  tc_FeastError : PySem.W.typeIn K (.ref C_FeastError) = some (.type "type")
  ic_FeastError : PySem.W.isClsIn K C_FeastError = true
  sc_FeastError : PySem.W.subIn K (.ref C_FeastError) (.ref C_FeastError) = some true
  C_NoNumber : Addr
  gc_NoNumber : mg "NoNumber" = some (.ref C_NoNumber)
  x_NoNumber : PySem.W.excIn K C_NoNumber [.type "ValueError", .type "Exception", .type "BaseException", .type "object"] "ValueError.__new__" = true
  kc_NoNumber : PySem.W.keepIn K (.ref C_NoNumber) = true
  bc_NoNumber : PySem.W.subIn K (.ref C_NoNumber) (.type "BaseException") = some true
  tc_NoNumber : PySem.W.typeIn K (.ref C_NoNumber) = some (.type "type")
  ic_NoNumber : PySem.W.isClsIn K C_NoNumber = true
  sc_NoNumber : PySem.W.subIn K (.ref C_NoNumber) (.ref C_NoNumber) = some true
  C_TooLong : Addr
  gc_TooLong : mg "TooLong" = some (.ref C_TooLong)
  kc_TooLong : PySem.W.keepIn K (.ref C_TooLong) = true
  bc_TooLong : PySem.W.subIn K (.ref C_TooLong) (.type "BaseException") = some true
  tc_TooLong : PySem.W.typeIn K (.ref C_TooLong) = some (.type "type")
  ic_TooLong : PySem.W.isClsIn K C_TooLong = true
  sc_TooLong : PySem.W.subIn K (.ref C_TooLong) (.ref C_TooLong) = some true
  sb_NoNumber_FeastError : PySem.W.subIn K (.ref C_NoNumber) (.ref C_FeastError) = some true
  sb_NoNumber_TooLong : PySem.W.subIn K (.ref C_NoNumber) (.ref C_TooLong) = some false
  sb_TooLong_FeastError : PySem.W.subIn K (.ref C_TooLong) (.ref C_FeastError) = some true
  sb_TooLong_NoNumber : PySem.W.subIn K (.ref C_TooLong) (.ref C_NoNumber) = some false
  xc_NoNumber : ExcC K C_NoNumber
  sv_NoNumber : PySem.W.subIn K (.ref C_NoNumber) (.type "ValueError") = some true
  xc_TooLong : ExcC K C_TooLong
  sv_TooLong : PySem.W.subIn K (.ref C_TooLong) (.type "ValueError") = some true
  in_TooLong_init : PySem.W.findIn K (.ref C_TooLong) "__init__" = some (some (.ref a_TooLong_init))
  ti_TooLong_init : PySem.W.typeIn K (.ref a_TooLong_init) = some (.type "function")
  xf_TooLong : XfC K C_TooLong
  no_TooLong_needed : PySem.W.findIn K (.ref C_TooLong) "needed" = some none
  ox_TooLong : OexC K C_TooLong
  cr_FeastError : ClX.CRead K C_FeastError (.type "type")
  vi_FeastError : PySem.W.findCls K (.ref C_FeastError) (.type "type") "__init__" = some (.val (.builtin "ValueError.__init__"))
section
variable {P : Program} {w : World} {K : PySem.W.Frag} {mg : Str → Option Value} {base : Heap}
/-! ### sized -/
def sp_sized (K : PySem.W.Frag) : Sp := fun vs H Q _ => ∃ i, vs = [.int i] ∧ 1 ≤ i ∧ Q .non H
theorem ok_sized (T : Txt K mg) : FnOk P w K mg base CX0 1 T.a_sized T.fd_sized ["size"] (sp_sized K) := by
  refine T.F_sized.ok sc_sized (fun vs H Q E h => ?_) (fun cdv A outer s H vs Q E hr h => ?_)
  · obtain ⟨i, rfl, _⟩ := h; rfl
  · obtain ⟨i, rfl, h1, q⟩ := h
    refine ⟨_, (pss_one (ps_if (pt_cmpR op_lt (pv 0) pe_int (nomark _)) (pss_one ps_never) pss_nil)), ?_⟩
    walk_at "if"; walk_at "go"; exact q
theorem k_sized {H : Hp} {Q : VK} {E : XK} {i : Int} (h1 : 1 ≤ i) (q : Q .non H) : sp_sized K [.int i] H Q E := ⟨i, rfl, h1, q⟩
local macro_rules | `(tactic| walk_at "st") => `(tactic| first | ((with_reducible apply k_sized); (· omega)) | fail)

/-! ### divisor -/
def sp_divisor (K : PySem.W.Frag) : Sp := fun vs H Q _ => ∃ i j : Int, vs = [.int i, .int j] ∧ Q (.int (Int.gcd i j : Nat)) H
theorem ok_divisor (T : Txt K mg) : FnOk P w K mg base CX0 1 T.a_divisor T.fd_divisor ["one", "other"] (sp_divisor K) := by
  refine T.F_divisor.ok sc_divisor (fun vs H Q E h => ?_) (fun cdv A outer s H vs Q E hr h => ?_)
  · obtain ⟨_, _, rfl, _⟩ := h; rfl
  · obtain ⟨i, j, rfl, q⟩ := h
    have hu := hr.units
    refine ⟨_, (pss_cons (ps_set (i := 0) sc_divisor.nd rfl (Or.inl rfl) (pe_callB cb_abs (by rfl) T.n_abs (by decide +kernel) (pa_cons (pv 0) pa_nil)))
        (pss_cons (ps_set (i := 1) sc_divisor.nd rfl (Or.inl rfl) (pe_callB cb_abs (by rfl) T.n_abs (by decide +kernel) (pa_cons (pv 1) pa_nil)))
        (pss_cons (ps_while PassesOwn.never (pt_cmpR (kb_ne K (hu := hu)) (pv 1) pe_int (nomark _)) (pss_one (ps_par rfl sc_divisor.nd (i := 0) (j := 1) rfl rfl (by decide) rfl rfl (pa_cons (pv 1) (pa_cons (pe_op op_mod (pv 0) (pv 1)) pa_nil)) (by rfl))))
        (pss_one (ps_ret (pv 0)))))), ?_⟩
    walk_at "go"
    apply k_seqW
    refine k_while (fun m σ' H' => ∃ x y : Int, σ' = [some (.int x), some (.int y)] ∧ H = H' ∧ 0 ≤ x ∧ 0 ≤ y ∧ m = y.toNat ∧ Int.gcd x y = Int.gcd i j) _ ⟨_, _, rfl, rfl, abs_nn _, abs_nn _, rfl, gcd_abs i j⟩ ?_
    rintro m _ _ ⟨x, y, rfl, rfl, hx, hy, rfl, hg⟩
    walk_at "go"
    refine if_ndec (fun hbr => ?_) (fun hbr => ?_)
    · apply k_turn
      walk_at "go"
      have h1 := Int.emod_nonneg x hbr
      have h2 := Int.emod_lt_of_pos x (show 0 < y by omega)
      exact ⟨_, by omega, _, _, rfl, rfl, hy, h1, rfl, by rw [gcd_mod]; exact hg⟩
    · walk_at "go"
      rw [← hg, hbr, gcd_zero x hx] at q
      exact q
theorem k_divisor {H : Hp} {Q : VK} {E : XK} {i j : Int} (q : Q (.int (Int.gcd i j : Nat)) H) : sp_divisor K [.int i, .int j] H Q E := ⟨i, j, rfl, q⟩
local macro_rules | `(tactic| walk_at "st") => `(tactic| first | (with_reducible apply k_divisor) | fail)

/-! ### common -/
def sp_common (K : PySem.W.Frag) : Sp := fun vs H Q _ => ∃ i j : Int, vs = [.int i, .int j] ∧ 1 ≤ i ∧ 1 ≤ j ∧ Sm 300 i ∧ Sm 300 j ∧ Q (.int (lcmI i j)) H
theorem ok_common (T : Txt K mg) : FnOk P w K mg base CX0 2 T.a_common T.fd_common ["one", "other"] (sp_common K) := by
  refine T.F_common.ok sc_common (fun vs H Q E h => ?_) (fun cdv A outer s H vs Q E hr h => ?_)
  · obtain ⟨_, _, rfl, _⟩ := h; rfl
  · obtain ⟨i, j, rfl, h1, h2, s1, s2, q⟩ := h
    have g1 := gcd_pos (b := j) h1
    have g2 := gcd_le (b := j) h1
    have sg : Sm 300 ((Int.gcd i j : Nat) : Int) := ⟨Nat.lt_of_le_of_lt (by omega) s1.h⟩
    have sq : Sm 300 (i / ((Int.gcd i j : Nat) : Int)) := ⟨Nat.lt_of_le_of_lt (by
      have := Int.ediv_le_self ((Int.gcd i j : Nat) : Int) (show 0 ≤ i by omega)
      have := Int.ediv_nonneg (show 0 ≤ i by omega) (show (0 : Int) ≤ ((Int.gcd i j : Nat) : Int) by omega)
      omega) s1.h⟩
    refine ⟨_, (pss_cons (ps_expr (pe_call (ok_sized T) (hr.mono (by decide)) (by rfl) T.g_sized T.F_sized.kp T.b_sized .nil pass0 (pa_cons (pv 0) pa_nil)))
        (pss_cons (ps_expr (pe_call (ok_sized T) (hr.mono (by decide)) (by rfl) T.g_sized T.F_sized.kp T.b_sized .nil pass0 (pa_cons (pv 1) pa_nil)))
        (pss_one (ps_ret (pe_op op_mulX (pe_op op_fdivW (pv 0) (pe_call (ok_divisor T) (hr.mono (by decide)) (by rfl) T.g_divisor T.F_divisor.kp T.b_divisor .nil pass0 (pa_cons (pv 0) (pa_cons (pv 1) pa_nil)))) (pv 1)))))), ?_⟩
    walk_at "go"
    refine k_I (sm_div (by omega) sg (by decide) (by decide)) ?_
    walk_at "go"
    exact q
theorem k_common {H : Hp} {Q : VK} {E : XK} {i j : Int} (h1 : 1 ≤ i) (h2 : 1 ≤ j) (s1 : Sm 300 i) (s2 : Sm 300 j) (q : Q (.int (lcmI i j)) H) : sp_common K [.int i, .int j] H Q E := ⟨i, j, rfl, h1, h2, s1, s2, q⟩
theorem sm300 {i : Int} (h : Sm 200 i) : Sm 300 i := sm_mono h (by decide)
local macro_rules | `(tactic| walk_at "st") => `(tactic| first | ((with_reducible apply k_common); (· omega); (· omega); (· first | assumption | exact sm300 (sm41 (by omega) (by omega))); (· first | assumption | exact sm300 (sm41 (by omega) (by omega)))) | fail)

/-! ### _law_due -/
def sp_Ldue (K : PySem.W.Frag) : Sp := fun vs H Q _ => ∃ (y i : Int) (a a2 a3 : Addr) (n b n2 b2 n3 b3 : Nat), vs = [.int y, .ref a, .int i, .ref a2, .ref a3] ∧ 0 ≤ y ∧ RT K H a n b ∧ RT K H a2 n2 b2 ∧ RT K H a3 n3 b3 ∧ Sm 1000 i ∧
  ∀ p H', Same H H' → SqT K H' p [(told10 (due10 y i n n2 n3)).1, .int (told10 (due10 y i n n2 n3)).2] → Q (.ref p) H'
theorem ok_Ldue (T : Txt K mg) : FnOk P w K mg base CX0 3 T.a_Ldue T.fd_Ldue ["_law_way", "_law_turn", "_law_size", "_law_one", "_law_other"] (sp_Ldue K) := by
  refine T.F_Ldue.ok sc_Ldue (fun vs H Q E h => ?_) (fun cdv A outer s H vs Q E hr h => ?_)
  · obtain ⟨_, _, _, _, _, _, _, _, _, _, _, rfl, _⟩ := h; rfl
  · obtain ⟨y, i, a, a2, a3, n, b, n2, b2, n3, b3, rfl, hy0, r, r2, r3, si, q⟩ := h
    have hu := hr.units
    have ht := r.t
    have ht2 := r2.t
    have ht3 := r3.t
    have hn := r.n1
    have hm := r2.n1
    have hm3 := r3.n1
    have hm2 := r2.n2
    have hm32 := r3.n2
    have hL1 := lcm1 hm hm3
    have e := lcm_c (n := n2) (m := n3) hm
    refine ⟨_, (pss_cons (ps_if (pt_cmpR (kb_eq K (hu := hu)) (pv 0) pe_int (nomark _)) (pss_one (ps_ret (pe_ifExp (pt_cmpR (kb_eq K (hu := hu)) (pv 2) pe_int (nomark _)) (pe_tup (pa_cons pe_str (pa_cons pe_int pa_nil))) (pe_tup (pa_cons pe_str (pa_cons pe_int pa_nil)))))) pss_nil)
        (pss_cons (ps_if (pt_cmpR op_gt (pv 0) pe_int (nomark _)) (pss_cons (ps_set (i := 5) sc_Ldue.nd rfl (Or.inl rfl) (pe_call (ok_common T) (hr.mono (by decide)) (by rfl) T.g_common T.F_common.kp T.b_common .nil pass0 (pa_cons (pe_ix (kb_ix K) (pv 3) pe_int (fun _ _ => rfl)) (pa_cons (pe_ix (kb_ix K) (pv 4) pe_int (fun _ _ => rfl)) pa_nil))))
        (pss_one (ps_ret (pe_ifExp (pt_cmpR op_gt (pv 5) pe_int (nomark _)) (pe_tup (pa_cons pe_str (pa_cons (pv 5) pa_nil))) (pe_tup (pa_cons pe_str (pa_cons pe_int pa_nil))))))) pss_nil)
        (pss_cons (ps_if (pt_cmpR op_lt (pv 2) pe_int (nomark _)) (pss_one (ps_ret (pe_tup (pa_cons pe_str (pa_cons pe_int pa_nil))))) pss_nil)
        (pss_cons (ps_if (PW.pt (pw_or (PW.pt (pw_and (pt_cmpR (kb_eq K (hu := hu)) (pv 0) pe_int (nomark _)) (pw_and1 (pt_cmpR (kb_ne K (hu := hu)) (pe_op op_mod (pv 2) (pe_ix (kb_ix K) (pv 1) pe_int (fun _ _ => rfl))) pe_int (nomark _))))) (pw_or1 (PW.pt (pw_and (pt_cmpR (kb_eq K (hu := hu)) (pv 0) pe_int (nomark _)) (pw_and1 (pt_cmpR (kb_ne K (hu := hu)) (pe_op op_mod (pe_ix (kb_ix K) (pv 1) pe_int (fun _ _ => rfl)) (pv 2)) pe_int (nomark _)))))))) (pss_one (ps_ret (pe_tup (pa_cons pe_str (pa_cons pe_int pa_nil))))) pss_nil)
        (pss_one (ps_ret (pe_ifExp (pt_cmpR op_gt (pv 2) pe_int (nomark _)) (pe_tup (pa_cons pe_str (pa_cons (pv 2) pa_nil))) (pe_tup (pa_cons pe_str (pa_cons pe_int pa_nil)))))))))), ?_⟩
    with_reducible apply k_seqI
    walk_at "go"
    refine if_dec (fun hy => ?_) (fun hy => ?_)
    · walk_at "go"
      refine if_dec (fun h0 => ?_) (fun h0 => ?_)
      · walk_at "go"
        rename_i p1 H2 hn2 s2 t2
        exact q p1 H2 s2 (by rw [due3a hy h0]; exact SqT.of t2)
      · walk_at "go"
        rename_i p1 H2 hn2 s2 t2
        exact q p1 H2 s2 (by rw [due3b hy h0]; exact SqT.of t2)
    walk_at "go"
    with_reducible apply k_seqI
    walk_at "go"
    refine if_dec (fun hy => ?_) (fun hy => ?_)
    · walk_at "go"
      rw [e]
      refine if_dec (fun h0 => ?_) (fun h0 => ?_)
      · walk_at "go"
        rename_i p1 H2 hn2 s2 t2
        exact q p1 H2 s2 (by rw [due4a hy (by omega)]; exact SqT.of t2)
      · walk_at "go"
        rename_i p1 H2 hn2 s2 t2
        exact q p1 H2 s2 (by rw [due4b hy (by omega)]; exact SqT.of t2)
    walk_at "go"
    with_reducible apply k_seqI
    walk_at "go"
    refine if_dec (fun h0 => ?_) (fun h0 => ?_)
    · walk_at "go"
      rename_i p1 H2 hn2 s2 t2
      exact q p1 H2 s2 (by rw [due0a (by omega) h0]; exact SqT.of t2)
    walk_at "go"
    with_reducible apply k_seqI
    refine or_split ((y = 1 ∧ i % (n : Int) ≠ 0) ∨ (y = 2 ∧ (n : Int) % i ≠ 0)) (fun h1 => ?_) (fun h1 => ?_) (fun R' k1 k2 => ?_)
    · walk_at "run"
      rename_i p1 H2 hn2 s2 t2
      exact q p1 H2 s2 (by rw [due0b (by omega) h0 h1]; exact SqT.of t2)
    · walk_at "go"
      refine if_dec (fun h2 => ?_) (fun h2 => ?_)
      · walk_at "go"
        rename_i p1 H2 hn2 s2 t2
        exact q p1 H2 s2 (by rw [due0c (by omega) h0 h1 h2]; exact SqT.of t2)
      · walk_at "go"
        rename_i p1 H2 hn2 s2 t2
        exact q p1 H2 s2 (by rw [due0d (by omega) h0 h1 h2]; exact SqT.of t2)
    · walk_at "all"
      all_goals first | exact k1 (by omega) | exact k2 (by omega) | (by_cases g : (n : Int) % i = 0; (· rw [decide_eq_true g]; exact k2 (by omega)); (· rw [decide_eq_false g]; exact k1 (by omega)))
theorem k_Ldue {K : PySem.W.Frag} {H : Hp} {Q : VK} {E : XK} {y i : Int} {a a2 a3 : Addr} {n b n2 b2 n3 b3 : Nat} (hy0 : 0 ≤ y) (r : RT K H a n b) (r2 : RT K H a2 n2 b2) (r3 : RT K H a3 n3 b3) (si : Sm 1000 i)
    (q : ∀ p H', Same H H' → SqT K H' p [(told10 (due10 y i n n2 n3)).1, .int (told10 (due10 y i n n2 n3)).2] → Q (.ref p) H') : sp_Ldue K [.int y, .ref a, .int i, .ref a2, .ref a3] H Q E := ⟨y, i, a, a2, a3, n, b, n2, b2, n3, b3, rfl, hy0, r, r2, r3, si, q⟩

/-! ### _law_cell_at -/
/-- a cell of the script; nought behind its end -/
def sp_Lcell_at (K : PySem.W.Frag) : Sp := fun vs H Q _ => ∃ (a : Addr) (ns : List Int) (k : Int), vs = [.ref a, .int k] ∧ SqL K H a (ns.map V.int) ∧ 0 ≤ k ∧ Q (.int (ns.getD k.toNat 0)) H
theorem ok_Lcell_at (T : Txt K mg) : FnOk P w K mg base CX0 1 T.a_Lcell_at T.fd_Lcell_at ["_law_script", "_law_k"] (sp_Lcell_at K) := by
  refine T.F_Lcell_at.ok sc_Lcell_at (fun vs H Q E h => ?_) (fun cdv A outer s H vs Q E hr h => ?_)
  · obtain ⟨_, _, _, rfl, _⟩ := h; rfl
  · obtain ⟨a, ns, k, rfl, hS, h0, q⟩ := h
    refine ⟨_, (pss_cons (ps_if (pt_cmpR op_lt (pv 1) (pe_callB (kb_len K) (by rfl) T.n_len (by decide +kernel) (pa_cons (pv 0) pa_nil)) (nomark _)) (pss_one (ps_ret (pe_ix (kb_ix K) (pv 0) (pv 1) (fun _ _ => rfl)))) pss_nil)
        (pss_one (ps_ret pe_int))), ?_⟩
    apply k_seqI; walk_at "go"
    refine if_dec (fun hk => ?_) (fun hk => ?_)
    · walk_at "go"
      rw [List.length_map] at hk
      have e : ((ns.map V.int)[k.toNat]?) = some (V.int (ns.getD k.toNat 0)) := by
        rw [List.getElem?_map, List.getElem?_eq_getElem (show k.toNat < ns.length by omega), List.getD_eq_getElem?_getD, List.getElem?_eq_getElem (show k.toNat < ns.length by omega)]
        rfl
      exact k_ixL hS (at_of (show k = ((k.toNat : Nat) : Int) by omega) e) q
    · walk_at "go"
      rw [List.length_map] at hk
      have e : ns.getD k.toNat 0 = 0 := by
        rw [List.getD_eq_getElem?_getD, List.getElem?_eq_none (by omega)]; rfl
      rw [e] at q
      exact q
theorem sm_getD {ns : List Int} {n : Nat} (hb : ∀ z ∈ ns, Builtin.Int.intBits z ≤ n) (k : Nat) : Sm n (ns.getD k 0) := by
  rw [List.getD_eq_getElem?_getD]
  by_cases h : k < ns.length
  · rw [List.getElem?_eq_getElem h]; exact sm_bits (hb _ (List.getElem_mem h))
  · rw [List.getElem?_eq_none (by omega)]; exact ⟨Nat.pow_pos (by decide)⟩
theorem k_cell {H : Hp} {Q : VK} {E : XK} {a : Addr} {ns : List Int} {k : Int} (hb : ∀ z ∈ ns, Builtin.Int.intBits z ≤ 1048576) (hS : SqL K H a (ns.map V.int)) (h0 : 0 ≤ k)
    (q : ∀ c, c = ns.getD k.toNat 0 → Sm 1048576 c → Q (.int c) H) : sp_Lcell_at K [.ref a, .int k] H Q E := ⟨a, ns, k, rfl, hS, h0, q _ rfl (sm_getD hb _)⟩
local macro_rules | `(tactic| walk_at "st") => `(tactic| first | ((with_reducible apply k_cell); (· assumption); (· walk_at "hp"); (· first | decide | omega); intro c hc hm) | fail)

/-! ### TooLong.__init__ -/
abbrev sp_TooLong_init (K : PySem.W.Frag) (T : Txt K mg) : Sp := spTL T.C_TooLong
theorem ok_TooLong_init (T : Txt K mg) : FnOk P w K mg base CX0 1 T.a_TooLong_init T.fd_TooLong_init ["self", "needed"] (sp_TooLong_init K T) := by
  refine T.F_TooLong_init.ok sc_TooLong_init (fun vs H Q E h => ?_) (fun cdv A outer s H vs Q E hr h => ?_)
  · obtain ⟨_, _, rfl, _⟩ := h; rfl
  · obtain ⟨a, m, rfl, ha, q⟩ := h
    refine ⟨_, (pss_cons (ps_expr (pe_xinit rfl T.gc_FeastError T.cr_FeastError T.vi_FeastError (pa_cons (pv 0) (pa_cons pe_str pa_nil))))
        (pss_one (ps_ost (pv 0) (pv 1)))), ?_⟩
    walk_at "go"
    refine k_veI ?_
    walk_at "go"
    refine ⟨a, _, _, rfl, by show 1 ≤ 1000; decide, T.ox_TooLong, ha, ?_⟩
    walk_at "go"
    with_reducible apply k_ost
    walk_at "go"
    exact ⟨a, _, rfl, T.ox_TooLong, T.no_TooLong_needed, .inl ⟨ha, q⟩⟩

/-! ### allowed -/
def sp_allowed (K : PySem.W.Frag) (T : Txt K mg) : Sp := fun vs H Q E => ∃ i : Int, vs = [.int i] ∧ (i < 1 → E (.ref T.C_NoNumber) none H) ∧ (150000 < i → TL T.C_TooLong E H i) ∧ (1 ≤ i → i ≤ 150000 → Q .non H)
theorem ok_allowed (T : Txt K mg) : FnOk P w K mg base (L2.CX P w) 3 T.a_allowed T.fd_allowed ["size"] (sp_allowed K T) := by
  refine T.F_allowed.okX sc_allowed (fun vs H Q E h => ?_) (fun cdv A outer s H vs Q E hr h => ?_)
  · obtain ⟨_, rfl, _⟩ := h; rfl
  · obtain ⟨i, rfl, q0, q1, q⟩ := h
    refine ⟨_, (pss_cons (ps_if (pt_cmpR op_lt (pv 0) pe_int (nomark _)) (pss_one (ps_raise rfl (takes_of rfl rfl rfl rfl) (pmk_own PySem.F.excBase_ValueError T.x_NoNumber T.gc_NoNumber T.kc_NoNumber (raises_own T.bc_NoNumber T.tc_NoNumber) rfl))) pss_nil)
        (pss_one (ps_if (pt_cmpR op_gt (pv 0) (pe_glob (v := (.int 150000)) rfl T.c_LIMIT ⟨_, rfl⟩) (nomark _)) (pss_one (ps_raise rfl (takes_of rfl rfl rfl rfl) (pmk_oex T.ox_TooLong T.in_TooLong_init T.ti_TooLong_init (ok_TooLong_init T) (hr.mono (by decide)) T.b_TooLong_init .nil pass0 rfl T.gc_TooLong (pa_cons (pv 0) pa_nil)))) pss_nil))), ?_⟩
    with_reducible apply k_seqI
    walk_at "go"
    refine if_dec (fun hi => q0 hi) (fun hi => ?_)
    walk_at "go"
    with_reducible apply k_ifSx
    walk_at "go"
    refine if_dec (fun hi2 => ?_) (fun hi2 => ?_)
    · refine k_mkO ?_
      walk_at "go"
      exact k_mkTL (q1 hi2)
    walk_at "go"
    exact q (by omega) (by omega)
theorem k_allowed_x {T : Txt K mg} {H : Hp} {Q : VK} {E : XK} {i : Int} (q0 : i < 1 → E (.ref T.C_NoNumber) none H) (q1 : 150000 < i → TL T.C_TooLong E H i) (q : 1 ≤ i → i ≤ 150000 → Q .non H) : sp_allowed K T [.int i] H Q E := ⟨i, rfl, q0, q1, q⟩
theorem k_allowed {T : Txt K mg} {H : Hp} {Q : VK} {E : XK} {i : Int} (h1 : 1 ≤ i) (h2 : i ≤ 150000) (q : Q .non H) : sp_allowed K T [.int i] H Q E := ⟨i, rfl, fun h => absurd h (by omega), fun h => absurd h (by omega), fun _ _ => q⟩
local macro_rules | `(tactic| walk_at "st") => `(tactic| first | ((with_reducible apply k_allowed); (· omega); (· omega)) | fail)

/-! ### common_size -/
def sp_common_size (K : PySem.W.Frag) (T : Txt K mg) : Sp := fun vs H Q E => ∃ (a a2 : Addr) (n b m c : Nat), vs = [.ref a, .ref a2] ∧ RT K H a n b ∧ RT K H a2 m c ∧ (150000 < Nat.lcm n m → TL T.C_TooLong E H (Nat.lcm n m : Nat)) ∧ (Nat.lcm n m ≤ 150000 → Q (.int (Nat.lcm n m : Nat)) H)
theorem ok_common_size (T : Txt K mg) : FnOk P w K mg base (L2.CX P w) 4 T.a_common_size T.fd_common_size ["one", "other"] (sp_common_size K T) := by
  refine T.F_common_size.okX sc_common_size (fun vs H Q E h => ?_) (fun cdv A outer s H vs Q E hr h => ?_)
  · obtain ⟨_, _, _, _, _, _, rfl, _⟩ := h; rfl
  · obtain ⟨a, a2, n, b, m, c, rfl, r, r2, q1, q⟩ := h
    have hu := hr.units
    have ht := r.t
    have ht2 := r2.t
    have hn := r.n1
    have hm := r2.n1
    have hn2 := r.n2
    have hm2 := r2.n2
    have hL1 := lcm1 hn hm
    have e := lcm_c (n := n) (m := m) hn
    refine ⟨_, (pss_cons (ps_set (i := 2) sc_common_size.nd rfl (Or.inl rfl) (pe_call (ok_common T) (hr.mono (by decide)) (by rfl) T.g_common T.F_common.kp T.b_common .nil pass0 (pa_cons (pe_ix (kb_ix K) (pv 0) pe_int (fun _ _ => rfl)) (pa_cons (pe_ix (kb_ix K) (pv 1) pe_int (fun _ _ => rfl)) pa_nil))))
        (pss_cons (ps_expr (pe_callS (ok_allowed T) (hr.mono (by decide)) (by rfl) T.g_allowed T.F_allowed.kp T.b_allowed (fun σ => passAt (takes_of rfl rfl rfl rfl) σ) (pa_cons (pv 2) pa_nil)))
        (PSs.nox (pss_one (ps_ret (pv 2)))))), ?_⟩
    walk_at "go"
    rw [e]
    refine k_allowed_x (fun h => by omega) (fun h => q1 (by omega)) (fun _ h => ?_)
    walk_at "go"
    exact q (by omega)
theorem k_common_size_x {T : Txt K mg} {H : Hp} {Q : VK} {E : XK} {a a2 : Addr} {n b m c : Nat} (r : RT K H a n b) (r2 : RT K H a2 m c) (q1 : 150000 < Nat.lcm n m → TL T.C_TooLong E H (Nat.lcm n m : Nat)) (q : Nat.lcm n m ≤ 150000 → Q (.int (Nat.lcm n m : Nat)) H) : sp_common_size K T [.ref a, .ref a2] H Q E := ⟨a, a2, n, b, m, c, rfl, r, r2, q1, q⟩
theorem k_common_size {T : Txt K mg} {H : Hp} {Q : VK} {E : XK} {a a2 : Addr} {n b m c : Nat} (r : RT K H a n b) (r2 : RT K H a2 m c) (hL : Nat.lcm n m ≤ 150000) (q : Q (.int (Nat.lcm n m : Nat)) H) : sp_common_size K T [.ref a, .ref a2] H Q E := ⟨a, a2, n, b, m, c, rfl, r, r2, fun h => absurd h (by omega), fun _ => q⟩

/-! ### mask -/
def sp_mask (K : PySem.W.Frag) : Sp := fun vs H Q _ => ∃ k : Int, vs = [.int k] ∧ 0 ≤ k ∧ k ≤ 10000000 ∧ Q (.int (2 ^ k.toNat - 1)) H
theorem ok_mask (T : Txt K mg) : FnOk P w K mg base CX0 1 T.a_mask T.fd_mask ["size"] (sp_mask K) := by
  refine T.F_mask.ok sc_mask (fun vs H Q E h => ?_) (fun cdv A outer s H vs Q E hr h => ?_)
  · obtain ⟨_, rfl, _⟩ := h; rfl
  · obtain ⟨k, rfl, h0, h1, q⟩ := h
    refine ⟨_, (pss_one (ps_ret (pe_op op_sub (pe_op op_shlW pe_int (pv 0)) pe_int))), ?_⟩
    walk_at "go"
    rw [← pow_c]
    exact q
theorem k_mask {H : Hp} {Q : VK} {E : XK} {k : Int} (h0 : 0 ≤ k) (h1 : k ≤ 10000000) (q : Q (.int (2 ^ k.toNat - 1)) H) : sp_mask K [.int k] H Q E := ⟨k, rfl, h0, h1, q⟩
local macro_rules | `(tactic| walk_at "st") => `(tactic| first | ((with_reducible apply k_mask); (· omega); (· omega)) | fail)

/-! ### stretched -/
def sp_stretched (K : PySem.W.Frag) (T : Txt K mg) : Sp := fun vs H Q E => ∃ (a : Addr) (n b : Nat) (i : Int), vs = [.ref a, .int i] ∧ RT K H a n b ∧ (i < 1 ∨ i % (n : Int) ≠ 0 → E (.ref T.C_NoNumber) none H) ∧ (i % (n : Int) = 0 → 150000 < i → TL T.C_TooLong E H i) ∧
  (∀ m : Nat, i = m → n ∣ m → 1 ≤ m → m ≤ 150000 → ∀ (p : Addr) (H' : Hp), Same H H' → SqT K H' p [.int (m : Int), .int (bitsOf m (hold n b) : Nat)] → Q (.ref p) H')
theorem ok_stretched (T : Txt K mg) : FnOk P w K mg base (L2.CX P w) 4 T.a_stretched T.fd_stretched ["turn", "size"] (sp_stretched K T) := by
  refine T.F_stretched.okX sc_stretched (fun vs H Q E h => ?_) (fun cdv A outer s H vs Q E hr h => ?_)
  · obtain ⟨_, _, _, _, rfl, _⟩ := h; rfl
  · obtain ⟨a, n, b, i, rfl, r, q0, q1, q⟩ := h
    have hu := hr.units
    have ht := r.t
    have hn := r.n1
    have hb := r.lt
    refine ⟨_, (pss_cons (ps_if (PW.pt (pw_or (pt_cmpR op_lt (pv 1) pe_int (nomark _)) (pw_or1 (pt_cmpR (kb_ne K (hu := hu)) (pe_op op_mod (pv 1) (pe_ix (kb_ix K) (pv 0) pe_int (fun _ _ => rfl))) pe_int (nomark _))))) (pss_one (ps_raise rfl (takes_of rfl rfl rfl rfl) (pmk_own PySem.F.excBase_ValueError T.x_NoNumber T.gc_NoNumber T.kc_NoNumber (raises_own T.bc_NoNumber T.tc_NoNumber) rfl))) pss_nil)
        (pss_cons (ps_expr (pe_callS (ok_allowed T) (hr.mono (by decide)) (by rfl) T.g_allowed T.F_allowed.kp T.b_allowed (fun σ => passAt (takes_of rfl rfl rfl rfl) σ) (pa_cons (pv 1) pa_nil)))
        (PSs.nox (pss_cons (ps_set (i := 2) sc_stretched.nd rfl (Or.inl rfl) (pe_ix (kb_ix K) (pv 0) pe_int (fun _ _ => rfl)))
        (pss_cons (ps_set (i := 3) sc_stretched.nd rfl (Or.inl rfl) (pe_ix (kb_ix K) (pv 0) pe_int (fun _ _ => rfl)))
        (pss_cons (ps_while PassesOwn.never (pt_cmpR op_lt (pv 3) (pv 1) (nomark _)) (pss_cons (ps_set (i := 4) sc_stretched.nd rfl (Or.inl rfl) (pe_callB (cb_min2 rfl) (by rfl) T.n_min (by decide +kernel) (pa_cons (pv 3) (pa_cons (pe_op op_sub (pv 1) (pv 3)) pa_nil))))
        (pss_cons (ps_set (i := 2) sc_stretched.nd rfl (Or.inl rfl) (pe_op op_or (pv 2) (pe_op op_shlW (pe_op op_and (pv 2) (pe_call (ok_mask T) (hr.mono (by decide)) (by rfl) T.g_mask T.F_mask.kp T.b_mask .nil pass0 (pa_cons (pv 4) pa_nil))) (pv 3))))
        (pss_one (ps_set (i := 3) sc_stretched.nd rfl (Or.inl rfl) (pe_op op_addA (pv 3) (pv 4)))))))
        (pss_one (ps_ret (pe_tup (pa_cons (pv 1) (pa_cons (pv 2) pa_nil))))))))))), ?_⟩
    with_reducible apply k_seqI
    walk_at "go"
    refine if_dec (fun h => ?_) (fun h1 => ?_)
    · refine if_t ?_
      exact q0 (.inl h)
    walk_at "go"
    refine if_ndec (fun h => ?_) (fun h => ?_)
    · exact q0 (.inr h)
    have e0 : i % (n : Int) = 0 := by omega
    walk_at "go"
    refine k_allowed_x (fun h => by omega) (fun h => q1 e0 h) (fun _ hm' => ?_)
    obtain ⟨m, rfl⟩ := Int.eq_ofNat_of_zero_le (show 0 ≤ i by omega)
    have hd : n ∣ m := Int.natCast_dvd_natCast.mp (Int.dvd_of_emod_eq_zero e0)
    have hm : 1 ≤ m := by omega
    have hm' : m ≤ 150000 := by omega
    have hnm : n ≤ m := Nat.le_of_dvd (by omega) hd
    have q := q m rfl hd hm hm'
    walk_at "run"
    apply k_seqW
    refine k_while (fun k σ' H' => ∃ (h x : Nat) (v : Option V), σ' = [some (.ref a), some (.int (m : Int)), some (.int (x : Int)), some (.int (h : Int)), v] ∧ H = H' ∧ x = ofB (fun i => b.testBit (i % n)) h ∧ n ∣ h ∧ 1 ≤ h ∧ h ≤ m ∧ k = m - h) _
      ⟨n, b, none, rfl, rfl, str_start hb, Nat.dvd_refl n, hn, hnm, rfl⟩ ?_
    rintro k _ _ ⟨h, x, v, rfl, rfl, rfl, hdh, h1, h2, rfl⟩
    walk_at "go"
    refine if_dec (fun hbr => ?_) (fun hbr => ?_)
    · apply k_turn
      walk_at "go"
      rename_i k hk1 hk2 hk3
      obtain ⟨k, rfl⟩ := Int.eq_ofNat_of_zero_le (show 0 ≤ k by omega)
      have hst := str_step (g := fun i => b.testBit (i % n)) (h := h) (k := k) (fun i => by show b.testBit (i % n % n) = _; rw [Nat.mod_mod]) hdh (by omega)
      refine ⟨_, ?_, h + k, _, _, rfl, rfl, hst, ?_, by omega, by omega, rfl⟩
      · omega
      · rcases hk1 with e | e
        · have : k = h := by omega
          subst this; exact Nat.dvd_add hdh hdh
        · have : h + k = m := by omega
          rw [this]; exact hd
    · have : h = m := by omega
      subst this
      walk_at "go"
      rename_i p H' _ _ _
      refine q p H' (by assumption) (SqT.of ?_)
      rw [← str_bits hn]; assumption
theorem k_stretched_x {T : Txt K mg} {H : Hp} {Q : VK} {E : XK} {a : Addr} {n b : Nat} {i : Int} (r : RT K H a n b) (q0 : i < 1 ∨ i % (n : Int) ≠ 0 → E (.ref T.C_NoNumber) none H) (q1 : i % (n : Int) = 0 → 150000 < i → TL T.C_TooLong E H i)
    (q : ∀ m : Nat, i = m → n ∣ m → 1 ≤ m → m ≤ 150000 → ∀ (p : Addr) (H' : Hp), Same H H' → SqT K H' p [.int (m : Int), .int (bitsOf m (hold n b) : Nat)] → Q (.ref p) H') : sp_stretched K T [.ref a, .int i] H Q E := ⟨a, n, b, i, rfl, r, q0, q1, q⟩
theorem k_stretched {T : Txt K mg} {H : Hp} {Q : VK} {E : XK} {a : Addr} {n b m : Nat} (r : RT K H a n b) (hd : n ∣ m) (hm : 1 ≤ m) (hm' : m ≤ 150000)
    (q : ∀ (p : Addr) (H' : Hp), Same H H' → SqT K H' p [.int (m : Int), .int (bitsOf m (hold n b) : Nat)] → Q (.ref p) H') : sp_stretched K T [.ref a, .int (m : Int)] H Q E :=
  k_stretched_x (i := (m : Int)) r (fun h => by
    have : (m : Int) % (n : Int) = 0 := Int.emod_eq_zero_of_dvd (Int.natCast_dvd_natCast.mpr hd)
    omega) (fun _ h => absurd h (by omega)) fun m' e _ _ _ => by
    have e2 : m = m' := by omega
    rw [← e2]; exact q

/-! ### without -/
def sp_without (K : PySem.W.Frag) (T : Txt K mg) : Sp := fun vs H Q E => ∃ (a a2 : Addr) (n b m c : Nat), vs = [.ref a, .ref a2] ∧ RT K H a n b ∧ RT K H a2 m c ∧ (150000 < Nat.lcm n m → TL T.C_TooLong E H (Nat.lcm n m : Nat)) ∧
  (Nat.lcm n m ≤ 150000 → ∀ (p : Addr) (H' : Hp), Same H H' → RT K H' p (Nat.lcm n m) (bitsOf (Nat.lcm n m) (fun d => hold n b d && !hold m c d)) → Q (.ref p) H')
theorem ok_without (T : Txt K mg) : FnOk P w K mg base (L2.CX P w) 5 T.a_without T.fd_without ["one", "other"] (sp_without K T) := by
  refine T.F_without.okX sc_without (fun vs H Q E h => ?_) (fun cdv A outer s H vs Q E hr h => ?_)
  · obtain ⟨_, _, _, _, _, _, rfl, _⟩ := h; rfl
  · obtain ⟨a, a2, n, b, m, c, rfl, r, r2, q1, q⟩ := h
    have hu := hr.units
    have hL1 := lcm1 r.n1 r2.n1
    refine ⟨_, (pss_cons (ps_set (i := 2) sc_without.nd rfl (Or.inl rfl) (pe_callS (ok_common_size T) (hr.mono (by decide)) (by rfl) T.g_common_size T.F_common_size.kp T.b_common_size (fun σ => passAt (takes_of rfl rfl rfl rfl) σ) (pa_cons (pv 0) (pa_cons (pv 1) pa_nil))))
        (pss_cons (ps_set (i := 3) sc_without.nd rfl (Or.inl rfl) (pe_ix (kb_ix K) (pe_callS (ok_stretched T) (hr.mono (by decide)) (by rfl) T.g_stretched T.F_stretched.kp T.b_stretched (fun σ => passAt (takes_of rfl rfl rfl rfl) σ) (pa_cons (pv 0) (pa_cons (pv 2) pa_nil))) pe_int (fun _ _ => rfl)))
        (pss_one (ps_ret (pe_tup (pa_cons (pv 2) (pa_cons (pe_op op_xor (pv 3) (pe_op op_and (pv 3) (pe_ix (kb_ix K) (pe_callS (ok_stretched T) (hr.mono (by decide)) (by rfl) T.g_stretched T.F_stretched.kp T.b_stretched (fun σ => passAt (takes_of rfl rfl rfl rfl) σ) (pa_cons (pv 1) (pa_cons (pv 2) pa_nil))) pe_int (fun _ _ => rfl)))) pa_nil))))))), ?_⟩
    walk_at "go"
    refine k_common_size_x r r2 q1 fun hL => ?_
    have q := q hL
    walk_at "go"
    refine k_stretched r (Nat.dvd_lcm_left n m) hL1 hL fun p1 H1 s1 t1 => ?_
    walk_at "go"
    refine k_stretched (r2.mono s1) (Nat.dvd_lcm_right n m) hL1 hL fun p2 H2 s2 t2 => ?_
    walk_at "go"
    rename_i p H' _ s3 t3
    rw [without_bits] at t3
    exact q p H' ((s1.trans s2).trans s3) ⟨SqT.of t3, hL1, hL, bitsOf_lt _ _⟩
theorem k_without_x {T : Txt K mg} {H : Hp} {Q : VK} {E : XK} {a a2 : Addr} {n b m c : Nat} (r : RT K H a n b) (r2 : RT K H a2 m c) (q1 : 150000 < Nat.lcm n m → TL T.C_TooLong E H (Nat.lcm n m : Nat))
    (q : Nat.lcm n m ≤ 150000 → ∀ (p : Addr) (H' : Hp), Same H H' → RT K H' p (Nat.lcm n m) (bitsOf (Nat.lcm n m) (fun d => hold n b d && !hold m c d)) → Q (.ref p) H') : sp_without K T [.ref a, .ref a2] H Q E := ⟨a, a2, n, b, m, c, rfl, r, r2, q1, q⟩
theorem k_without {T : Txt K mg} {H : Hp} {Q : VK} {E : XK} {a a2 : Addr} {n b m c : Nat} (r : RT K H a n b) (r2 : RT K H a2 m c) (hL : Nat.lcm n m ≤ 150000)
    (q : ∀ (p : Addr) (H' : Hp), Same H H' → RT K H' p (Nat.lcm n m) (bitsOf (Nat.lcm n m) (fun d => hold n b d && !hold m c d)) → Q (.ref p) H') : sp_without K T [.ref a, .ref a2] H Q E := ⟨a, a2, n, b, m, c, rfl, r, r2, fun h => absurd h (by omega), fun _ => q⟩

/-! ### round_by -/
def sp_round_by (K : PySem.W.Frag) (T : Txt K mg) : Sp := fun vs H Q E => ∃ (i : Int) (a : Addr) (l : List Int), vs = [.int i, .ref a] ∧ SqL K H a (l.map V.int) ∧ (i < 1 → E (.ref T.C_NoNumber) none H) ∧ (150000 < i → TL T.C_TooLong E H i) ∧
  (∀ n : Nat, i = n → 1 ≤ n → n ≤ 150000 → ∀ (p : Addr) (H' : Hp) (b : Nat), H p = none → Same H H' → RT K H' p n b → (∀ d : Int, hold n b d = true ↔ ∃ e ∈ l, (d - e) % (n : Int) = 0) → Q (.ref p) H')
theorem ok_round_by (T : Txt K mg) : FnOk P w K mg base (L2.CX P w) 4 T.a_round_by T.fd_round_by ["size", "days"] (sp_round_by K T) := by
  refine T.F_round_by.okX sc_round_by (fun vs H Q E h => ?_) (fun cdv A outer s H vs Q E hr h => ?_)
  · obtain ⟨_, _, _, rfl, _⟩ := h; rfl
  · obtain ⟨i, a, l, rfl, hS, q0, q1, q⟩ := h
    have hu := hr.units
    refine ⟨_, (pss_cons (ps_expr (pe_callS (ok_allowed T) (hr.mono (by decide)) (by rfl) T.g_allowed T.F_allowed.kp T.b_allowed (fun σ => passAt (takes_of rfl rfl rfl rfl) σ) (pa_cons (pv 0) pa_nil)))
        (PSs.nox (pss_cons (ps_set (i := 2) sc_round_by.nd rfl (Or.inl rfl) pe_int)
        (pss_cons (ps_for PassesOwn.never rfl (pi_list (pv 1)) (pg_name (i := 3) sc_round_by.nd rfl (Or.inl rfl)) (pss_one (ps_set (i := 2) sc_round_by.nd rfl (Or.inl rfl) (pe_op op_or (pv 2) (pe_op op_shlW pe_int (pe_op op_mod (pv 3) (pv 0)))))))
        (pss_one (ps_ret (pe_tup (pa_cons (pv 0) (pa_cons (pv 2) pa_nil))))))))), ?_⟩
    walk_at "go"
    refine k_allowed_x q0 q1 fun h1 h2 => ?_
    obtain ⟨n, rfl⟩ := Int.eq_ofNat_of_zero_le (show 0 ≤ i by omega)
    have hn : 1 ≤ n := by omega
    have hn2 : n ≤ 150000 := by omega
    have q := q n rfl hn hn2
    walk_at "go"
    with_reducible apply k_seqF
    with_reducible apply k_for
    walk_at "go"
    refine for_list (xs := l.map V.int) (fun i σ' H' => ∃ (x : Nat) (v : Option V), σ' = [some (.int (n : Int)), some (.ref a), some (.int (x : Int)), v] ∧ H = H' ∧ x < 2 ^ n ∧ ∀ j : Nat, x.testBit j = true ↔ (j : Int) ∈ (l.take i).map fun e => e % (n : Int)) ⟨0, none, rfl, rfl, Nat.two_pow_pos n, fun j => by simp⟩
      (fun i σ' H' _ hW => by obtain ⟨_, _, _, rfl, _⟩ := hW; exact hS) (fun i y σ' H' hy hW => ?_) (fun σ' H' hW => ?_)
    · obtain ⟨x, v, rfl, rfl, hx, hj⟩ := hW
      rw [List.getElem?_map] at hy
      obtain ⟨d, hd, rfl⟩ := Option.map_eq_some_iff.mp hy
      obtain ⟨g1, g2⟩ := mod_lt' hn d
      walk_at "go"
      refine ⟨_, _, rfl, rfl, Nat.or_lt_two_pow hx (one_lt hn d), fun j => ?_⟩
      rw [List.take_succ, hd, List.map_append]
      have h := tb_put (d := (d % (n : Int)).toNat) hj j
      rw [g2] at h
      exact h
    · obtain ⟨x, v, rfl, rfl, hx, hj⟩ := hW
      rw [List.length_map, List.take_of_length_le (Nat.le_refl _)] at hj
      walk_at "go"
      rename_i p H2 hp s2 t2
      refine q p H2 x hp s2 ⟨SqT.of t2, hn, hn2, hx⟩ fun d => ?_
      obtain ⟨g1, g2⟩ := mod_lt' hn d
      refine (hj _).trans ?_
      rw [g2, List.mem_map]
      constructor
      · rintro ⟨e, he, h⟩
        exact ⟨e, he, Int.emod_eq_emod_iff_emod_sub_eq_zero.mp h.symm⟩
      · rintro ⟨e, he, h⟩
        exact ⟨e, he, (Int.emod_eq_emod_iff_emod_sub_eq_zero.mpr h).symm⟩
theorem k_round_by_x {T : Txt K mg} {H : Hp} {Q : VK} {E : XK} {i : Int} {a : Addr} {l : List Int} (hS : SqL K H a (l.map V.int)) (q0 : i < 1 → E (.ref T.C_NoNumber) none H) (q1 : 150000 < i → TL T.C_TooLong E H i)
    (q : ∀ n : Nat, i = n → 1 ≤ n → n ≤ 150000 → ∀ (p : Addr) (H' : Hp) (b : Nat), H p = none → Same H H' → RT K H' p n b → (∀ d : Int, hold n b d = true ↔ ∃ e ∈ l, (d - e) % (n : Int) = 0) → Q (.ref p) H') : sp_round_by K T [.int i, .ref a] H Q E := ⟨i, a, l, rfl, hS, q0, q1, q⟩

/-! ### folded -/
def sp_folded (K : PySem.W.Frag) (T : Txt K mg) : Sp := fun vs H Q E => ∃ (a : Addr) (n b : Nat) (i : Int), vs = [.ref a, .int i] ∧ RT K H a n b ∧ (i < 1 ∨ (n : Int) % i ≠ 0 → E (.ref T.C_NoNumber) none H) ∧
  (∀ s : Nat, i = s → 1 ≤ s → s ∣ n → ∀ (p : Addr) (H' : Hp), Same H H' → RT K H' p s (foldB s b (n / s)) → Q (.ref p) H')
theorem ok_folded (T : Txt K mg) : FnOk P w K mg base (L2.CX P w) 2 T.a_folded T.fd_folded ["turn", "size"] (sp_folded K T) := by
  refine T.F_folded.okX sc_folded (fun vs H Q E h => ?_) (fun cdv A outer s H vs Q E hr h => ?_)
  · obtain ⟨_, _, _, _, rfl, _⟩ := h; rfl
  · obtain ⟨a, n, b, i, rfl, r, q0, q⟩ := h
    have hu := hr.units
    have hn := r.n1
    have hn2 := r.n2
    have ht := r.t
    have hsm := r.sm
    refine ⟨_, (pss_cons (ps_if (PW.pt (pw_or (pt_cmpR op_lt (pv 1) pe_int (nomark _)) (pw_or1 (pt_cmpR (kb_ne K (hu := hu)) (pe_op op_mod (pe_ix (kb_ix K) (pv 0) pe_int (fun _ _ => rfl)) (pv 1)) pe_int (nomark _))))) (pss_one (ps_raise rfl (takes_of rfl rfl rfl rfl) (pmk_own PySem.F.excBase_ValueError T.x_NoNumber T.gc_NoNumber T.kc_NoNumber (raises_own T.bc_NoNumber T.tc_NoNumber) rfl))) pss_nil)
        (PSs.nox (pss_cons (ps_set (i := 2) sc_folded.nd rfl (Or.inl rfl) pe_int)
        (pss_cons (ps_set (i := 3) sc_folded.nd rfl (Or.inl rfl) (pe_ix (kb_ix K) (pv 0) pe_int (fun _ _ => rfl)))
        (pss_cons (ps_while PassesOwn.never (pt_cmpR op_gt (pv 3) pe_int (nomark _)) (pss_cons (ps_set (i := 2) sc_folded.nd rfl (Or.inl rfl) (pe_op op_or (pv 2) (pe_op op_and (pv 3) (pe_call (ok_mask T) (hr.mono (by decide)) (by rfl) T.g_mask T.F_mask.kp T.b_mask .nil pass0 (pa_cons (pv 1) pa_nil)))))
        (pss_one (ps_set (i := 3) sc_folded.nd rfl (Or.inl rfl) (pe_op op_shr (pv 3) (pv 1))))))
        (pss_one (ps_ret (pe_tup (pa_cons (pv 1) (pa_cons (pv 2) pa_nil)))))))))), ?_⟩
    with_reducible apply k_seqI
    walk_at "go"
    refine if_dec (fun h => ?_) (fun h1 => ?_)
    · refine if_t ?_
      exact q0 (.inl h)
    walk_at "go"
    refine if_ndec (fun h => ?_) (fun h => ?_)
    · exact q0 (.inr h)
    obtain ⟨s', rfl⟩ := Int.eq_ofNat_of_zero_le (show 0 ≤ i by omega)
    have hd : s' ∣ n := Int.natCast_dvd_natCast.mp (Int.dvd_of_emod_eq_zero (show (n : Int) % (s' : Int) = 0 by omega))
    have hs : 1 ≤ s' := by omega
    have hsn : s' ≤ n := Nat.le_of_dvd hn hd
    have q := q s' rfl hs hd
    walk_at "run"
    apply k_seqW
    refine k_while (fun k σ' H' => ∃ (x c : Nat), σ' = [some (.ref a), some (.int (s' : Int)), some (.int (c : Int)), some (.int (x : Int))] ∧ H = H' ∧ x < 2 ^ (k * s') ∧ Sm 400000 (x : Int) ∧ c < 2 ^ s' ∧ c ||| foldB s' x k = foldB s' b (n / s')) (n / s')
      ⟨b, 0, rfl, rfl, by rw [Nat.div_mul_cancel hd]; exact r.lt, hsm, Nat.two_pow_pos s', by simp⟩ ?_
    rintro k _ _ ⟨x, c, rfl, rfl, hx, hxs, hc, hf⟩
    walk_at "go"
    refine if_dec (fun hbr => ?_) (fun hbr => ?_)
    · apply k_turn
      walk_at "go"
      cases k with
      | zero => rw [Nat.zero_mul] at hx; omega
      | succ k =>
        refine ⟨k, by omega, _, _, rfl, rfl, ?_, sm_divp hxs, Nat.or_lt_two_pow hc (Nat.mod_lt _ (Nat.two_pow_pos s')), ?_⟩
        · rw [Int.toNat_natCast]
          rw [Nat.add_mul, Nat.one_mul, Nat.pow_add] at hx
          exact Nat.div_lt_of_lt_mul (by rw [Nat.mul_comm]; exact hx)
        · rw [Int.toNat_natCast, Nat.or_assoc]; exact hf
    · have : x = 0 := by omega
      subst this
      rw [fold_zero, Nat.or_zero] at hf
      walk_at "go"
      rename_i p H' _ s3 t3
      rw [hf] at t3
      exact q p H' s3 ⟨SqT.of t3, hs, by omega, fold_lt _ _ _⟩
theorem k_folded_x {T : Txt K mg} {H : Hp} {Q : VK} {E : XK} {a : Addr} {n b : Nat} {i : Int} (r : RT K H a n b) (q0 : i < 1 ∨ (n : Int) % i ≠ 0 → E (.ref T.C_NoNumber) none H)
    (q : ∀ s : Nat, i = s → 1 ≤ s → s ∣ n → ∀ (p : Addr) (H' : Hp), Same H H' → RT K H' p s (foldB s b (n / s)) → Q (.ref p) H') : sp_folded K T [.ref a, .int i] H Q E := ⟨a, n, b, i, rfl, r, q0, q⟩

/-! ### ones -/
def sp_ones (K : PySem.W.Frag) : Sp := fun vs H Q _ => ∃ b : Nat, vs = [.int (b : Int)] ∧ Sm 400000 (b : Int) ∧ Q (.int (pop b : Nat)) H
theorem ok_ones (T : Txt K mg) : FnOk P w K mg base CX0 2 T.a_ones T.fd_ones ["bits"] (sp_ones K) := by
  refine T.F_ones.ok sc_ones (fun vs H Q E h => ?_) (fun cdv A outer s H vs Q E hr h => ?_)
  · obtain ⟨_, rfl, _⟩ := h; rfl
  · obtain ⟨b, rfl, hb, q⟩ := h
    have hu := hr.units
    refine ⟨_, (pss_cons (ps_set (i := 1) sc_ones.nd rfl (Or.inl rfl) pe_int)
        (pss_cons (ps_while PassesOwn.never (pt_cmpR op_gt (pv 0) pe_int (nomark _)) (pss_cons (ps_set (i := 2) sc_ones.nd rfl (Or.inl rfl) (pe_op op_and (pv 0) (pe_call (ok_mask T) (hr.mono (by decide)) (by rfl) T.g_mask T.F_mask.kp T.b_mask .nil pass0 (pa_cons (pe_glob (v := (.int 60)) rfl T.c_CHUNK ⟨_, rfl⟩) pa_nil))))
        (pss_cons (ps_while PassesOwn.never (pt_cmpR op_gt (pv 2) pe_int (nomark _)) (pss_cons (ps_set (i := 2) sc_ones.nd rfl (Or.inl rfl) (pe_op op_and (pv 2) (pe_op op_sub (pv 2) pe_int)))
        (pss_one (ps_set (i := 1) sc_ones.nd rfl (Or.inl rfl) (pe_op op_addA (pv 1) pe_int)))))
        (pss_one (ps_set (i := 0) sc_ones.nd rfl (Or.inl rfl) (pe_op op_shr (pv 0) (pe_glob (v := (.int 60)) rfl T.c_CHUNK ⟨_, rfl⟩)))))))
        (pss_one (ps_ret (pv 1))))), ?_⟩
    walk_at "go"
    apply k_seqW
    refine k_while (fun k σ' H' => ∃ (x m : Nat) (v : Option V), σ' = [some (.int (x : Int)), some (.int (m : Int)), v] ∧ H = H' ∧ x = k ∧ m + pop x = pop b) _ ⟨b, 0, none, rfl, rfl, rfl, by omega⟩ ?_
    rintro k _ _ ⟨x, m, v, rfl, rfl, rfl, hx⟩
    walk_at "go"
    refine if_dec (fun hbr => ?_) (fun hbr => ?_)
    · apply k_turn
      walk_at "go"
      apply k_seqW
      have hsp := pop_split x 60
      refine k_while (fun k σ' H' => ∃ (y m : Nat), σ' = [some (.int (x : Int)), some (.int (m : Int)), some (.int (y : Int))] ∧ H = H' ∧ y = k ∧ m + pop y + pop (x / 2 ^ 60) = pop b) _ ⟨x % 2 ^ 60, m, rfl, rfl, rfl, by omega⟩ ?_
      rintro k _ _ ⟨y, m, rfl, rfl, rfl, hy⟩
      walk_at "go"
      refine if_dec (fun hbr2 => ?_) (fun hbr2 => ?_)
      · apply k_turn
        walk_at "go"
        have hc := pop_clear (x := y) (by omega)
        rw [and_pred (show 0 < y by omega)]
        exact ⟨_, and_pred_lt (show 0 < y by omega), _, m + 1, rfl, rfl, rfl, by omega⟩
      · have : y = 0 := by omega
        subst this
        walk_at "go"
        rw [pop_zero] at hy
        exact ⟨_, Nat.div_lt_self (by omega) (by decide), _, m, _, rfl, rfl, rfl, by
          have e : pop (x / 2 ^ (Int.toNat 60)) = pop (x / 2 ^ 60) := rfl
          omega⟩
    · have : x = 0 := by omega
      subst this
      rw [pop_zero] at hx
      walk_at "go"
      rw [← hx] at q
      exact q
theorem k_ones {H : Hp} {Q : VK} {E : XK} {b : Nat} (hb : Sm 400000 (b : Int)) (q : Q (.int (pop b : Nat)) H) : sp_ones K [.int (b : Int)] H Q E := ⟨b, rfl, hb, q⟩

/-! ### place -/
def sp_place (K : PySem.W.Frag) : Sp := fun vs H Q _ => ∃ (b n r : Nat), vs = [.int (b : Int), .int (n : Int), .int (r : Int)] ∧ b < 2 ^ n ∧ n ≤ 150000 ∧ r < pop b ∧
  ∀ k : Nat, k < n → b.testBit k = true → cnt b.testBit k = r → Q (.int (k : Int)) H
theorem ok_place (T : Txt K mg) : FnOk P w K mg base CX0 3 T.a_place T.fd_place ["bits", "size", "number"] (sp_place K) := by
  refine T.F_place.ok sc_place (fun vs H Q E h => ?_) (fun cdv A outer s H vs Q E hr h => ?_)
  · obtain ⟨_, _, _, rfl, _⟩ := h; rfl
  · obtain ⟨b, n, r, rfl, hb, hn, hr2, q⟩ := h
    have hu := hr.units
    have hsm : Sm 400000 (b : Int) := sm_mono (sm_nat hb) (by omega)
    have hpn := pop_eq hb
    have hn0 : 0 < n := by
      have := pop_le hb; omega
    refine ⟨_, (pss_cons (ps_set (i := 3) sc_place.nd rfl (Or.inl rfl) pe_int)
        (pss_cons (ps_set (i := 4) sc_place.nd rfl (Or.inl rfl) (pv 1))
        (pss_cons (ps_while PassesOwn.never (pt_cmpR op_gt (pe_op op_sub (pv 4) (pv 3)) pe_int (nomark _)) (pss_cons (ps_set (i := 5) sc_place.nd rfl (Or.inl rfl) (pe_op op_fdivW (pe_op op_addA (pv 3) (pv 4)) pe_int))
        (pss_one (ps_if (pt_cmpR op_gt (pe_call (ok_ones T) (hr.mono (by decide)) (by rfl) T.g_ones T.F_ones.kp T.b_ones .nil pass0 (pa_cons (pe_op op_and (pv 0) (pe_call (ok_mask T) (hr.mono (by decide)) (by rfl) T.g_mask T.F_mask.kp T.b_mask .nil pass0 (pa_cons (pv 5) pa_nil))) pa_nil)) (pv 2) (nomark _)) (pss_one (ps_set (i := 4) sc_place.nd rfl (Or.inl rfl) (pv 5))) (pss_one (ps_set (i := 3) sc_place.nd rfl (Or.inl rfl) (pv 5)))))))
        (pss_one (ps_ret (pv 3)))))), ?_⟩
    walk_at "go"
    apply k_seqW
    refine k_while (fun k σ' H' => ∃ (l h : Nat) (v : Option V), σ' = [some (.int (b : Int)), some (.int (n : Int)), some (.int (r : Int)), some (.int (l : Int)), some (.int (h : Int)), v] ∧ H = H' ∧ h - l = k ∧ l < h ∧ h ≤ n ∧ cnt b.testBit l ≤ r ∧ r < cnt b.testBit h) _
      ⟨0, n, none, rfl, rfl, rfl, hn0, Nat.le_refl n, Nat.zero_le _, by omega⟩ ?_
    rintro k _ _ ⟨l, h, v, rfl, rfl, rfl, h1, h2, h3, h4⟩
    walk_at "go"
    refine if_dec (fun hbr => ?_) (fun hbr => ?_)
    · apply k_turn
      walk_at "go"
      have hm : ((l : Int) + (h : Int)) / 2 = (((l + h) / 2 : Nat) : Int) := by omega
      with_reducible apply k_if
      walk_at "go"
      rw [hm]
      refine k_ones (sm_modp hsm) ?_
      rw [Int.toNat_natCast, pop_cnt]
      walk_at "go"
      refine if_dec (fun hb2 => ?_) (fun hb2 => ?_)
      · walk_at "go"
        exact ⟨_, by omega, l, _, _, rfl, rfl, rfl, by omega, by omega, h3, by omega⟩
      · walk_at "go"
        exact ⟨_, by omega, _, h, _, rfl, rfl, rfl, by omega, by omega, by omega, h4⟩
    · walk_at "go"
      have e : h = l + 1 := by omega
      subst e
      have e2 : cnt b.testBit (l + 1) = cnt b.testBit l + if b.testBit l then 1 else 0 := rfl
      by_cases ht : b.testBit l = true
      · rw [e2, if_pos ht] at h4
        exact q l (by omega) ht (by omega)
      · rw [e2, if_neg ht] at h4
        omega
theorem k_place {H : Hp} {Q : VK} {E : XK} {b n r : Nat} (hb : b < 2 ^ n) (hn : n ≤ 150000) (hr : r < pop b) (q : ∀ k : Nat, k < n → b.testBit k = true → cnt b.testBit k = r → Q (.int (k : Int)) H) : sp_place K [.int (b : Int), .int (n : Int), .int (r : Int)] H Q E := ⟨b, n, r, rfl, hb, hn, hr, q⟩

/-! ### rank -/
def sp_rank (K : PySem.W.Frag) : Sp := fun vs H Q _ => ∃ (a : Addr) (n b : Nat) (d : Int), vs = [.ref a, .int d] ∧ RT K H a n b ∧ Sm 3000 d ∧ ∀ H', Same H H' → Q (.int (rankI n b d)) H'
theorem ok_rank (T : Txt K mg) : FnOk P w K mg base CX0 3 T.a_rank T.fd_rank ["turn", "day"] (sp_rank K) := by
  refine T.F_rank.ok sc_rank (fun vs H Q E h => ?_) (fun cdv A outer s H vs Q E hr h => ?_)
  · obtain ⟨_, _, _, _, rfl, _⟩ := h; rfl
  · obtain ⟨a, n, b, d, rfl, r, hd, q⟩ := h
    have hu := hr.units
    have hn := r.n1
    have hn2 := r.n2
    have hsm := r.sm
    have ht := r.t
    have hcd : CDivP d (n : Int) := divp_ok (by omega) (Nat.le_trans (PyProof.Rows.intBits_le hd.h) (by omega))
    have h1 := Int.emod_nonneg d (show (n : Int) ≠ 0 by omega)
    have h2 := Int.emod_lt_of_pos d (show (0 : Int) < n by omega)
    have hp := pop_le r.lt
    refine ⟨_, (pss_cons (ps_asg (pe_callB cb_divmod (by rfl) T.n_divmod (by decide +kernel) (pa_cons (pv 1) (pa_cons (pe_ix (kb_ix K) (pv 0) pe_int (fun _ _ => rfl)) pa_nil))) (pg_tup rfl (pgs_cons (pg_name (i := 2) sc_rank.nd rfl (Or.inl rfl)) (pgs_cons (pg_name (i := 3) sc_rank.nd rfl (Or.inl rfl)) pgs_nil))))
        (pss_one (ps_ret (pe_op op_addA (pe_op op_mulX (pv 2) (pe_call (ok_ones T) (hr.mono (by decide)) (by rfl) T.g_ones T.F_ones.kp T.b_ones .nil pass0 (pa_cons (pe_ix (kb_ix K) (pv 0) pe_int (fun _ _ => rfl)) pa_nil))) (pe_call (ok_ones T) (hr.mono (by decide)) (by rfl) T.g_ones T.F_ones.kp T.b_ones .nil pass0 (pa_cons (pe_op op_and (pe_ix (kb_ix K) (pv 0) pe_int (fun _ _ => rfl)) (pe_call (ok_mask T) (hr.mono (by decide)) (by rfl) T.g_mask T.F_mask.kp T.b_mask .nil pass0 (pa_cons (pv 3) pa_nil))) pa_nil)))))), ?_⟩
    walk_at "go"
    refine k_ones hsm ?_
    walk_at "go"
    have sd : Sm 3000 (d / (n : Int)) := ⟨Nat.lt_of_le_of_lt (Int.natAbs_ediv_le_natAbs d n) hd.h⟩
    refine k_I (sm_mulx sd (sm41 (by omega) (by omega)) (by decide)) ?_
    walk_at "go"
    refine k_ones (sm_modp hsm) ?_
    walk_at "go"
    exact q _ (by assumption)
theorem k_rank {H : Hp} {Q : VK} {E : XK} {a : Addr} {n b : Nat} {d : Int} (r : RT K H a n b) (hd : Sm 3000 d) (q : ∀ H', Same H H' → Q (.int (rankI n b d)) H') : sp_rank K [.ref a, .int d] H Q E := ⟨a, n, b, d, rfl, r, hd, q⟩

/-! ### nth_day -/
def wantedI (n b : Nat) (d z : Int) : Int := if z < 0 then rankI n b (d + 1) + z else rankI n b d + z - 1
def sp_nth_day (K : PySem.W.Frag) (T : Txt K mg) : Sp := fun vs H Q E => ∃ (a : Addr) (n b : Nat) (d z : Int), vs = [.ref a, .int d, .int z] ∧ RT K H a n b ∧ Sm 1000 d ∧ Sm 1000 z ∧ (z = 0 → E (.ref T.C_NoNumber) none H) ∧
  (z ≠ 0 → b = 0 → ∀ H', Same H H' → Q .non H') ∧
  (z ≠ 0 → b ≠ 0 → ∀ (x : Int) (H' : Hp), Same H H' → hold n b x = true → rankI n b x = wantedI n b d z → (∃ k q : Int, 0 ≤ k ∧ k < n ∧ x = q * n + k) → Sm 2700 x → Q (.int x) H')
theorem sm_add {i j : Int} {a b : Nat} (h : Sm a i) (h' : Sm b j) : Sm (a + b + 1) (i + j) := by
  have h1 := h.h
  have h2 := h'.h
  have e1 : (2 : Nat) ^ (a + b + 1) = 2 * (2 ^ a * 2 ^ b) := by rw [Nat.pow_succ, Nat.pow_add]; omega
  have p1 := Nat.two_pow_pos a
  have p2 := Nat.two_pow_pos b
  have q1 : 2 ^ a ≤ 2 ^ a * 2 ^ b := Nat.le_mul_of_pos_right _ p2
  have q2 : 2 ^ b ≤ 2 ^ a * 2 ^ b := Nat.le_mul_of_pos_left _ p1
  refine ⟨?_⟩
  rw [e1]
  generalize 2 ^ a * 2 ^ b = z at *
  omega
theorem ok_nth_day (T : Txt K mg) : FnOk P w K mg base (L2.CX P w) 4 T.a_nth_day T.fd_nth_day ["turn", "day", "number"] (sp_nth_day K T) := by
  refine T.F_nth_day.okX sc_nth_day (fun vs H Q E h => ?_) (fun cdv A outer s H vs Q E hr h => ?_)
  · obtain ⟨_, _, _, _, _, rfl, _⟩ := h; rfl
  · obtain ⟨a, n, b, d, z, rfl, r, sd, sz, q0, q1, q2⟩ := h
    have hu := hr.units
    have hn := r.n1
    have hn2 := r.n2
    have ht := r.t
    have hsm := r.sm
    have hpl := pop_le r.lt
    have s1 : Sm 1 (1 : Int) := ⟨by decide⟩
    have sr : ∀ x, Sm 1002 x → Sm 1042 (rankI n b x) := fun x hx => rank_sm hn hn2 r.lt hx
    have sw : Sm 2200 (wantedI n b d z) := by
      unfold wantedI
      split
      · exact sm_mono (sm_add (sr _ (sm_add sd s1)) sz) (by decide)
      · have e : rankI n b d + z - 1 = rankI n b d + (z + -1) := by omega
        rw [e]
        exact sm_mono (sm_add (sr _ (sm_mono sd (by decide))) (sm_add sz (⟨by decide⟩ : Sm 1 (-1 : Int)))) (by decide)
    refine ⟨_, (pss_cons (ps_if (pt_cmpR (kb_eq K (hu := hu)) (pv 2) pe_int (nomark _)) (pss_one (ps_raise rfl (takes_of rfl rfl rfl rfl) (pmk_own PySem.F.excBase_ValueError T.x_NoNumber T.gc_NoNumber T.kc_NoNumber (raises_own T.bc_NoNumber T.tc_NoNumber) rfl))) pss_nil)
        (PSs.nox (pss_cons (ps_if (pt_cmpR (kb_eq K (hu := hu)) (pe_ix (kb_ix K) (pv 0) pe_int (fun _ _ => rfl)) pe_int (nomark _)) (pss_one (ps_ret pe_non)) pss_nil)
        (pss_cons (ps_set (i := 3) sc_nth_day.nd rfl (Or.inl rfl) (pe_op op_sub (pe_op op_addA (pe_call (ok_rank T) (hr.mono (by decide)) (by rfl) T.g_rank T.F_rank.kp T.b_rank .nil pass0 (pa_cons (pv 0) (pa_cons (pv 1) pa_nil))) (pv 2)) pe_int))
        (pss_cons (ps_if (pt_cmpR op_lt (pv 2) pe_int (nomark _)) (pss_one (ps_set (i := 3) sc_nth_day.nd rfl (Or.inl rfl) (pe_op op_addA (pe_call (ok_rank T) (hr.mono (by decide)) (by rfl) T.g_rank T.F_rank.kp T.b_rank .nil pass0 (pa_cons (pv 0) (pa_cons (pe_op op_addA (pv 1) pe_int) pa_nil))) (pv 2)))) pss_nil)
        (pss_cons (ps_asg (pe_callB cb_divmod (by rfl) T.n_divmod (by decide +kernel) (pa_cons (pv 3) (pa_cons (pe_call (ok_ones T) (hr.mono (by decide)) (by rfl) T.g_ones T.F_ones.kp T.b_ones .nil pass0 (pa_cons (pe_ix (kb_ix K) (pv 0) pe_int (fun _ _ => rfl)) pa_nil)) pa_nil))) (pg_tup rfl (pgs_cons (pg_name (i := 4) sc_nth_day.nd rfl (Or.inl rfl)) (pgs_cons (pg_name (i := 5) sc_nth_day.nd rfl (Or.inl rfl)) pgs_nil))))
        (pss_one (ps_ret (pe_op op_addA (pe_op op_mulX (pv 4) (pe_ix (kb_ix K) (pv 0) pe_int (fun _ _ => rfl))) (pe_call (ok_place T) (hr.mono (by decide)) (by rfl) T.g_place T.F_place.kp T.b_place .nil pass0 (pa_cons (pe_ix (kb_ix K) (pv 0) pe_int (fun _ _ => rfl)) (pa_cons (pe_ix (kb_ix K) (pv 0) pe_int (fun _ _ => rfl)) (pa_cons (pv 5) pa_nil))))))))))))), ?_⟩
    with_reducible apply k_seqI
    walk_at "go"
    refine if_dec (fun h => q0 h) (fun hz => ?_)
    have q1 := q1 hz
    have q2 := q2 hz
    walk_at "run"
    refine if_dec (fun hb0 => ?_) (fun hb0 => ?_)
    · walk_at "go"; exact q1 (by omega) _ (Same.refl _)
    walk_at "go"
    have hpp := pop_pos (x := b) (by omega)
    refine k_rank r (sm_mono sd (by decide)) fun H1 e1 => ?_
    walk_at "go"
    have r1 := r.mono e1
    have ht1 := r1.t
    with_reducible refine k_cutI (fun σ' H' => σ' = [some (.ref a), some (.int d), some (.int z), some (.int (wantedI n b d z)), none, none] ∧ Same H1 H') (fun N hN => ?_) ?_
    · walk_at "go"; walk_at "br"
      · walk_at "go"
        refine k_rank r1 (sm_mono (sm_add sd s1) (by decide)) fun H2 e2 => ?_
        walk_at "go"
        exact hN _ _ ⟨by rename_i hneg; unfold wantedI; rw [if_pos hneg]; rfl, e2⟩
      · walk_at "go"
        exact hN _ _ ⟨by rename_i hneg; unfold wantedI; rw [if_neg hneg]; rfl, Same.refl _⟩
    rintro _ H2 ⟨rfl, e2⟩
    have r2 := r1.mono e2
    have ht2 := r2.t
    walk_at "go"
    refine k_ones hsm ?_
    have hcd : CDivP (wantedI n b d z) ((pop b : Nat) : Int) := divp_ok (by omega) (Nat.le_trans (PyProof.Rows.intBits_le sw.h) (by omega))
    walk_at "go"
    rename_i p H3 hn3 e3 ht3
    have ht3' := same_t e3 ht2
    have hm1 := Int.emod_nonneg (wantedI n b d z) (show ((pop b : Nat) : Int) ≠ 0 by omega)
    have hm2 := Int.emod_lt_of_pos (wantedI n b d z) (show (0 : Int) < ((pop b : Nat) : Int) by omega)
    have sq : Sm 2200 (wantedI n b d z / ((pop b : Nat) : Int)) := ⟨Nat.lt_of_le_of_lt (Int.natAbs_ediv_le_natAbs _ _) sw.h⟩
    refine k_I (sm_mulx sq (sm41 (by omega) (by omega)) (by decide)) ?_
    walk_at "go"
    obtain ⟨m, hm⟩ := Int.eq_ofNat_of_zero_le hm1
    rw [hm]
    refine k_place r.lt hn2 (by omega) fun k hk hkt hkc => ?_
    walk_at "go"
    have hx1 : (wantedI n b d z / ((pop b : Nat) : Int) * (n : Int) + (k : Int)) % (n : Int) = k := by
      rw [Int.add_comm, Int.add_mul_emod_self_right, Int.emod_eq_of_lt (by omega) (by omega)]
    have hx2 : (wantedI n b d z / ((pop b : Nat) : Int) * (n : Int) + (k : Int)) / (n : Int) = wantedI n b d z / ((pop b : Nat) : Int) := by
      rw [Int.add_comm, Int.add_mul_ediv_right _ _ (by omega), Int.ediv_eq_zero_of_lt (by omega) (by omega), Int.zero_add]
    have hq := Int.emod_add_mul_ediv (wantedI n b d z) ((pop b : Nat) : Int)
    refine q2 (by omega) _ _ ((e1.trans e2).trans e3) ?_ ?_ ⟨k, _, by omega, by omega, rfl⟩ ?_
    · unfold hold; rw [hx1]; exact hkt
    · unfold rankI
      rw [hx1, hx2, Int.toNat_natCast, pop_cnt, hkc, Int.mul_comm]
      omega
    · exact sm_mono (sm_add (sm_mul sq (sm41 (i := (n : Int)) (by omega) (by omega))) (sm41 (i := (k : Int)) (by omega) (by omega))) (by decide)
theorem k_nth_day_x {T : Txt K mg} {H : Hp} {Q : VK} {E : XK} {a : Addr} {n b : Nat} {d z : Int} (r : RT K H a n b) (sd : Sm 1000 d) (sz : Sm 1000 z) (q0 : z = 0 → E (.ref T.C_NoNumber) none H) (q1 : z ≠ 0 → b = 0 → ∀ H', Same H H' → Q .non H')
  (q2 : z ≠ 0 → b ≠ 0 → ∀ (x : Int) (H' : Hp), Same H H' → hold n b x = true → rankI n b x = wantedI n b d z → (∃ k q : Int, 0 ≤ k ∧ k < n ∧ x = q * n + k) → Sm 2700 x → Q (.int x) H') : sp_nth_day K T [.ref a, .int d, .int z] H Q E := ⟨a, n, b, d, z, rfl, r, sd, sz, q0, q1, q2⟩
theorem k_nth_day {T : Txt K mg} {H : Hp} {Q : VK} {E : XK} {a : Addr} {n b : Nat} {d z : Int} (r : RT K H a n b) (sd : Sm 1000 d) (sz : Sm 1000 z) (hz : z ≠ 0) (q1 : b = 0 → ∀ H', Same H H' → Q .non H')
  (q2 : b ≠ 0 → ∀ (x : Int) (H' : Hp), Same H H' → hold n b x = true → rankI n b x = wantedI n b d z → (∃ k q : Int, 0 ≤ k ∧ k < n ∧ x = q * n + k) → Sm 2700 x → Q (.int x) H') : sp_nth_day K T [.ref a, .int d, .int z] H Q E := ⟨a, n, b, d, z, rfl, r, sd, sz, fun h => absurd h hz, fun _ => q1, fun _ => q2⟩

/-! ### both -/
def sp_both (K : PySem.W.Frag) (T : Txt K mg) : Sp := fun vs H Q E => ∃ (a a2 : Addr) (n b m c : Nat), vs = [.ref a, .ref a2] ∧ RT K H a n b ∧ RT K H a2 m c ∧ (150000 < Nat.lcm n m → TL T.C_TooLong E H (Nat.lcm n m : Nat)) ∧
  (Nat.lcm n m ≤ 150000 → ∀ (p : Addr) (H' : Hp), Same H H' → RT K H' p (Nat.lcm n m) (bitsOf (Nat.lcm n m) (fun d => hold n b d && hold m c d)) → Q (.ref p) H')
theorem ok_both (T : Txt K mg) : FnOk P w K mg base (L2.CX P w) 5 T.a_both T.fd_both ["one", "other"] (sp_both K T) := by
  refine T.F_both.okX sc_both (fun vs H Q E h => ?_) (fun cdv A outer s H vs Q E hr h => ?_)
  · obtain ⟨_, _, _, _, _, _, rfl, _⟩ := h; rfl
  · obtain ⟨a, a2, n, b, m, c, rfl, r, r2, q1, q⟩ := h
    have hu := hr.units
    have hL1 := lcm1 r.n1 r2.n1
    refine ⟨_, (pss_cons (ps_set (i := 2) sc_both.nd rfl (Or.inl rfl) (pe_callS (ok_common_size T) (hr.mono (by decide)) (by rfl) T.g_common_size T.F_common_size.kp T.b_common_size (fun σ => passAt (takes_of rfl rfl rfl rfl) σ) (pa_cons (pv 0) (pa_cons (pv 1) pa_nil))))
        (pss_one (ps_ret (pe_tup (pa_cons (pv 2) (pa_cons (pe_op op_and (pe_ix (kb_ix K) (pe_callS (ok_stretched T) (hr.mono (by decide)) (by rfl) T.g_stretched T.F_stretched.kp T.b_stretched (fun σ => passAt (takes_of rfl rfl rfl rfl) σ) (pa_cons (pv 0) (pa_cons (pv 2) pa_nil))) pe_int (fun _ _ => rfl)) (pe_ix (kb_ix K) (pe_callS (ok_stretched T) (hr.mono (by decide)) (by rfl) T.g_stretched T.F_stretched.kp T.b_stretched (fun σ => passAt (takes_of rfl rfl rfl rfl) σ) (pa_cons (pv 1) (pa_cons (pv 2) pa_nil))) pe_int (fun _ _ => rfl))) pa_nil)))))), ?_⟩
    walk_at "go"
    refine k_common_size_x r r2 q1 fun hL => ?_
    have q := q hL
    walk_at "go"
    refine k_stretched r (Nat.dvd_lcm_left n m) hL1 hL fun p1 H1 s1 t1 => ?_
    walk_at "go"
    refine k_stretched (r2.mono s1) (Nat.dvd_lcm_right n m) hL1 hL fun p2 H2 s2 t2 => ?_
    walk_at "go"
    rename_i p H' _ s3 t3
    rw [both_bits] at t3
    exact q p H' ((s1.trans s2).trans s3) ⟨SqT.of t3, hL1, hL, bitsOf_lt _ _⟩
theorem k_both_x {T : Txt K mg} {H : Hp} {Q : VK} {E : XK} {a a2 : Addr} {n b m c : Nat} (r : RT K H a n b) (r2 : RT K H a2 m c) (q1 : 150000 < Nat.lcm n m → TL T.C_TooLong E H (Nat.lcm n m : Nat))
    (q : Nat.lcm n m ≤ 150000 → ∀ (p : Addr) (H' : Hp), Same H H' → RT K H' p (Nat.lcm n m) (bitsOf (Nat.lcm n m) (fun d => hold n b d && hold m c d)) → Q (.ref p) H') : sp_both K T [.ref a, .ref a2] H Q E := ⟨a, a2, n, b, m, c, rfl, r, r2, q1, q⟩
theorem k_both {T : Txt K mg} {H : Hp} {Q : VK} {E : XK} {a a2 : Addr} {n b m c : Nat} (r : RT K H a n b) (r2 : RT K H a2 m c) (hL : Nat.lcm n m ≤ 150000)
    (q : ∀ (p : Addr) (H' : Hp), Same H H' → RT K H' p (Nat.lcm n m) (bitsOf (Nat.lcm n m) (fun d => hold n b d && hold m c d)) → Q (.ref p) H') : sp_both K T [.ref a, .ref a2] H Q E := ⟨a, a2, n, b, m, c, rfl, r, r2, fun h => absurd h (by omega), fun _ => q⟩

/-! ### either -/
def sp_either (K : PySem.W.Frag) (T : Txt K mg) : Sp := fun vs H Q E => ∃ (a a2 : Addr) (n b m c : Nat), vs = [.ref a, .ref a2] ∧ RT K H a n b ∧ RT K H a2 m c ∧ (150000 < Nat.lcm n m → TL T.C_TooLong E H (Nat.lcm n m : Nat)) ∧
  (Nat.lcm n m ≤ 150000 → ∀ (p : Addr) (H' : Hp), Same H H' → RT K H' p (Nat.lcm n m) (bitsOf (Nat.lcm n m) (fun d => hold n b d || hold m c d)) → Q (.ref p) H')
theorem ok_either (T : Txt K mg) : FnOk P w K mg base (L2.CX P w) 5 T.a_either T.fd_either ["one", "other"] (sp_either K T) := by
  refine T.F_either.okX sc_either (fun vs H Q E h => ?_) (fun cdv A outer s H vs Q E hr h => ?_)
  · obtain ⟨_, _, _, _, _, _, rfl, _⟩ := h; rfl
  · obtain ⟨a, a2, n, b, m, c, rfl, r, r2, q1, q⟩ := h
    have hu := hr.units
    have hL1 := lcm1 r.n1 r2.n1
    refine ⟨_, (pss_cons (ps_set (i := 2) sc_either.nd rfl (Or.inl rfl) (pe_callS (ok_common_size T) (hr.mono (by decide)) (by rfl) T.g_common_size T.F_common_size.kp T.b_common_size (fun σ => passAt (takes_of rfl rfl rfl rfl) σ) (pa_cons (pv 0) (pa_cons (pv 1) pa_nil))))
        (pss_one (ps_ret (pe_tup (pa_cons (pv 2) (pa_cons (pe_op op_or (pe_ix (kb_ix K) (pe_callS (ok_stretched T) (hr.mono (by decide)) (by rfl) T.g_stretched T.F_stretched.kp T.b_stretched (fun σ => passAt (takes_of rfl rfl rfl rfl) σ) (pa_cons (pv 0) (pa_cons (pv 2) pa_nil))) pe_int (fun _ _ => rfl)) (pe_ix (kb_ix K) (pe_callS (ok_stretched T) (hr.mono (by decide)) (by rfl) T.g_stretched T.F_stretched.kp T.b_stretched (fun σ => passAt (takes_of rfl rfl rfl rfl) σ) (pa_cons (pv 1) (pa_cons (pv 2) pa_nil))) pe_int (fun _ _ => rfl))) pa_nil)))))), ?_⟩
    walk_at "go"
    refine k_common_size_x r r2 q1 fun hL => ?_
    have q := q hL
    walk_at "go"
    refine k_stretched r (Nat.dvd_lcm_left n m) hL1 hL fun p1 H1 s1 t1 => ?_
    walk_at "go"
    refine k_stretched (r2.mono s1) (Nat.dvd_lcm_right n m) hL1 hL fun p2 H2 s2 t2 => ?_
    walk_at "go"
    rename_i p H' _ s3 t3
    rw [either_bits] at t3
    exact q p H' ((s1.trans s2).trans s3) ⟨SqT.of t3, hL1, hL, bitsOf_lt _ _⟩
theorem k_either_x {T : Txt K mg} {H : Hp} {Q : VK} {E : XK} {a a2 : Addr} {n b m c : Nat} (r : RT K H a n b) (r2 : RT K H a2 m c) (q1 : 150000 < Nat.lcm n m → TL T.C_TooLong E H (Nat.lcm n m : Nat))
    (q : Nat.lcm n m ≤ 150000 → ∀ (p : Addr) (H' : Hp), Same H H' → RT K H' p (Nat.lcm n m) (bitsOf (Nat.lcm n m) (fun d => hold n b d || hold m c d)) → Q (.ref p) H') : sp_either K T [.ref a, .ref a2] H Q E := ⟨a, a2, n, b, m, c, rfl, r, r2, q1, q⟩
theorem k_either {T : Txt K mg} {H : Hp} {Q : VK} {E : XK} {a a2 : Addr} {n b m c : Nat} (r : RT K H a n b) (r2 : RT K H a2 m c) (hL : Nat.lcm n m ≤ 150000)
    (q : ∀ (p : Addr) (H' : Hp), Same H H' → RT K H' p (Nat.lcm n m) (bitsOf (Nat.lcm n m) (fun d => hold n b d || hold m c d)) → Q (.ref p) H') : sp_either K T [.ref a, .ref a2] H Q E := ⟨a, a2, n, b, m, c, rfl, r, r2, fun h => absurd h (by omega), fun _ => q⟩

/-! ### unlike -/
def sp_unlike (K : PySem.W.Frag) (T : Txt K mg) : Sp := fun vs H Q E => ∃ (a a2 : Addr) (n b m c : Nat), vs = [.ref a, .ref a2] ∧ RT K H a n b ∧ RT K H a2 m c ∧ (150000 < Nat.lcm n m → TL T.C_TooLong E H (Nat.lcm n m : Nat)) ∧
  (Nat.lcm n m ≤ 150000 → ∀ (p : Addr) (H' : Hp), Same H H' → RT K H' p (Nat.lcm n m) (bitsOf (Nat.lcm n m) (fun d => hold n b d != hold m c d)) → Q (.ref p) H')
theorem ok_unlike (T : Txt K mg) : FnOk P w K mg base (L2.CX P w) 5 T.a_unlike T.fd_unlike ["one", "other"] (sp_unlike K T) := by
  refine T.F_unlike.okX sc_unlike (fun vs H Q E h => ?_) (fun cdv A outer s H vs Q E hr h => ?_)
  · obtain ⟨_, _, _, _, _, _, rfl, _⟩ := h; rfl
  · obtain ⟨a, a2, n, b, m, c, rfl, r, r2, q1, q⟩ := h
    have hu := hr.units
    have hL1 := lcm1 r.n1 r2.n1
    refine ⟨_, (pss_cons (ps_set (i := 2) sc_unlike.nd rfl (Or.inl rfl) (pe_callS (ok_common_size T) (hr.mono (by decide)) (by rfl) T.g_common_size T.F_common_size.kp T.b_common_size (fun σ => passAt (takes_of rfl rfl rfl rfl) σ) (pa_cons (pv 0) (pa_cons (pv 1) pa_nil))))
        (pss_one (ps_ret (pe_tup (pa_cons (pv 2) (pa_cons (pe_op op_xor (pe_ix (kb_ix K) (pe_callS (ok_stretched T) (hr.mono (by decide)) (by rfl) T.g_stretched T.F_stretched.kp T.b_stretched (fun σ => passAt (takes_of rfl rfl rfl rfl) σ) (pa_cons (pv 0) (pa_cons (pv 2) pa_nil))) pe_int (fun _ _ => rfl)) (pe_ix (kb_ix K) (pe_callS (ok_stretched T) (hr.mono (by decide)) (by rfl) T.g_stretched T.F_stretched.kp T.b_stretched (fun σ => passAt (takes_of rfl rfl rfl rfl) σ) (pa_cons (pv 1) (pa_cons (pv 2) pa_nil))) pe_int (fun _ _ => rfl))) pa_nil)))))), ?_⟩
    walk_at "go"
    refine k_common_size_x r r2 q1 fun hL => ?_
    have q := q hL
    walk_at "go"
    refine k_stretched r (Nat.dvd_lcm_left n m) hL1 hL fun p1 H1 s1 t1 => ?_
    walk_at "go"
    refine k_stretched (r2.mono s1) (Nat.dvd_lcm_right n m) hL1 hL fun p2 H2 s2 t2 => ?_
    walk_at "go"
    rename_i p H' _ s3 t3
    rw [unlike_bits] at t3
    exact q p H' ((s1.trans s2).trans s3) ⟨SqT.of t3, hL1, hL, bitsOf_lt _ _⟩
theorem k_unlike_x {T : Txt K mg} {H : Hp} {Q : VK} {E : XK} {a a2 : Addr} {n b m c : Nat} (r : RT K H a n b) (r2 : RT K H a2 m c) (q1 : 150000 < Nat.lcm n m → TL T.C_TooLong E H (Nat.lcm n m : Nat))
    (q : Nat.lcm n m ≤ 150000 → ∀ (p : Addr) (H' : Hp), Same H H' → RT K H' p (Nat.lcm n m) (bitsOf (Nat.lcm n m) (fun d => hold n b d != hold m c d)) → Q (.ref p) H') : sp_unlike K T [.ref a, .ref a2] H Q E := ⟨a, a2, n, b, m, c, rfl, r, r2, q1, q⟩
theorem k_unlike {T : Txt K mg} {H : Hp} {Q : VK} {E : XK} {a a2 : Addr} {n b m c : Nat} (r : RT K H a n b) (r2 : RT K H a2 m c) (hL : Nat.lcm n m ≤ 150000)
    (q : ∀ (p : Addr) (H' : Hp), Same H H' → RT K H' p (Nat.lcm n m) (bitsOf (Nat.lcm n m) (fun d => hold n b d != hold m c d)) → Q (.ref p) H') : sp_unlike K T [.ref a, .ref a2] H Q E := ⟨a, a2, n, b, m, c, rfl, r, r2, fun h => absurd h (by omega), fun _ => q⟩

/-! ### _law_asked -/
def sp_Lasked (K : PySem.W.Frag) (T : Txt K mg) : Sp := fun vs H Q E => ∃ (y i : Int) (a a2 a3 : Addr) (n b n2 b2 n3 b3 : Nat), vs = [.int y, .ref a, .int i, .ref a2, .ref a3] ∧ 0 ≤ y ∧ RT K H a n b ∧ RT K H a2 n2 b2 ∧ RT K H a3 n3 b3 ∧ Sm 1000 i ∧
  (due10 y i n n2 n3 = some none → ∀ H', Same H H' → E (.ref T.C_NoNumber) none H') ∧ (∀ m, due10 y i n n2 n3 = some (some m) → TL T.C_TooLong E H m) ∧ (due10 y i n n2 n3 = none → ∀ v H', Same H H' → Q v H')
theorem ok_Lasked (T : Txt K mg) : FnOk P w K mg base (L2.CX P w) 6 T.a_Lasked T.fd_Lasked ["_law_way", "_law_turn", "_law_size", "_law_one", "_law_other"] (sp_Lasked K T) := by
  refine T.F_Lasked.okX sc_Lasked (fun vs H Q E h => ?_) (fun cdv A outer s H vs Q E hr h => ?_)
  · obtain ⟨_, _, _, _, _, _, _, _, _, _, _, rfl, _⟩ := h; rfl
  · obtain ⟨y, i, a, a2, a3, n, b, n2, b2, n3, b3, rfl, hy0, r, r2, r3, si, q0, q1, q⟩ := h
    have hu := hr.units
    refine ⟨_, (pss_cons (ps_if (pt_cmpR (kb_eq K (hu := hu)) (pv 0) pe_int (nomark _)) (pss_one (ps_ret (pe_callS (ok_round_by T) (hr.mono (by decide)) (by rfl) T.g_round_by T.F_round_by.kp T.b_round_by (fun σ => passAt (takes_of rfl rfl rfl rfl) σ) (pa_cons (pv 2) (pa_cons (pe_lst (pa_cons pe_int pa_nil)) pa_nil))))) pss_nil)
        (pss_cons (ps_if (pt_cmpR (kb_eq K (hu := hu)) (pv 0) pe_int (nomark _)) (pss_one (ps_ret (pe_callS (ok_stretched T) (hr.mono (by decide)) (by rfl) T.g_stretched T.F_stretched.kp T.b_stretched (fun σ => passAt (takes_of rfl rfl rfl rfl) σ) (pa_cons (pv 1) (pa_cons (pv 2) pa_nil))))) pss_nil)
        (pss_cons (ps_if (pt_cmpR (kb_eq K (hu := hu)) (pv 0) pe_int (nomark _)) (pss_one (ps_ret (pe_callS (ok_folded T) (hr.mono (by decide)) (by rfl) T.g_folded T.F_folded.kp T.b_folded (fun σ => passAt (takes_of rfl rfl rfl rfl) σ) (pa_cons (pv 1) (pa_cons (pv 2) pa_nil))))) pss_nil)
        (pss_cons (ps_if (pt_cmpR (kb_eq K (hu := hu)) (pv 0) pe_int (nomark _)) (pss_one (ps_ret (pe_callS (ok_nth_day T) (hr.mono (by decide)) (by rfl) T.g_nth_day T.F_nth_day.kp T.b_nth_day (fun σ => passAt (takes_of rfl rfl rfl rfl) σ) (pa_cons (pv 1) (pa_cons pe_int (pa_cons (pv 2) pa_nil)))))) pss_nil)
        (pss_cons (ps_if (pt_cmpR (kb_eq K (hu := hu)) (pv 0) pe_int (nomark _)) (pss_one (ps_ret (pe_callS (ok_both T) (hr.mono (by decide)) (by rfl) T.g_both T.F_both.kp T.b_both (fun σ => passAt (takes_of rfl rfl rfl rfl) σ) (pa_cons (pv 3) (pa_cons (pv 4) pa_nil))))) pss_nil)
        (pss_cons (ps_if (pt_cmpR (kb_eq K (hu := hu)) (pv 0) pe_int (nomark _)) (pss_one (ps_ret (pe_callS (ok_either T) (hr.mono (by decide)) (by rfl) T.g_either T.F_either.kp T.b_either (fun σ => passAt (takes_of rfl rfl rfl rfl) σ) (pa_cons (pv 3) (pa_cons (pv 4) pa_nil))))) pss_nil)
        (pss_cons (ps_if (pt_cmpR (kb_eq K (hu := hu)) (pv 0) pe_int (nomark _)) (pss_one (ps_ret (pe_callS (ok_unlike T) (hr.mono (by decide)) (by rfl) T.g_unlike T.F_unlike.kp T.b_unlike (fun σ => passAt (takes_of rfl rfl rfl rfl) σ) (pa_cons (pv 3) (pa_cons (pv 4) pa_nil))))) pss_nil)
        (pss_one (ps_ret (pe_callS (ok_without T) (hr.mono (by decide)) (by rfl) T.g_without T.F_without.kp T.b_without (fun σ => passAt (takes_of rfl rfl rfl rfl) σ) (pa_cons (pv 3) (pa_cons (pv 4) pa_nil)))))))))))), ?_⟩
    with_reducible apply k_seqI
    walk_at "go"
    refine if_dec (fun hy => ?_) (fun hy => ?_)
    · walk_at "go"
      rename_i p H1 hn s1 t1
      refine k_round_by_x (l := [3]) (SqL.of t1) (fun h => q0 (due0a (by omega) h) _ s1) (fun h => (q1 _ (due0c (by omega) (by omega) (by omega) h)).mono s1) (fun m e h1 h2 p2 H2 b2 _ s2 _ _ => q (due0d (by omega) (by omega) (by omega) (by omega)) _ _ (s1.trans s2))
    walk_at "go"
    with_reducible apply k_seqI
    walk_at "go"
    refine if_dec (fun hy => ?_) (fun hy => ?_)
    · walk_at "go"
      refine k_stretched_x r (fun h => q0 ?_ _ (Same.refl _)) (fun h0 h => ?_) (fun m e h1 h2 h3 p H1 s1 t1 => q ?_ _ _ s1)
      · by_cases h1 : i < 1
        · exact due0a (by omega) h1
        · exact due0b (by omega) h1 (.inl ⟨by omega, by omega⟩)
      · exact q1 _ (due0c (by omega) (by omega) (by omega) h)
      · have : i % (n : Int) = 0 := by rw [e]; exact Int.emod_eq_zero_of_dvd (Int.natCast_dvd_natCast.mpr h1)
        exact due0d (by omega) (by omega) (by omega) (by omega)
    walk_at "go"
    with_reducible apply k_seqI
    walk_at "go"
    refine if_dec (fun hy => ?_) (fun hy => ?_)
    · walk_at "go"
      refine k_folded_x r (fun h => q0 ?_ _ (Same.refl _)) (fun m e h1 h2 p H1 s1 t1 => q ?_ _ _ s1)
      · by_cases h1 : i < 1
        · exact due0a (by omega) h1
        · exact due0b (by omega) h1 (.inr ⟨by omega, by omega⟩)
      · have : (n : Int) % i = 0 := by rw [e]; exact Int.emod_eq_zero_of_dvd (Int.natCast_dvd_natCast.mpr h2)
        have := Nat.le_of_dvd r.n1 h2
        have := r.n2
        exact due0d (by omega) (by omega) (by omega) (by omega)
    walk_at "go"
    with_reducible apply k_seqI
    walk_at "go"
    refine if_dec (fun hy => ?_) (fun hy => ?_)
    · walk_at "go"
      refine k_nth_day_x r ⟨by decide +kernel⟩ si (fun h => q0 (due3a hy h) _ (Same.refl _)) (fun h _ H1 s1 => q (due3b hy h) _ _ s1) (fun h _ x H1 s1 _ _ _ _ => q (due3b hy h) _ _ s1)
    walk_at "go"
    with_reducible apply k_seqI
    walk_at "go"
    refine if_dec (fun hy => ?_) (fun hy => ?_)
    · walk_at "go"
      refine k_both_x r2 r3 (fun h => q1 _ (due4a (by omega) h)) (fun h p H1 s1 _ => q (due4b (by omega) (by omega)) _ _ s1)
    walk_at "go"
    with_reducible apply k_seqI
    walk_at "go"
    refine if_dec (fun hy => ?_) (fun hy => ?_)
    · walk_at "go"
      refine k_either_x r2 r3 (fun h => q1 _ (due4a (by omega) h)) (fun h p H1 s1 _ => q (due4b (by omega) (by omega)) _ _ s1)
    walk_at "go"
    with_reducible apply k_seqI
    walk_at "go"
    refine if_dec (fun hy => ?_) (fun hy => ?_)
    · walk_at "go"
      refine k_unlike_x r2 r3 (fun h => q1 _ (due4a (by omega) h)) (fun h p H1 s1 _ => q (due4b (by omega) (by omega)) _ _ s1)
    walk_at "go"
    refine k_without_x r2 r3 (fun h => q1 _ (due4a (by omega) h)) (fun h p H1 s1 _ => q (due4b (by omega) (by omega)) _ _ s1)
theorem k_Lasked {T : Txt K mg} {H : Hp} {Q : VK} {E : XK} {y i : Int} {a a2 a3 : Addr} {n b n2 b2 n3 b3 : Nat} (hy0 : 0 ≤ y) (r : RT K H a n b) (r2 : RT K H a2 n2 b2) (r3 : RT K H a3 n3 b3) (si : Sm 1000 i)
    (q0 : due10 y i n n2 n3 = some none → ∀ H', Same H H' → E (.ref T.C_NoNumber) none H') (q1 : ∀ m, due10 y i n n2 n3 = some (some m) → TL T.C_TooLong E H m) (q : due10 y i n n2 n3 = none → ∀ v H', Same H H' → Q v H') :
    sp_Lasked K T [.int y, .ref a, .int i, .ref a2, .ref a3] H Q E := ⟨y, i, a, a2, a3, n, b, n2, b2, n3, b3, rfl, hy0, r, r2, r3, si, q0, q1, q⟩

/-! ### _law_told -/
def sp_Ltold (K : PySem.W.Frag) : Sp := fun vs H Q _ => ∃ (y i : Int) (a a2 a3 : Addr) (n b n2 b2 n3 b3 : Nat), vs = [.int y, .ref a, .int i, .ref a2, .ref a3] ∧ 0 ≤ y ∧ RT K H a n b ∧ RT K H a2 n2 b2 ∧ RT K H a3 n3 b3 ∧ Sm 1000 i ∧
  ∀ p H', Same H H' → SqT K H' p [(told10 (due10 y i n n2 n3)).1, .int (told10 (due10 y i n n2 n3)).2] → Q (.ref p) H'
theorem ok_Ltold (T : Txt K mg) : FnOk P w K mg base CX0 7 T.a_Ltold T.fd_Ltold ["_law_way", "_law_turn", "_law_size", "_law_one", "_law_other"] (sp_Ltold K) := by
  refine T.F_Ltold.ok sc_Ltold (fun vs H Q E h => ?_) (fun cdv A outer s H vs Q E hr h => ?_)
  · obtain ⟨_, _, _, _, _, _, _, _, _, _, _, rfl, _⟩ := h; rfl
  · obtain ⟨y, i, a, a2, a3, n, b, n2, b2, n3, b3, rfl, hy0, r, r2, r3, si, q⟩ := h
    have hu := hr.units
    refine ⟨_, (pss_cons (ps_set (i := 5) sc_Ltold.nd rfl (Or.inl rfl) (pe_tup (pa_cons pe_str (pa_cons pe_int pa_nil))))
        (pss_cons (ps_set (i := 6) sc_Ltold.nd rfl (Or.inl rfl) pe_bl)
        (pss_cons (ps_try_asN rfl rfl takes0 (fun W pn xe tk _ => (pss_one (ps_expr (pe_callS (ok_Lasked T) (hr.mono (by decide)) (by rfl) T.g_Lasked T.F_Lasked.kp T.b_Lasked (fun σ => passAt tk σ) (pa_cons (pv 0) (pa_cons (pv 1) (pa_cons (pv 2) (pa_cons (pv 3) (pa_cons (pv 4) pa_nil))))))))) (HasOk.cons (i := 7) sc_Ltold.nd rfl rfl ⟨rfl, by decide, .inl T.gc_NoNumber⟩ (fun a oe cls d pn hz hf => (pss_cons (ps_set (i := 5) sc_Ltold.nd rfl (Or.inl rfl) (pe_tup (pa_cons pe_str (pa_cons pe_int pa_nil))))
        (pss_one (ps_set (i := 6) sc_Ltold.nd rfl (Or.inl rfl) (pe_and (pe_callB (call_isC hz hf) (by rfl) T.n_isinstance (by decide +kernel) (pa_cons (pv 7) (pa_cons (pe_glob (v := .ref T.C_FeastError) rfl T.gc_FeastError rfl) pa_nil))) (pe_one (pe_not (pe_callB (call_isC hz hf) (by rfl) T.n_isinstance (by decide +kernel) (pa_cons (pv 7) (pa_cons (pe_glob (v := .ref T.C_TooLong) rfl T.gc_TooLong rfl) pa_nil)))))))))) (HasOk.cons (i := 7) sc_Ltold.nd rfl rfl ⟨rfl, by decide, .inl T.gc_TooLong⟩ (fun a oe cls d pn hz hf => (pss_cons (ps_set (i := 5) sc_Ltold.nd rfl (Or.inl rfl) (pe_tup (pa_cons pe_str (pa_cons (pe_xf T.xf_TooLong T.no_TooLong_needed hz hf (pv 7)) pa_nil))))
        (pss_one (ps_set (i := 6) sc_Ltold.nd rfl (Or.inl rfl) (pe_and (pe_callB (call_isC hz hf) (by rfl) T.n_isinstance (by decide +kernel) (pa_cons (pv 7) (pa_cons (pe_glob (v := .ref T.C_FeastError) rfl T.gc_FeastError rfl) pa_nil))) (pe_one (pe_not (pe_callB (call_isC hz hf) (by rfl) T.n_isinstance (by decide +kernel) (pa_cons (pv 7) (pa_cons (pe_glob (v := .ref T.C_NoNumber) rfl T.gc_NoNumber rfl) pa_nil)))))))))) HasOk.nil)))
        (pss_cons (ps_if (pt_not (pt_val (pv 6))) (pss_one (ps_ret (pe_tup (pa_cons pe_str (pa_cons pe_int pa_nil))))) pss_nil)
        (pss_one (ps_ret (pv 5))))))), ?_⟩
    walk_at "go"
    rename_i p0 H0 hn0 s0 t0
    with_reducible apply k_seq
    show tDrop _ _ _ _
    walk_at "go"
    refine k_Lasked hy0 (r.mono s0) (r2.mono s0) (r3.mono s0) si (fun hd H1 s1 => ?_) (fun m hd d H1 s1 e1 => ?_) (fun hd v H1 s1 => ?_)
    · refine ⟨true, exm_of T.bc_NoNumber T.ic_NoNumber T.tc_NoNumber T.sc_NoNumber, fun _ a0 _ => ?_, fun q => Bool.noConfusion q⟩
      walk_at "go"
      refine k_isX T.xc_NoNumber (.inl rfl) (fun _ h => h) (kit_of T.ic_FeastError T.tc_FeastError T.sc_FeastError T.sb_NoNumber_FeastError) ?_
      refine ⟨true, rfl, ?_⟩
      walk_at "go"
      refine k_isX T.xc_NoNumber (.inl rfl) (fun _ h => h) (kit_of T.ic_TooLong T.tc_TooLong T.sc_TooLong T.sb_NoNumber_TooLong) ?_
      walk_at "run"
      rename_i p1 H2 hn2 s2 t2
      rw [if_neg (by decide)]
      walk_at "go"
      exact q p1 H2 ((s0.trans s1).trans s2) (by rw [hd]; exact SqT.of t2)
    · refine ⟨false, exm_of T.bc_NoNumber T.ic_NoNumber T.tc_NoNumber T.sb_TooLong_NoNumber, fun q => Bool.noConfusion q, fun _ => ?_⟩
      refine ⟨true, exm_of T.bc_TooLong T.ic_TooLong T.tc_TooLong T.sc_TooLong, fun _ a0 _ => ?_, fun q => Bool.noConfusion q⟩
      walk_at "go"
      refine k_xf ?_
      walk_at "go"
      refine ⟨rfl, rfl, d, _, _, rfl, e1, rfl, ?_⟩
      walk_at "go"
      rename_i p1 H2 hn2 s2 t2
      refine k_isX T.xc_TooLong (.inr ⟨_, [("needed", .int m)], rfl, s2 _ _ e1⟩) (fun _ h => h) (kit_of T.ic_FeastError T.tc_FeastError T.sc_FeastError T.sb_TooLong_FeastError) ?_
      refine ⟨true, rfl, ?_⟩
      walk_at "go"
      refine k_isX T.xc_TooLong (.inr ⟨_, [("needed", .int m)], rfl, s2 _ _ e1⟩) (fun _ h => h) (kit_of T.ic_NoNumber T.tc_NoNumber T.sc_NoNumber T.sb_TooLong_NoNumber) ?_
      walk_at "run"
      rw [if_neg (by decide)]
      walk_at "go"
      exact q p1 H2 ((s0.trans s1).trans s2) (by rw [hd]; exact SqT.of t2)
    · walk_at "run"
      have := q p0 H1 (s0.trans s1) (by rw [hd]; exact SqT.of (s1 _ _ t0))
      exact this
theorem k_Ltold {K : PySem.W.Frag} {H : Hp} {Q : VK} {E : XK} {y i : Int} {a a2 a3 : Addr} {n b n2 b2 n3 b3 : Nat} (hy0 : 0 ≤ y) (r : RT K H a n b) (r2 : RT K H a2 n2 b2) (r3 : RT K H a3 n3 b3) (si : Sm 1000 i)
    (q : ∀ p H', Same H H' → SqT K H' p [(told10 (due10 y i n n2 n3)).1, .int (told10 (due10 y i n n2 n3)).2] → Q (.ref p) H') : sp_Ltold K [.int y, .ref a, .int i, .ref a2, .ref a3] H Q E := ⟨y, i, a, a2, a3, n, b, n2, b2, n3, b3, rfl, hy0, r, r2, r3, si, q⟩

/-! ### _law_refused_by_any -/
def sp_Lrefused_by_any (K : PySem.W.Frag) : Sp := fun vs H Q _ => ∃ (y i : Int) (a a2 a3 : Addr) (n b n2 b2 n3 b3 : Nat), vs = [.int y, .ref a, .int i, .ref a2, .ref a3] ∧ 0 ≤ y ∧ RT K H a n b ∧ RT K H a2 n2 b2 ∧ RT K H a3 n3 b3 ∧ Sm 1000 i ∧
  ∀ H', Same H H' → Q (.bl (due10 y i n n2 n3).isSome) H'
theorem ok_Lrefused_by_any (T : Txt K mg) : FnOk P w K mg base CX0 7 T.a_Lrefused_by_any T.fd_Lrefused_by_any ["_law_way", "_law_turn", "_law_size", "_law_one", "_law_other"] (sp_Lrefused_by_any K) := by
  refine T.F_Lrefused_by_any.ok sc_Lrefused_by_any (fun vs H Q E h => ?_) (fun cdv A outer s H vs Q E hr h => ?_)
  · obtain ⟨_, _, _, _, _, _, _, _, _, _, _, rfl, _⟩ := h; rfl
  · obtain ⟨y, i, a, a2, a3, n, b, n2, b2, n3, b3, rfl, hy0, r, r2, r3, si, q⟩ := h
    have hu := hr.units
    refine ⟨_, (pss_cons (ps_set (i := 5) sc_Lrefused_by_any.nd rfl (Or.inl rfl) pe_bl)
        (pss_cons (ps_try_as (i := 6) rfl rfl sc_Lrefused_by_any.nd rfl rfl ⟨rfl, by decide, .inl T.gc_FeastError⟩ takes0 (fun W pn xe tk _ => (pss_one (ps_expr (pe_callS (ok_Lasked T) (hr.mono (by decide)) (by rfl) T.g_Lasked T.F_Lasked.kp T.b_Lasked (fun σ => passAt tk σ) (pa_cons (pv 0) (pa_cons (pv 1) (pa_cons (pv 2) (pa_cons (pv 3) (pa_cons (pv 4) pa_nil))))))))) (fun a oe cls d pn hz hf => (pss_one (ps_set (i := 5) sc_Lrefused_by_any.nd rfl (Or.inl rfl) (pe_callB (call_isC hz hf) (by rfl) T.n_isinstance (by decide +kernel) (pa_cons (pv 6) (pa_cons (pe_bltn (v := .ty "ValueError") (by rfl) T.n_ValueError (by decide +kernel) rfl) pa_nil)))))))
        (pss_one (ps_ret (pv 5))))), ?_⟩
    walk_at "go"
    with_reducible apply k_seq
    show tDrop _ _ _ _
    walk_at "go"
    refine k_Lasked hy0 r r2 r3 si (fun hd H1 s1 => ?_) (fun m hd d H1 s1 e1 => ?_) (fun hd v H1 s1 => ?_)
    · refine ⟨true, exm_of T.bc_FeastError T.ic_FeastError T.tc_FeastError T.sb_NoNumber_FeastError, fun _ a0 _ => ?_, fun q => Bool.noConfusion q⟩
      walk_at "go"
      refine k_isX T.xc_NoNumber (.inl rfl) (fun _ h => h) (kit_ve T.sv_NoNumber) ?_
      walk_at "go"
      have := q _ s1
      rw [hd] at this
      exact this
    · refine ⟨true, exm_of T.bc_FeastError T.ic_FeastError T.tc_FeastError T.sb_TooLong_FeastError, fun _ a0 _ => ?_, fun q => Bool.noConfusion q⟩
      walk_at "go"
      refine k_isX T.xc_TooLong (.inr ⟨_, _, rfl, e1⟩) (fun _ h => h) (kit_ve T.sv_TooLong) ?_
      walk_at "go"
      have := q _ s1
      rw [hd] at this
      exact this
    · walk_at "go"
      have := q _ s1
      rw [hd] at this
      exact this
theorem k_Lrefused_by_any {K : PySem.W.Frag} {H : Hp} {Q : VK} {E : XK} {y i : Int} {a a2 a3 : Addr} {n b n2 b2 n3 b3 : Nat} (hy0 : 0 ≤ y) (r : RT K H a n b) (r2 : RT K H a2 n2 b2) (r3 : RT K H a3 n3 b3) (si : Sm 1000 i)
    (q : ∀ H', Same H H' → Q (.bl (due10 y i n n2 n3).isSome) H') : sp_Lrefused_by_any K [.int y, .ref a, .int i, .ref a2, .ref a3] H Q E := ⟨y, i, a, a2, a3, n, b, n2, b2, n3, b3, rfl, hy0, r, r2, r3, si, q⟩

/-! ### law -/
def sp_law (K : PySem.W.Frag) : Sp := fun vs H Q _ => ∃ (a : Addr) (ns : List Int), vs = [.ref a] ∧ SqL K H a (ns.map V.int) ∧ ns.length ≤ 63 ∧ (∀ z ∈ ns, Builtin.Int.intBits z ≤ 1048576) ∧ ∀ H', Q (.bl true) H'
set_option pp.maxSteps 400 in
theorem ok_law (T : Txt K mg) : FnOk P w K mg base CX0 8 T.a_law T.fd_law ["_law_script"] (sp_law K) := by
  refine T.F_law.ok sc_law (fun vs H Q E h => ?_) (fun cdv A outer s H vs Q E hr h => ?_)
  · obtain ⟨_, _, rfl, _⟩ := h; rfl
  · obtain ⟨a, ns, rfl, hS, hl, hb, q⟩ := h
    have hu := hr.units
    refine ⟨_, (pss_cons (ps_set (i := 1) sc_law.nd rfl (Or.inl rfl) (pe_op op_mod (pe_call (ok_Lcell_at T) (hr.mono (by decide)) (by rfl) T.g_Lcell_at T.F_Lcell_at.kp T.b_Lcell_at .nil pass0 (pa_cons (pv 0) (pa_cons pe_int pa_nil))) pe_int))
        (pss_cons (ps_set (i := 2) sc_law.nd rfl (Or.inl rfl) (pe_tup (pa_cons (pe_op op_addA pe_int (pe_op op_mod (pe_call (ok_Lcell_at T) (hr.mono (by decide)) (by rfl) T.g_Lcell_at T.F_Lcell_at.kp T.b_Lcell_at .nil pass0 (pa_cons (pv 0) (pa_cons pe_int pa_nil))) pe_int)) (pa_cons (pe_op op_mod (pe_call (ok_Lcell_at T) (hr.mono (by decide)) (by rfl) T.g_Lcell_at T.F_Lcell_at.kp T.b_Lcell_at .nil pass0 (pa_cons (pv 0) (pa_cons pe_int pa_nil))) pe_int) pa_nil))))
        (pss_cons (ps_set (i := 3) sc_law.nd rfl (Or.inl rfl) (pe_op op_sub (pe_op op_mod (pe_call (ok_Lcell_at T) (hr.mono (by decide)) (by rfl) T.g_Lcell_at T.F_Lcell_at.kp T.b_Lcell_at .nil pass0 (pa_cons (pv 0) (pa_cons pe_int pa_nil))) (pe_powc (n := 10000000000000000000000000000000000000000) (by decide +kernel))) (pe_powc (n := 1000000000000000000000000000000000000000) (by decide +kernel))))
        (pss_cons (ps_if (pt_cmpR (kb_eq K (hu := hu)) (pe_op op_mod (pe_call (ok_Lcell_at T) (hr.mono (by decide)) (by rfl) T.g_Lcell_at T.F_Lcell_at.kp T.b_Lcell_at .nil pass0 (pa_cons (pv 0) (pa_cons pe_int pa_nil))) pe_int) pe_int (nomark _)) (pss_one (ps_set (i := 3) sc_law.nd rfl (Or.inl rfl) pe_int)) pss_nil)
        (pss_cons (ps_if (pt_cmpR (kb_eq K (hu := hu)) (pe_op op_mod (pe_call (ok_Lcell_at T) (hr.mono (by decide)) (by rfl) T.g_Lcell_at T.F_Lcell_at.kp T.b_Lcell_at .nil pass0 (pa_cons (pv 0) (pa_cons pe_int pa_nil))) pe_int) pe_int (nomark _)) (pss_one (ps_set (i := 3) sc_law.nd rfl (Or.inl rfl) (pe_op op_mod (pv 3) pe_int))) pss_nil)
        (pss_cons (ps_if (pt_cmpR (kb_eq K (hu := hu)) (pe_op op_mod (pe_call (ok_Lcell_at T) (hr.mono (by decide)) (by rfl) T.g_Lcell_at T.F_Lcell_at.kp T.b_Lcell_at .nil pass0 (pa_cons (pv 0) (pa_cons pe_int pa_nil))) pe_int) pe_int (nomark _)) (pss_one (ps_set (i := 3) sc_law.nd rfl (Or.inl rfl) (pe_op op_mulX (pe_ix (kb_ix K) (pv 2) pe_int (fun _ _ => rfl)) (pe_op op_sub (pe_op op_mod (pv 3) pe_int) pe_int)))) pss_nil)
        (pss_cons (ps_if (pt_cmpR (kb_eq K (hu := hu)) (pe_op op_mod (pe_call (ok_Lcell_at T) (hr.mono (by decide)) (by rfl) T.g_Lcell_at T.F_Lcell_at.kp T.b_Lcell_at .nil pass0 (pa_cons (pv 0) (pa_cons pe_int pa_nil))) pe_int) pe_int (nomark _)) (pss_one (ps_set (i := 3) sc_law.nd rfl (Or.inl rfl) (pe_op op_addA pe_int (pe_op op_mod (pv 3) pe_int)))) pss_nil)
        (pss_cons (ps_set (i := 4) sc_law.nd rfl (Or.inl rfl) (pe_tup (pa_cons (pe_op op_addA pe_int (pe_op op_mod (pe_call (ok_Lcell_at T) (hr.mono (by decide)) (by rfl) T.g_Lcell_at T.F_Lcell_at.kp T.b_Lcell_at .nil pass0 (pa_cons (pv 0) (pa_cons pe_int pa_nil))) pe_int)) (pa_cons (pe_op op_mod (pe_call (ok_Lcell_at T) (hr.mono (by decide)) (by rfl) T.g_Lcell_at T.F_Lcell_at.kp T.b_Lcell_at .nil pass0 (pa_cons (pv 0) (pa_cons pe_int pa_nil))) pe_int) pa_nil))))
        (pss_cons (ps_set (i := 5) sc_law.nd rfl (Or.inl rfl) (pe_tup (pa_cons (pe_op op_addA pe_int (pe_op op_mod (pe_call (ok_Lcell_at T) (hr.mono (by decide)) (by rfl) T.g_Lcell_at T.F_Lcell_at.kp T.b_Lcell_at .nil pass0 (pa_cons (pv 0) (pa_cons pe_int pa_nil))) pe_int)) (pa_cons pe_int pa_nil))))
        (pss_cons (ps_if (pt_cmpR (kb_eq K (hu := hu)) (pe_op op_mod (pe_call (ok_Lcell_at T) (hr.mono (by decide)) (by rfl) T.g_Lcell_at T.F_Lcell_at.kp T.b_Lcell_at .nil pass0 (pa_cons (pv 0) (pa_cons pe_int pa_nil))) pe_int) pe_int (nomark _)) (pss_cons (ps_set (i := 4) sc_law.nd rfl (Or.inl rfl) (pe_tup (pa_cons (pe_op op_addA pe_int (pe_op op_mod (pe_ix (kb_ix K) (pv 4) pe_int (fun _ _ => rfl)) pe_int)) (pa_cons (pe_ix (kb_ix K) (pv 4) pe_int (fun _ _ => rfl)) pa_nil))))
        (pss_one (ps_set (i := 5) sc_law.nd rfl (Or.inl rfl) (pe_tup (pa_cons (pe_op op_addA pe_int (pe_op op_mod (pe_ix (kb_ix K) (pv 5) pe_int (fun _ _ => rfl)) pe_int)) (pa_cons pe_int pa_nil)))))) pss_nil)
        (pss_cons (ps_set (i := 6) sc_law.nd rfl (Or.inl rfl) (pe_call (ok_Ldue T) (hr.mono (by decide)) (by rfl) T.g_Ldue T.F_Ldue.kp T.b_Ldue .nil pass0 (pa_cons (pv 1) (pa_cons (pv 2) (pa_cons (pv 3) (pa_cons (pv 4) (pa_cons (pv 5) pa_nil)))))))
        (pss_cons (ps_if (pt_cmpR (kb_ne K (hu := hu)) (pe_call (ok_Ltold T) (hr.mono (by decide)) (by rfl) T.g_Ltold T.F_Ltold.kp T.b_Ltold .nil pass0 (pa_cons (pv 1) (pa_cons (pv 2) (pa_cons (pv 3) (pa_cons (pv 4) (pa_cons (pv 5) pa_nil)))))) (pv 6) (nomark _)) (pss_one (ps_ret pe_bl)) pss_nil)
        (pss_one (ps_ret (pe_cmpR (kb_eq K (hu := hu)) (pe_call (ok_Lrefused_by_any T) (hr.mono (by decide)) (by rfl) T.g_Lrefused_by_any T.F_Lrefused_by_any.kp T.b_Lrefused_by_any .nil pass0 (pa_cons (pv 1) (pa_cons (pv 2) (pa_cons (pv 3) (pa_cons (pv 4) (pa_cons (pv 5) pa_nil)))))) (pe_cmpR (kb_ne K (hu := hu)) (pe_ix (kb_ix K) (pv 6) pe_int (fun _ _ => rfl)) pe_str (nomark _)) (nomark _)))))))))))))))), ?_⟩
    walk_at "go"
    rename_i c0 _ _ c1 _ _ c2 _ _ p1 H1 hn1 s1 t1 c3 _ _
    have rt1 : RT K H1 p1 (1 + c1 % 60).toNat (c2 % 2).toNat := rt_two t1 (by omega) (by omega) (by omega) (by omega)
    have ht1 := rt1.t
    have hn1' := rt1.n1
    have hn60 : (1 + c1 % 60).toNat ≤ 60 := by omega
    generalize (1 + c1 % 60).toNat = n at *
    generalize (c2 % 2).toNat = b at *
    have hS1 := same_l s1 hS
    have s0 : Sm 1000 (c3 % 10000000000000000000000000000000000000000 - 1000000000000000000000000000000000000000) := sm_mono (sm41 (by omega) (by omega)) (by decide)
    generalize c3 % 10000000000000000000000000000000000000000 - 1000000000000000000000000000000000000000 = i0 at *
    with_reducible refine k_cutI (fun σ' H' => ∃ i : Int, σ' = [some (.ref a), some (.int (c0 % 8)), some (.ref p1), some (.int i), none, none, none] ∧ H1 = H' ∧ Sm 1000 i) (fun N hN => ?_) ?_
    · walk_at "go"; walk_at "br"
      all_goals (walk_at "go"; exact hN _ _ ⟨_, rfl, rfl, by first | exact s0 | exact ⟨by decide⟩⟩)
    rintro _ _ ⟨i, rfl, rfl, si⟩
    with_reducible refine k_cutI (fun σ' H' => ∃ i : Int, σ' = [some (.ref a), some (.int (c0 % 8)), some (.ref p1), some (.int i), none, none, none] ∧ H1 = H' ∧ Sm 1000 i) (fun N hN => ?_) ?_
    · walk_at "go"; walk_at "br"
      all_goals (walk_at "go"; exact hN _ _ ⟨_, rfl, rfl, by first | exact si | exact sm_mono (sm41 (by omega) (by omega)) (by decide)⟩)
    rintro _ _ ⟨i, rfl, rfl, si⟩
    with_reducible refine k_cutI (fun σ' H' => ∃ i : Int, σ' = [some (.ref a), some (.int (c0 % 8)), some (.ref p1), some (.int i), none, none, none] ∧ H1 = H' ∧ Sm 1000 i) (fun N hN => ?_) ?_
    · walk_at "go"; walk_at "br"
      all_goals (walk_at "go"; exact hN _ _ ⟨_, rfl, rfl, by first | exact si | exact sm_mono (sm41 (by have := mul_bd2 (x := (n : Int)) (k := i % 1000 - 99) (X := 60) (Y := 1000) (by omega) (by omega) (by omega) (by omega); omega) (by have := mul_bd2 (x := (n : Int)) (k := i % 1000 - 99) (X := 60) (Y := 1000) (by omega) (by omega) (by omega) (by omega); omega)) (by decide)⟩)
    rintro _ _ ⟨i, rfl, rfl, si⟩
    with_reducible refine k_cutI (fun σ' H' => ∃ i : Int, σ' = [some (.ref a), some (.int (c0 % 8)), some (.ref p1), some (.int i), none, none, none] ∧ H1 = H' ∧ Sm 1000 i) (fun N hN => ?_) ?_
    · walk_at "go"; walk_at "br"
      all_goals (walk_at "go"; exact hN _ _ ⟨_, rfl, rfl, by first | exact si | exact sm_mono (sm41 (by omega) (by omega)) (by decide)⟩)
    rintro _ _ ⟨i, rfl, rfl, si⟩
    walk_at "go"
    rename_i c5 _ _ c6 _ _ p4 H4 hn4 s4 t4 c7 _ _ p5 H5 hn5 s5 t5
    have rt4 := (rt_two (K := K) t4 (by omega) (by omega) (by omega) (by omega)).mono s5
    have rt5 := rt_two (K := K) t5 (by omega) (by omega) (by omega) (by omega)
    have hS5 := same_l s5 (same_l s4 hS1)
    have t4' := SqT.of (s5 _ _ t4) (K := K)
    have t5' := SqT.of t5 (K := K)
    with_reducible refine k_cutI (fun σ' H' => ∃ (p6 p7 : Addr) (n2 b2 n3 b3 : Nat), σ' = [some (.ref a), some (.int (c0 % 8)), some (.ref p1), some (.int i), some (.ref p6), some (.ref p7), none] ∧ Same H5 H' ∧ RT K H' p6 n2 b2 ∧ RT K H' p7 n3 b3) (fun N hN => ?_) ?_
    · walk_at "go"
      refine if_dec (fun _ => ?_) (fun _ => ?_)
      · walk_at "go"
        rename_i p6 H6 hn6 s6 t6 p7 H7 hn7 s7 t7
        exact hN _ _ ⟨_, _, _, _, _, _, rfl, s6.trans s7, (rt_two t6 (by omega) (by omega) (by omega) (by omega)).mono s7, rt_two t7 (by omega) (by omega) (by omega) (by omega)⟩
      · walk_at "go"
        exact hN _ _ ⟨_, _, _, _, _, _, rfl, Same.refl _, rt4, rt5⟩
    rintro _ H6 ⟨p6, p7, n2, b2, n3, b3, rfl, s6, r2, r3⟩
    have r1 := rt1.mono ((s4.trans s5).trans s6)
    walk_at "go"
    refine k_Ldue (by omega) r1 r2 r3 si fun p8 H8 s8 t8 => ?_
    walk_at "run"
    refine k_Ltold (by omega) (r1.mono s8) (r2.mono s8) (r3.mono s8) si fun p9 H9 s9 t9 => ?_
    walk_at "run"
    have t8' := same_t s9 t8
    have r1' := (r1.mono s8).mono s9
    have r2' := (r2.mono s8).mono s9
    have r3' := (r3.mono s8).mono s9
    obtain ⟨w, m, e1, hw, e3⟩ : ∃ (w : Str) (m : Int), told10 (due10 (c0 % 8) i n n2 n3) = (.str w, m) ∧ PyData.strOk w = true ∧ (!decide (w = ("none" : Str))) = (due10 (c0 % 8) i n n2 n3).isSome := by
      rcases due10 (c0 % 8) i n n2 n3 with _ | (_ | m)
      · exact ⟨"none", 0, rfl, by decide +kernel, by decide +kernel⟩
      · exact ⟨"number", 0, rfl, by decide +kernel, by decide +kernel⟩
      · exact ⟨"long", m, rfl, by decide +kernel, (by decide +kernel : (!decide (("long" : Str) = "none")) = true)⟩
    rw [e1] at t8' t9
    refine k_neW t9 t8' hw ?_
    walk_at "run"
    refine k_Lrefused_by_any (by omega) r1' r2' r3' si fun H10 s10 => ?_
    have t8'' := same_t s10 t8'
    walk_at "run"
    rw [e3]
    exact fin_t (decide_eq_true rfl) (q _)

end
theorem all_mk {l : PySem.W.OpenLaw} {w : World} {K : PySem.W.Frag} {h : Heap} {mg : Str → Option Value} {fa : Addr} (X : K.In h) (G : h.Ns mainGlobals mg) (hfa : mg "law" = some (.ref fa))
    {f_sized : Addr} {od_sized an_sized : Option Addr} {sl_sized : Array (Option Value)} {oc_sized kV_sized dc_sized pm_sized cd_sized ct_sized : Value}
    {f_divisor : Addr} {od_divisor an_divisor : Option Addr} {sl_divisor : Array (Option Value)} {oc_divisor kV_divisor dc_divisor pm_divisor cd_divisor ct_divisor : Value}
    {f_common : Addr} {od_common an_common : Option Addr} {sl_common : Array (Option Value)} {oc_common kV_common dc_common pm_common cd_common ct_common : Value}
    {f_Ldue : Addr} {od_Ldue an_Ldue : Option Addr} {sl_Ldue : Array (Option Value)} {oc_Ldue kV_Ldue dc_Ldue pm_Ldue cd_Ldue ct_Ldue : Value}
    {f_Lcell_at : Addr} {od_Lcell_at an_Lcell_at : Option Addr} {sl_Lcell_at : Array (Option Value)} {oc_Lcell_at kV_Lcell_at dc_Lcell_at pm_Lcell_at cd_Lcell_at ct_Lcell_at : Value}
    {f_TooLong_init : Addr} {od_TooLong_init an_TooLong_init : Option Addr} {sl_TooLong_init : Array (Option Value)} {oc_TooLong_init kV_TooLong_init dc_TooLong_init pm_TooLong_init cd_TooLong_init ct_TooLong_init : Value}
    {f_allowed : Addr} {od_allowed an_allowed : Option Addr} {sl_allowed : Array (Option Value)} {oc_allowed kV_allowed dc_allowed pm_allowed cd_allowed ct_allowed : Value}
    {f_common_size : Addr} {od_common_size an_common_size : Option Addr} {sl_common_size : Array (Option Value)} {oc_common_size kV_common_size dc_common_size pm_common_size cd_common_size ct_common_size : Value}
    {f_mask : Addr} {od_mask an_mask : Option Addr} {sl_mask : Array (Option Value)} {oc_mask kV_mask dc_mask pm_mask cd_mask ct_mask : Value}
    {f_stretched : Addr} {od_stretched an_stretched : Option Addr} {sl_stretched : Array (Option Value)} {oc_stretched kV_stretched dc_stretched pm_stretched cd_stretched ct_stretched : Value}
    {f_without : Addr} {od_without an_without : Option Addr} {sl_without : Array (Option Value)} {oc_without kV_without dc_without pm_without cd_without ct_without : Value}
    {f_round_by : Addr} {od_round_by an_round_by : Option Addr} {sl_round_by : Array (Option Value)} {oc_round_by kV_round_by dc_round_by pm_round_by cd_round_by ct_round_by : Value}
    {f_folded : Addr} {od_folded an_folded : Option Addr} {sl_folded : Array (Option Value)} {oc_folded kV_folded dc_folded pm_folded cd_folded ct_folded : Value}
    {f_ones : Addr} {od_ones an_ones : Option Addr} {sl_ones : Array (Option Value)} {oc_ones kV_ones dc_ones pm_ones cd_ones ct_ones : Value}
    {f_place : Addr} {od_place an_place : Option Addr} {sl_place : Array (Option Value)} {oc_place kV_place dc_place pm_place cd_place ct_place : Value}
    {f_rank : Addr} {od_rank an_rank : Option Addr} {sl_rank : Array (Option Value)} {oc_rank kV_rank dc_rank pm_rank cd_rank ct_rank : Value}
    {f_nth_day : Addr} {od_nth_day an_nth_day : Option Addr} {sl_nth_day : Array (Option Value)} {oc_nth_day kV_nth_day dc_nth_day pm_nth_day cd_nth_day ct_nth_day : Value}
    {f_both : Addr} {od_both an_both : Option Addr} {sl_both : Array (Option Value)} {oc_both kV_both dc_both pm_both cd_both ct_both : Value}
    {f_either : Addr} {od_either an_either : Option Addr} {sl_either : Array (Option Value)} {oc_either kV_either dc_either pm_either cd_either ct_either : Value}
    {f_unlike : Addr} {od_unlike an_unlike : Option Addr} {sl_unlike : Array (Option Value)} {oc_unlike kV_unlike dc_unlike pm_unlike cd_unlike ct_unlike : Value}
    {f_Lasked : Addr} {od_Lasked an_Lasked : Option Addr} {sl_Lasked : Array (Option Value)} {oc_Lasked kV_Lasked dc_Lasked pm_Lasked cd_Lasked ct_Lasked : Value}
    {f_Ltold : Addr} {od_Ltold an_Ltold : Option Addr} {sl_Ltold : Array (Option Value)} {oc_Ltold kV_Ltold dc_Ltold pm_Ltold cd_Ltold ct_Ltold : Value}
    {f_Lrefused_by_any : Addr} {od_Lrefused_by_any an_Lrefused_by_any : Option Addr} {sl_Lrefused_by_any : Array (Option Value)} {oc_Lrefused_by_any kV_Lrefused_by_any dc_Lrefused_by_any pm_Lrefused_by_any cd_Lrefused_by_any ct_Lrefused_by_any : Value}
    {f_law : Addr} {od_law an_law : Option Addr} {sl_law : Array (Option Value)} {oc_law kV_law dc_law pm_law cd_law ct_law : Value}
    {t_LIMIT : Tok}
    {t_CHUNK : Tok}
    {C_FeastError : Addr}
    {C_NoNumber : Addr}
    {C_TooLong : Addr}
    {nm_TooLong q_TooLong : Str} {N_TooLong : Addr} {bs_TooLong sub_TooLong : List Value} {sn_TooLong : List Str} {ab_TooLong : Bool} {col_TooLong : Option Bool} {dd_TooLong : Option Addr} {m0_TooLong m1_TooLong m2_TooLong m3_TooLong m5_TooLong : Option Value}
    (gc_FeastError : PySem.W.nsIn K mainGlobals "FeastError" = some (some (.ref C_FeastError)))
    (gc_NoNumber : PySem.W.nsIn K mainGlobals "NoNumber" = some (some (.ref C_NoNumber)))
    (gc_TooLong : PySem.W.nsIn K mainGlobals "TooLong" = some (some (.ref C_TooLong)))
    (in_TooLong_init : PySem.W.findIn K (.ref C_TooLong) "__init__" = some (some (.ref f_TooLong_init)))
    (a_sized : PySem.W.nsIn K mainGlobals "sized" = some (some (.ref f_sized)))
    (l_sized : K.lookup f_sized = some ⟨oc_sized, od_sized, .func (PySem.W.fnOf "sized" "sized" (defArgs s_sized) (defBody s_sized) (defScope s_sized) .none kV_sized dc_sized pm_sized an_sized cd_sized ct_sized), sl_sized⟩)
    (c_sized : PySem.W.codeIn K cd_sized "sized" = true)
    (k_sized : PySem.W.keepIn K (.ref f_sized) = true)
    (a_divisor : PySem.W.nsIn K mainGlobals "divisor" = some (some (.ref f_divisor)))
    (l_divisor : K.lookup f_divisor = some ⟨oc_divisor, od_divisor, .func (PySem.W.fnOf "divisor" "divisor" (defArgs s_divisor) (defBody s_divisor) (defScope s_divisor) .none kV_divisor dc_divisor pm_divisor an_divisor cd_divisor ct_divisor), sl_divisor⟩)
    (c_divisor : PySem.W.codeIn K cd_divisor "divisor" = true)
    (k_divisor : PySem.W.keepIn K (.ref f_divisor) = true)
    (a_common : PySem.W.nsIn K mainGlobals "common" = some (some (.ref f_common)))
    (l_common : K.lookup f_common = some ⟨oc_common, od_common, .func (PySem.W.fnOf "common" "common" (defArgs s_common) (defBody s_common) (defScope s_common) .none kV_common dc_common pm_common an_common cd_common ct_common), sl_common⟩)
    (c_common : PySem.W.codeIn K cd_common "common" = true)
    (k_common : PySem.W.keepIn K (.ref f_common) = true)
    (a_Ldue : PySem.W.nsIn K mainGlobals "_law_due" = some (some (.ref f_Ldue)))
    (l_Ldue : K.lookup f_Ldue = some ⟨oc_Ldue, od_Ldue, .func (PySem.W.fnOf "_law_due" "_law_due" (defArgs s_Ldue) (defBody s_Ldue) (defScope s_Ldue) .none kV_Ldue dc_Ldue pm_Ldue an_Ldue cd_Ldue ct_Ldue), sl_Ldue⟩)
    (c_Ldue : PySem.W.codeIn K cd_Ldue "_law_due" = true)
    (k_Ldue : PySem.W.keepIn K (.ref f_Ldue) = true)
    (a_Lcell_at : PySem.W.nsIn K mainGlobals "_law_cell_at" = some (some (.ref f_Lcell_at)))
    (l_Lcell_at : K.lookup f_Lcell_at = some ⟨oc_Lcell_at, od_Lcell_at, .func (PySem.W.fnOf "_law_cell_at" "_law_cell_at" (defArgs s_Lcell_at) (defBody s_Lcell_at) (defScope s_Lcell_at) .none kV_Lcell_at dc_Lcell_at pm_Lcell_at an_Lcell_at cd_Lcell_at ct_Lcell_at), sl_Lcell_at⟩)
    (c_Lcell_at : PySem.W.codeIn K cd_Lcell_at "_law_cell_at" = true)
    (k_Lcell_at : PySem.W.keepIn K (.ref f_Lcell_at) = true)
    (l_TooLong_init : K.lookup f_TooLong_init = some ⟨oc_TooLong_init, od_TooLong_init, .func (PySem.W.fnOf "__init__" "TooLong.__init__" (defArgs s_TooLong_init) (defBody s_TooLong_init) (defScope s_TooLong_init) .none kV_TooLong_init dc_TooLong_init pm_TooLong_init an_TooLong_init cd_TooLong_init ct_TooLong_init), sl_TooLong_init⟩)
    (c_TooLong_init : PySem.W.codeIn K cd_TooLong_init "TooLong.__init__" = true)
    (k_TooLong_init : PySem.W.keepIn K (.ref f_TooLong_init) = true)
    (a_allowed : PySem.W.nsIn K mainGlobals "allowed" = some (some (.ref f_allowed)))
    (l_allowed : K.lookup f_allowed = some ⟨oc_allowed, od_allowed, .func (PySem.W.fnOf "allowed" "allowed" (defArgs s_allowed) (defBody s_allowed) (defScope s_allowed) .none kV_allowed dc_allowed pm_allowed an_allowed cd_allowed ct_allowed), sl_allowed⟩)
    (c_allowed : PySem.W.codeIn K cd_allowed "allowed" = true)
    (k_allowed : PySem.W.keepIn K (.ref f_allowed) = true)
    (a_common_size : PySem.W.nsIn K mainGlobals "common_size" = some (some (.ref f_common_size)))
    (l_common_size : K.lookup f_common_size = some ⟨oc_common_size, od_common_size, .func (PySem.W.fnOf "common_size" "common_size" (defArgs s_common_size) (defBody s_common_size) (defScope s_common_size) .none kV_common_size dc_common_size pm_common_size an_common_size cd_common_size ct_common_size), sl_common_size⟩)
    (c_common_size : PySem.W.codeIn K cd_common_size "common_size" = true)
    (k_common_size : PySem.W.keepIn K (.ref f_common_size) = true)
    (a_mask : PySem.W.nsIn K mainGlobals "mask" = some (some (.ref f_mask)))
    (l_mask : K.lookup f_mask = some ⟨oc_mask, od_mask, .func (PySem.W.fnOf "mask" "mask" (defArgs s_mask) (defBody s_mask) (defScope s_mask) .none kV_mask dc_mask pm_mask an_mask cd_mask ct_mask), sl_mask⟩)
    (c_mask : PySem.W.codeIn K cd_mask "mask" = true)
    (k_mask : PySem.W.keepIn K (.ref f_mask) = true)
    (a_stretched : PySem.W.nsIn K mainGlobals "stretched" = some (some (.ref f_stretched)))
    (l_stretched : K.lookup f_stretched = some ⟨oc_stretched, od_stretched, .func (PySem.W.fnOf "stretched" "stretched" (defArgs s_stretched) (defBody s_stretched) (defScope s_stretched) .none kV_stretched dc_stretched pm_stretched an_stretched cd_stretched ct_stretched), sl_stretched⟩)
    (c_stretched : PySem.W.codeIn K cd_stretched "stretched" = true)
    (k_stretched : PySem.W.keepIn K (.ref f_stretched) = true)
    (a_without : PySem.W.nsIn K mainGlobals "without" = some (some (.ref f_without)))
    (l_without : K.lookup f_without = some ⟨oc_without, od_without, .func (PySem.W.fnOf "without" "without" (defArgs s_without) (defBody s_without) (defScope s_without) .none kV_without dc_without pm_without an_without cd_without ct_without), sl_without⟩)
    (c_without : PySem.W.codeIn K cd_without "without" = true)
    (k_without : PySem.W.keepIn K (.ref f_without) = true)
    (a_round_by : PySem.W.nsIn K mainGlobals "round_by" = some (some (.ref f_round_by)))
    (l_round_by : K.lookup f_round_by = some ⟨oc_round_by, od_round_by, .func (PySem.W.fnOf "round_by" "round_by" (defArgs s_round_by) (defBody s_round_by) (defScope s_round_by) .none kV_round_by dc_round_by pm_round_by an_round_by cd_round_by ct_round_by), sl_round_by⟩)
    (c_round_by : PySem.W.codeIn K cd_round_by "round_by" = true)
    (k_round_by : PySem.W.keepIn K (.ref f_round_by) = true)
    (a_folded : PySem.W.nsIn K mainGlobals "folded" = some (some (.ref f_folded)))
    (l_folded : K.lookup f_folded = some ⟨oc_folded, od_folded, .func (PySem.W.fnOf "folded" "folded" (defArgs s_folded) (defBody s_folded) (defScope s_folded) .none kV_folded dc_folded pm_folded an_folded cd_folded ct_folded), sl_folded⟩)
    (c_folded : PySem.W.codeIn K cd_folded "folded" = true)
    (k_folded : PySem.W.keepIn K (.ref f_folded) = true)
    (a_ones : PySem.W.nsIn K mainGlobals "ones" = some (some (.ref f_ones)))
    (l_ones : K.lookup f_ones = some ⟨oc_ones, od_ones, .func (PySem.W.fnOf "ones" "ones" (defArgs s_ones) (defBody s_ones) (defScope s_ones) .none kV_ones dc_ones pm_ones an_ones cd_ones ct_ones), sl_ones⟩)
    (c_ones : PySem.W.codeIn K cd_ones "ones" = true)
    (k_ones : PySem.W.keepIn K (.ref f_ones) = true)
    (a_place : PySem.W.nsIn K mainGlobals "place" = some (some (.ref f_place)))
    (l_place : K.lookup f_place = some ⟨oc_place, od_place, .func (PySem.W.fnOf "place" "place" (defArgs s_place) (defBody s_place) (defScope s_place) .none kV_place dc_place pm_place an_place cd_place ct_place), sl_place⟩)
    (c_place : PySem.W.codeIn K cd_place "place" = true)
    (k_place : PySem.W.keepIn K (.ref f_place) = true)
    (a_rank : PySem.W.nsIn K mainGlobals "rank" = some (some (.ref f_rank)))
    (l_rank : K.lookup f_rank = some ⟨oc_rank, od_rank, .func (PySem.W.fnOf "rank" "rank" (defArgs s_rank) (defBody s_rank) (defScope s_rank) .none kV_rank dc_rank pm_rank an_rank cd_rank ct_rank), sl_rank⟩)
    (c_rank : PySem.W.codeIn K cd_rank "rank" = true)
    (k_rank : PySem.W.keepIn K (.ref f_rank) = true)
    (a_nth_day : PySem.W.nsIn K mainGlobals "nth_day" = some (some (.ref f_nth_day)))
    (l_nth_day : K.lookup f_nth_day = some ⟨oc_nth_day, od_nth_day, .func (PySem.W.fnOf "nth_day" "nth_day" (defArgs s_nth_day) (defBody s_nth_day) (defScope s_nth_day) .none kV_nth_day dc_nth_day pm_nth_day an_nth_day cd_nth_day ct_nth_day), sl_nth_day⟩)
    (c_nth_day : PySem.W.codeIn K cd_nth_day "nth_day" = true)
    (k_nth_day : PySem.W.keepIn K (.ref f_nth_day) = true)
    (a_both : PySem.W.nsIn K mainGlobals "both" = some (some (.ref f_both)))
    (l_both : K.lookup f_both = some ⟨oc_both, od_both, .func (PySem.W.fnOf "both" "both" (defArgs s_both) (defBody s_both) (defScope s_both) .none kV_both dc_both pm_both an_both cd_both ct_both), sl_both⟩)
    (c_both : PySem.W.codeIn K cd_both "both" = true)
    (k_both : PySem.W.keepIn K (.ref f_both) = true)
    (a_either : PySem.W.nsIn K mainGlobals "either" = some (some (.ref f_either)))
    (l_either : K.lookup f_either = some ⟨oc_either, od_either, .func (PySem.W.fnOf "either" "either" (defArgs s_either) (defBody s_either) (defScope s_either) .none kV_either dc_either pm_either an_either cd_either ct_either), sl_either⟩)
    (c_either : PySem.W.codeIn K cd_either "either" = true)
    (k_either : PySem.W.keepIn K (.ref f_either) = true)
    (a_unlike : PySem.W.nsIn K mainGlobals "unlike" = some (some (.ref f_unlike)))
    (l_unlike : K.lookup f_unlike = some ⟨oc_unlike, od_unlike, .func (PySem.W.fnOf "unlike" "unlike" (defArgs s_unlike) (defBody s_unlike) (defScope s_unlike) .none kV_unlike dc_unlike pm_unlike an_unlike cd_unlike ct_unlike), sl_unlike⟩)
    (c_unlike : PySem.W.codeIn K cd_unlike "unlike" = true)
    (k_unlike : PySem.W.keepIn K (.ref f_unlike) = true)
    (a_Lasked : PySem.W.nsIn K mainGlobals "_law_asked" = some (some (.ref f_Lasked)))
    (l_Lasked : K.lookup f_Lasked = some ⟨oc_Lasked, od_Lasked, .func (PySem.W.fnOf "_law_asked" "_law_asked" (defArgs s_Lasked) (defBody s_Lasked) (defScope s_Lasked) .none kV_Lasked dc_Lasked pm_Lasked an_Lasked cd_Lasked ct_Lasked), sl_Lasked⟩)
    (c_Lasked : PySem.W.codeIn K cd_Lasked "_law_asked" = true)
    (k_Lasked : PySem.W.keepIn K (.ref f_Lasked) = true)
    (a_Ltold : PySem.W.nsIn K mainGlobals "_law_told" = some (some (.ref f_Ltold)))
    (l_Ltold : K.lookup f_Ltold = some ⟨oc_Ltold, od_Ltold, .func (PySem.W.fnOf "_law_told" "_law_told" (defArgs s_Ltold) (defBody s_Ltold) (defScope s_Ltold) .none kV_Ltold dc_Ltold pm_Ltold an_Ltold cd_Ltold ct_Ltold), sl_Ltold⟩)
    (c_Ltold : PySem.W.codeIn K cd_Ltold "_law_told" = true)
    (k_Ltold : PySem.W.keepIn K (.ref f_Ltold) = true)
    (a_Lrefused_by_any : PySem.W.nsIn K mainGlobals "_law_refused_by_any" = some (some (.ref f_Lrefused_by_any)))
    (l_Lrefused_by_any : K.lookup f_Lrefused_by_any = some ⟨oc_Lrefused_by_any, od_Lrefused_by_any, .func (PySem.W.fnOf "_law_refused_by_any" "_law_refused_by_any" (defArgs s_Lrefused_by_any) (defBody s_Lrefused_by_any) (defScope s_Lrefused_by_any) .none kV_Lrefused_by_any dc_Lrefused_by_any pm_Lrefused_by_any an_Lrefused_by_any cd_Lrefused_by_any ct_Lrefused_by_any), sl_Lrefused_by_any⟩)
    (c_Lrefused_by_any : PySem.W.codeIn K cd_Lrefused_by_any "_law_refused_by_any" = true)
    (k_Lrefused_by_any : PySem.W.keepIn K (.ref f_Lrefused_by_any) = true)
    (a_law : PySem.W.nsIn K mainGlobals "law" = some (some (.ref f_law)))
    (l_law : K.lookup f_law = some ⟨oc_law, od_law, .func (PySem.W.fnOf "law" "law" (defArgs s_law) (defBody s_law) (defScope s_law) .none kV_law dc_law pm_law an_law cd_law ct_law), sl_law⟩)
    (c_law : PySem.W.codeIn K cd_law "law" = true)
    (k_law : PySem.W.keepIn K (.ref f_law) = true)
    (q_LIMIT : PySem.W.nsIn K mainGlobals "LIMIT" = some (some (.int 150000 t_LIMIT)))
    (q_CHUNK : PySem.W.nsIn K mainGlobals "CHUNK" = some (some (.int 60 t_CHUNK)))
    (z_ValueError : PySem.W.nsIn K mainGlobals "ValueError" = some none)
    (z_abs : PySem.W.nsIn K mainGlobals "abs" = some none)
    (z_divmod : PySem.W.nsIn K mainGlobals "divmod" = some none)
    (z_isinstance : PySem.W.nsIn K mainGlobals "isinstance" = some none)
    (z_len : PySem.W.nsIn K mainGlobals "len" = some none)
    (z_min : PySem.W.nsIn K mainGlobals "min" = some none)
    (kc_FeastError : PySem.W.keepIn K (.ref C_FeastError) = true)
    (bc_FeastError : PySem.W.subIn K (.ref C_FeastError) (.type "BaseException") = some true)
    (tc_FeastError : PySem.W.typeIn K (.ref C_FeastError) = some (.type "type"))
    (ic_FeastError : PySem.W.isClsIn K C_FeastError = true)
    (sc_FeastError : PySem.W.subIn K (.ref C_FeastError) (.ref C_FeastError) = some true)
    (x_NoNumber : PySem.W.excIn K C_NoNumber [.type "ValueError", .type "Exception", .type "BaseException", .type "object"] "ValueError.__new__" = true)
    (kc_NoNumber : PySem.W.keepIn K (.ref C_NoNumber) = true)
    (bc_NoNumber : PySem.W.subIn K (.ref C_NoNumber) (.type "BaseException") = some true)
    (tc_NoNumber : PySem.W.typeIn K (.ref C_NoNumber) = some (.type "type"))
    (ic_NoNumber : PySem.W.isClsIn K C_NoNumber = true)
    (sc_NoNumber : PySem.W.subIn K (.ref C_NoNumber) (.ref C_NoNumber) = some true)
    (kc_TooLong : PySem.W.keepIn K (.ref C_TooLong) = true)
    (bc_TooLong : PySem.W.subIn K (.ref C_TooLong) (.type "BaseException") = some true)
    (tc_TooLong : PySem.W.typeIn K (.ref C_TooLong) = some (.type "type"))
    (ic_TooLong : PySem.W.isClsIn K C_TooLong = true)
    (sc_TooLong : PySem.W.subIn K (.ref C_TooLong) (.ref C_TooLong) = some true)
    (sb_NoNumber_FeastError : PySem.W.subIn K (.ref C_NoNumber) (.ref C_FeastError) = some true)
    (sb_NoNumber_TooLong : PySem.W.subIn K (.ref C_NoNumber) (.ref C_TooLong) = some false)
    (sb_TooLong_FeastError : PySem.W.subIn K (.ref C_TooLong) (.ref C_FeastError) = some true)
    (sb_TooLong_NoNumber : PySem.W.subIn K (.ref C_TooLong) (.ref C_NoNumber) = some false)
    (xc_NoNumber : ExcC K C_NoNumber)
    (sv_NoNumber : PySem.W.subIn K (.ref C_NoNumber) (.type "ValueError") = some true)
    (xc_TooLong : ExcC K C_TooLong)
    (sv_TooLong : PySem.W.subIn K (.ref C_TooLong) (.type "ValueError") = some true)
    (xl_TooLong : K.lookup C_TooLong = some (excClassObj nm_TooLong q_TooLong C_TooLong N_TooLong bs_TooLong [.ref C_FeastError, .type "ValueError", .type "Exception", .type "BaseException", .type "object"] true sn_TooLong sub_TooLong ab_TooLong col_TooLong dd_TooLong m0_TooLong m1_TooLong m2_TooLong m3_TooLong m5_TooLong "ValueError.__new__"))
    (sa_TooLong : PySem.W.findIn K (.ref C_TooLong) "__setattr__" = some (some (.builtin "object.__setattr__")))
    (ti_TooLong_init : PySem.W.typeIn K (.ref f_TooLong_init) = some (.type "function"))
    (xf_TooLong : XfC K C_TooLong)
    (no_TooLong_needed : PySem.W.findIn K (.ref C_TooLong) "needed" = some none)
    (cr_FeastError : ClX.CRead K C_FeastError (.type "type"))
    (vi_FeastError : PySem.W.findCls K (.ref C_FeastError) (.type "type") "__init__" = some (.val (.builtin "ValueError.__init__"))) :
    ∃ fd : FuncData, (∀ (s : Shared) (v : Value), BindsTo s fd ⟨[v], []⟩ [("_law_script", v)]) ∧ ∀ base : Heap, K.In base → base.Ns mainGlobals mg → FnOk l.prog w K mg base CX0 8 fa fd ["_law_script"] (sp_law K) := by
  have e := hfa.symm.trans (PySem.W.mg_of X G a_law)
  cases e
  have F_sized := fun_mk (st := s_sized) l_sized c_sized k_sized
  have b_sized := F_sized.binds (ps := ["size"]) fun _ _ _ _ _ _ us hl => match us, hl with | [_], _ => rfl
  have F_divisor := fun_mk (st := s_divisor) l_divisor c_divisor k_divisor
  have b_divisor := F_divisor.binds (ps := ["one", "other"]) fun _ _ _ _ _ _ us hl => match us, hl with | [_, _], _ => rfl
  have F_common := fun_mk (st := s_common) l_common c_common k_common
  have b_common := F_common.binds (ps := ["one", "other"]) fun _ _ _ _ _ _ us hl => match us, hl with | [_, _], _ => rfl
  have F_Ldue := fun_mk (st := s_Ldue) l_Ldue c_Ldue k_Ldue
  have b_Ldue := F_Ldue.binds (ps := ["_law_way", "_law_turn", "_law_size", "_law_one", "_law_other"]) fun _ _ _ _ _ _ us hl => match us, hl with | [_, _, _, _, _], _ => rfl
  have F_Lcell_at := fun_mk (st := s_Lcell_at) l_Lcell_at c_Lcell_at k_Lcell_at
  have b_Lcell_at := F_Lcell_at.binds (ps := ["_law_script", "_law_k"]) fun _ _ _ _ _ _ us hl => match us, hl with | [_, _], _ => rfl
  have F_TooLong_init := fun_mk (st := s_TooLong_init) l_TooLong_init c_TooLong_init k_TooLong_init
  have b_TooLong_init := F_TooLong_init.binds (ps := ["self", "needed"]) fun _ _ _ _ _ _ us hl => match us, hl with | [_, _], _ => rfl
  have F_allowed := fun_mk (st := s_allowed) l_allowed c_allowed k_allowed
  have b_allowed := F_allowed.binds (ps := ["size"]) fun _ _ _ _ _ _ us hl => match us, hl with | [_], _ => rfl
  have F_common_size := fun_mk (st := s_common_size) l_common_size c_common_size k_common_size
  have b_common_size := F_common_size.binds (ps := ["one", "other"]) fun _ _ _ _ _ _ us hl => match us, hl with | [_, _], _ => rfl
  have F_mask := fun_mk (st := s_mask) l_mask c_mask k_mask
  have b_mask := F_mask.binds (ps := ["size"]) fun _ _ _ _ _ _ us hl => match us, hl with | [_], _ => rfl
  have F_stretched := fun_mk (st := s_stretched) l_stretched c_stretched k_stretched
  have b_stretched := F_stretched.binds (ps := ["turn", "size"]) fun _ _ _ _ _ _ us hl => match us, hl with | [_, _], _ => rfl
  have F_without := fun_mk (st := s_without) l_without c_without k_without
  have b_without := F_without.binds (ps := ["one", "other"]) fun _ _ _ _ _ _ us hl => match us, hl with | [_, _], _ => rfl
  have F_round_by := fun_mk (st := s_round_by) l_round_by c_round_by k_round_by
  have b_round_by := F_round_by.binds (ps := ["size", "days"]) fun _ _ _ _ _ _ us hl => match us, hl with | [_, _], _ => rfl
  have F_folded := fun_mk (st := s_folded) l_folded c_folded k_folded
  have b_folded := F_folded.binds (ps := ["turn", "size"]) fun _ _ _ _ _ _ us hl => match us, hl with | [_, _], _ => rfl
  have F_ones := fun_mk (st := s_ones) l_ones c_ones k_ones
  have b_ones := F_ones.binds (ps := ["bits"]) fun _ _ _ _ _ _ us hl => match us, hl with | [_], _ => rfl
  have F_place := fun_mk (st := s_place) l_place c_place k_place
  have b_place := F_place.binds (ps := ["bits", "size", "number"]) fun _ _ _ _ _ _ us hl => match us, hl with | [_, _, _], _ => rfl
  have F_rank := fun_mk (st := s_rank) l_rank c_rank k_rank
  have b_rank := F_rank.binds (ps := ["turn", "day"]) fun _ _ _ _ _ _ us hl => match us, hl with | [_, _], _ => rfl
  have F_nth_day := fun_mk (st := s_nth_day) l_nth_day c_nth_day k_nth_day
  have b_nth_day := F_nth_day.binds (ps := ["turn", "day", "number"]) fun _ _ _ _ _ _ us hl => match us, hl with | [_, _, _], _ => rfl
  have F_both := fun_mk (st := s_both) l_both c_both k_both
  have b_both := F_both.binds (ps := ["one", "other"]) fun _ _ _ _ _ _ us hl => match us, hl with | [_, _], _ => rfl
  have F_either := fun_mk (st := s_either) l_either c_either k_either
  have b_either := F_either.binds (ps := ["one", "other"]) fun _ _ _ _ _ _ us hl => match us, hl with | [_, _], _ => rfl
  have F_unlike := fun_mk (st := s_unlike) l_unlike c_unlike k_unlike
  have b_unlike := F_unlike.binds (ps := ["one", "other"]) fun _ _ _ _ _ _ us hl => match us, hl with | [_, _], _ => rfl
  have F_Lasked := fun_mk (st := s_Lasked) l_Lasked c_Lasked k_Lasked
  have b_Lasked := F_Lasked.binds (ps := ["_law_way", "_law_turn", "_law_size", "_law_one", "_law_other"]) fun _ _ _ _ _ _ us hl => match us, hl with | [_, _, _, _, _], _ => rfl
  have F_Ltold := fun_mk (st := s_Ltold) l_Ltold c_Ltold k_Ltold
  have b_Ltold := F_Ltold.binds (ps := ["_law_way", "_law_turn", "_law_size", "_law_one", "_law_other"]) fun _ _ _ _ _ _ us hl => match us, hl with | [_, _, _, _, _], _ => rfl
  have F_Lrefused_by_any := fun_mk (st := s_Lrefused_by_any) l_Lrefused_by_any c_Lrefused_by_any k_Lrefused_by_any
  have b_Lrefused_by_any := F_Lrefused_by_any.binds (ps := ["_law_way", "_law_turn", "_law_size", "_law_one", "_law_other"]) fun _ _ _ _ _ _ us hl => match us, hl with | [_, _, _, _, _], _ => rfl
  have F_law := fun_mk (st := s_law) l_law c_law k_law
  have b_law := F_law.binds (ps := ["_law_script"]) fun _ _ _ _ _ _ us hl => match us, hl with | [_], _ => rfl
  exact ⟨_, fun s v => .of_eq rfl, fun base _ _ => ok_law (⟨_, _, F_sized, (PySem.W.mg_of X G a_sized), b_sized, _, _, F_divisor, (PySem.W.mg_of X G a_divisor), b_divisor, _, _, F_common, (PySem.W.mg_of X G a_common), b_common, _, _, F_Ldue, (PySem.W.mg_of X G a_Ldue), b_Ldue, _, _, F_Lcell_at, (PySem.W.mg_of X G a_Lcell_at), b_Lcell_at, _, _, F_TooLong_init, b_TooLong_init, _, _, F_allowed, (PySem.W.mg_of X G a_allowed), b_allowed, _, _, F_common_size, (PySem.W.mg_of X G a_common_size), b_common_size, _, _, F_mask, (PySem.W.mg_of X G a_mask), b_mask, _, _, F_stretched, (PySem.W.mg_of X G a_stretched), b_stretched, _, _, F_without, (PySem.W.mg_of X G a_without), b_without, _, _, F_round_by, (PySem.W.mg_of X G a_round_by), b_round_by, _, _, F_folded, (PySem.W.mg_of X G a_folded), b_folded, _, _, F_ones, (PySem.W.mg_of X G a_ones), b_ones, _, _, F_place, (PySem.W.mg_of X G a_place), b_place, _, _, F_rank, (PySem.W.mg_of X G a_rank), b_rank, _, _, F_nth_day, (PySem.W.mg_of X G a_nth_day), b_nth_day, _, _, F_both, (PySem.W.mg_of X G a_both), b_both, _, _, F_either, (PySem.W.mg_of X G a_either), b_either, _, _, F_unlike, (PySem.W.mg_of X G a_unlike), b_unlike, _, _, F_Lasked, (PySem.W.mg_of X G a_Lasked), b_Lasked, _, _, F_Ltold, (PySem.W.mg_of X G a_Ltold), b_Ltold, _, _, F_Lrefused_by_any, (PySem.W.mg_of X G a_Lrefused_by_any), b_Lrefused_by_any, _, _, F_law, (PySem.W.mg_of X G a_law), b_law, _, (PySem.W.mg_of X G q_LIMIT), _, (PySem.W.mg_of X G q_CHUNK), (PySem.W.mg_none_of X G z_ValueError), (PySem.W.mg_none_of X G z_abs), (PySem.W.mg_none_of X G z_divmod), (PySem.W.mg_none_of X G z_isinstance), (PySem.W.mg_none_of X G z_len), (PySem.W.mg_none_of X G z_min), _, (PySem.W.mg_of X G gc_FeastError), kc_FeastError, bc_FeastError, tc_FeastError, ic_FeastError, sc_FeastError, _, (PySem.W.mg_of X G gc_NoNumber), x_NoNumber, kc_NoNumber, bc_NoNumber, tc_NoNumber, ic_NoNumber, sc_NoNumber, _, (PySem.W.mg_of X G gc_TooLong), kc_TooLong, bc_TooLong, tc_TooLong, ic_TooLong, sc_TooLong, sb_NoNumber_FeastError, sb_NoNumber_TooLong, sb_TooLong_FeastError, sb_TooLong_NoNumber, xc_NoNumber, sv_NoNumber, xc_TooLong, sv_TooLong, in_TooLong_init, ti_TooLong_init, xf_TooLong, no_TooLong_needed, ⟨⟨_, _, _, _, _, _, _, _, _, _, _, _, _, _, _, xl_TooLong, by first | rfl | decide +kernel⟩, sa_TooLong, bc_TooLong, tc_TooLong, kc_TooLong⟩, cr_FeastError, vi_FeastError⟩ : Txt K mg)⟩
end FW
open PySem PySem.W PyProof.Rows
set_option pp.maxSteps 300 in
set_option maxRecDepth 100000 in
set_option maxHeartbeats 0 in
theorem PySem.Challenge.cw_feastwheel_k10_rounds_refused_holds : PySem.Challenge.rw_feastwheel_k10_rounds_refused.Holds := by
  w_on; o_law; k_head; (case hw => w_witness2)
  k_fill
  refine L2.walk_ofB (l := PySem.Challenge.rw_feastwheel_k10_rounds_refused) (n := 63) (k := 8) (x := "_law_script") (CX := fun _ => L2.CX0) (sp := fun w => FW.sp_law _) rfl (by decide) rfl ⟨rfl, by decide, by decide⟩ (fun w h Y => PySem.W.kIn_of Y) ?F (fun _ _ a ns hl hb _ hS => ⟨a, ns, rfl, hS, hl, hb, fun _ => rfl⟩) (fun _ _ _ _ _ h => h)
  case F =>
    intro w mg fa h KX G hmg
    refine' FW.all_mk KX G hmg ?gc_FeastError ?gc_NoNumber ?gc_TooLong ?in_TooLong_init ?a_sized ?l_sized ?c_sized ?k_sized ?a_divisor ?l_divisor ?c_divisor ?k_divisor ?a_common ?l_common ?c_common ?k_common ?a_Ldue ?l_Ldue ?c_Ldue ?k_Ldue ?a_Lcell_at ?l_Lcell_at ?c_Lcell_at ?k_Lcell_at ?l_TooLong_init ?c_TooLong_init ?k_TooLong_init ?a_allowed ?l_allowed ?c_allowed ?k_allowed ?a_common_size ?l_common_size ?c_common_size ?k_common_size ?a_mask ?l_mask ?c_mask ?k_mask ?a_stretched ?l_stretched ?c_stretched ?k_stretched ?a_without ?l_without ?c_without ?k_without ?a_round_by ?l_round_by ?c_round_by ?k_round_by ?a_folded ?l_folded ?c_folded ?k_folded ?a_ones ?l_ones ?c_ones ?k_ones ?a_place ?l_place ?c_place ?k_place ?a_rank ?l_rank ?c_rank ?k_rank ?a_nth_day ?l_nth_day ?c_nth_day ?k_nth_day ?a_both ?l_both ?c_both ?k_both ?a_either ?l_either ?c_either ?k_either ?a_unlike ?l_unlike ?c_unlike ?k_unlike ?a_Lasked ?l_Lasked ?c_Lasked ?k_Lasked ?a_Ltold ?l_Ltold ?c_Ltold ?k_Ltold ?a_Lrefused_by_any ?l_Lrefused_by_any ?c_Lrefused_by_any ?k_Lrefused_by_any ?a_law ?l_law ?c_law ?k_law ?q_LIMIT ?q_CHUNK ?z_ValueError ?z_abs ?z_divmod ?z_isinstance ?z_len ?z_min ?kc_FeastError ?bc_FeastError ?tc_FeastError ?ic_FeastError ?sc_FeastError ?x_NoNumber ?kc_NoNumber ?bc_NoNumber ?tc_NoNumber ?ic_NoNumber ?sc_NoNumber ?kc_TooLong ?bc_TooLong ?tc_TooLong ?ic_TooLong ?sc_TooLong ?sb_NoNumber_FeastError ?sb_NoNumber_TooLong ?sb_TooLong_FeastError ?sb_TooLong_NoNumber ?xc_NoNumber ?sv_NoNumber ?xc_TooLong ?sv_TooLong ?xl_TooLong ?sa_TooLong ?ti_TooLong_init ?xf_TooLong ?no_TooLong_needed ?cr_FeastError ?vi_FeastError
    (case gc_FeastError => first | k_is | rfl)
    (case gc_NoNumber => first | k_is | rfl)
    (case gc_TooLong => first | k_is | rfl)
    (case in_TooLong_init => first | k_is | rfl)
    (case a_sized => first | k_is | rfl)
    (case l_sized => first | k_is | rfl)
    (case c_sized => first | k_is | rfl)
    (case k_sized => first | k_is | rfl)
    (case a_divisor => first | k_is | rfl)
    (case l_divisor => first | k_is | rfl)
    (case c_divisor => first | k_is | rfl)
    (case k_divisor => first | k_is | rfl)
    (case a_common => first | k_is | rfl)
    (case l_common => first | k_is | rfl)
    (case c_common => first | k_is | rfl)
    (case k_common => first | k_is | rfl)
    (case a_Ldue => first | k_is | rfl)
    (case l_Ldue => first | k_is | rfl)
    (case c_Ldue => first | k_is | rfl)
    (case k_Ldue => first | k_is | rfl)
    (case a_Lcell_at => first | k_is | rfl)
    (case l_Lcell_at => first | k_is | rfl)
    (case c_Lcell_at => first | k_is | rfl)
    (case k_Lcell_at => first | k_is | rfl)
    (case l_TooLong_init => first | k_is | rfl)
    (case c_TooLong_init => first | k_is | rfl)
    (case k_TooLong_init => first | k_is | rfl)
    (case a_allowed => first | k_is | rfl)
    (case l_allowed => first | k_is | rfl)
    (case c_allowed => first | k_is | rfl)
    (case k_allowed => first | k_is | rfl)
    (case a_common_size => first | k_is | rfl)
    (case l_common_size => first | k_is | rfl)
    (case c_common_size => first | k_is | rfl)
    (case k_common_size => first | k_is | rfl)
    (case a_mask => first | k_is | rfl)
    (case l_mask => first | k_is | rfl)
    (case c_mask => first | k_is | rfl)
    (case k_mask => first | k_is | rfl)
    (case a_stretched => first | k_is | rfl)
    (case l_stretched => first | k_is | rfl)
    (case c_stretched => first | k_is | rfl)
    (case k_stretched => first | k_is | rfl)
    (case a_without => first | k_is | rfl)
    (case l_without => first | k_is | rfl)
    (case c_without => first | k_is | rfl)
    (case k_without => first | k_is | rfl)
    (case a_round_by => first | k_is | rfl)
    (case l_round_by => first | k_is | rfl)
    (case c_round_by => first | k_is | rfl)
    (case k_round_by => first | k_is | rfl)
    (case a_folded => first | k_is | rfl)
    (case l_folded => first | k_is | rfl)
    (case c_folded => first | k_is | rfl)
    (case k_folded => first | k_is | rfl)
    (case a_ones => first | k_is | rfl)
    (case l_ones => first | k_is | rfl)
    (case c_ones => first | k_is | rfl)
    (case k_ones => first | k_is | rfl)
    (case a_place => first | k_is | rfl)
    (case l_place => first | k_is | rfl)
    (case c_place => first | k_is | rfl)
    (case k_place => first | k_is | rfl)
    (case a_rank => first | k_is | rfl)
    (case l_rank => first | k_is | rfl)
    (case c_rank => first | k_is | rfl)
    (case k_rank => first | k_is | rfl)
    (case a_nth_day => first | k_is | rfl)
    (case l_nth_day => first | k_is | rfl)
    (case c_nth_day => first | k_is | rfl)
    (case k_nth_day => first | k_is | rfl)
    (case a_both => first | k_is | rfl)
    (case l_both => first | k_is | rfl)
    (case c_both => first | k_is | rfl)
    (case k_both => first | k_is | rfl)
    (case a_either => first | k_is | rfl)
    (case l_either => first | k_is | rfl)
    (case c_either => first | k_is | rfl)
    (case k_either => first | k_is | rfl)
    (case a_unlike => first | k_is | rfl)
    (case l_unlike => first | k_is | rfl)
    (case c_unlike => first | k_is | rfl)
    (case k_unlike => first | k_is | rfl)
    (case a_Lasked => first | k_is | rfl)
    (case l_Lasked => first | k_is | rfl)
    (case c_Lasked => first | k_is | rfl)
    (case k_Lasked => first | k_is | rfl)
    (case a_Ltold => first | k_is | rfl)
    (case l_Ltold => first | k_is | rfl)
    (case c_Ltold => first | k_is | rfl)
    (case k_Ltold => first | k_is | rfl)
    (case a_Lrefused_by_any => first | k_is | rfl)
    (case l_Lrefused_by_any => first | k_is | rfl)
    (case c_Lrefused_by_any => first | k_is | rfl)
    (case k_Lrefused_by_any => first | k_is | rfl)
    (case a_law => first | k_is | rfl)
    (case l_law => first | k_is | rfl)
    (case c_law => first | k_is | rfl)
    (case k_law => first | k_is | rfl)
    (case q_LIMIT => first | k_is | rfl)
    (case q_CHUNK => first | k_is | rfl)
    (case z_ValueError => first | k_is | rfl)
    (case z_abs => first | k_is | rfl)
    (case z_divmod => first | k_is | rfl)
    (case z_isinstance => first | k_is | rfl)
    (case z_len => first | k_is | rfl)
    (case z_min => first | k_is | rfl)
    (case kc_FeastError => first | k_is | rfl)
    (case bc_FeastError => first | k_is | rfl)
    (case tc_FeastError => first | k_is | rfl)
    (case ic_FeastError => first | k_is | rfl)
    (case sc_FeastError => first | k_is | rfl)
    (case x_NoNumber => k_exc)
    (case kc_NoNumber => first | k_is | rfl)
    (case bc_NoNumber => first | k_is | rfl)
    (case tc_NoNumber => first | k_is | rfl)
    (case ic_NoNumber => first | k_is | rfl)
    (case sc_NoNumber => first | k_is | rfl)
    (case kc_TooLong => first | k_is | rfl)
    (case bc_TooLong => first | k_is | rfl)
    (case tc_TooLong => first | k_is | rfl)
    (case ic_TooLong => first | k_is | rfl)
    (case sc_TooLong => first | k_is | rfl)
    (case sb_NoNumber_FeastError => first | k_is | rfl)
    (case sb_NoNumber_TooLong => first | k_is | rfl)
    (case sb_TooLong_FeastError => first | k_is | rfl)
    (case sb_TooLong_NoNumber => first | k_is | rfl)
    (case xc_NoNumber => constructor <;> first | k_is | rfl)
    (case sv_NoNumber => first | k_is | rfl)
    (case xc_TooLong => constructor <;> first | k_is | rfl)
    (case sv_TooLong => first | k_is | rfl)
    (case xl_TooLong => first | k_is | rfl)
    (case sa_TooLong => first | k_is | rfl)
    (case ti_TooLong_init => first | k_is | rfl)
    (case xf_TooLong => constructor <;> first | k_is | rfl)
    (case no_TooLong_needed => first | k_is | rfl)
    (case cr_FeastError => constructor <;> first | k_is | rfl)
    (case vi_FeastError => first | k_is | rfl)
