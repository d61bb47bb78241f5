import PyProof.Rows.All
import Wide.All
import OpenK.AllK
import Wide.FinOn
import HandS.ForMost
import HandS.Exc
import HandS.Wide
import HandS.WideBits
import HandS.IsInst
import HandS.Flow
import HandS.EndBits
import HandS.Conv
import HandS.ExcIs
import HandS.ExcField
import HandS.TryMany
import KE.KExcIs
import HandS.HotCalls
import HandS.ForExc
import HandS.ExcInit
import HandS.ClsMeth
import HandS.Replace
import HandS.StrMore
import HandS.Codes
import HandS.Walk
import KE.IntTextLaws
import PyProof.Rows.RegReprOcc
import PySem.Challenge.RW_feastwheel_k71_dates_as_texts
set_option Elab.async false
set_option linter.all false
set_option maxRecDepth 100000
set_option maxHeartbeats 4000000
namespace FW
open PySem PySem.Spec PyProof.Rows L2
/-! ### heaps -/
theorem same_t {K : PySem.W.Frag} {H H' : Hp} {a : Addr} {xs : List V} (e : Same H H') (h : SqT K H a xs) : SqT K H' a xs := by
  rcases h with (h | ⟨o, h⟩) | h
  · exact .inl (.inl (e _ _ h))
  · exact .inl (.inr ⟨o, e _ _ h⟩)
  · exact .inr h
theorem same_l {K : PySem.W.Frag} {H H' : Hp} {a : Addr} {xs : List V} (e : Same H H') (h : SqL K H a xs) : SqL K H' a xs := e.seq h
theorem same_at {H H' : Hp} {a : Addr} {o : HO} (e : Same H H') (h : H a = some o) : H' a = some o := e _ _ h
theorem same_new {H : Hp} {p : Addr} {o : HO} (h : H p = none) : Same H (upd H p o) := fun b x e => by
  rw [upd_ne (ne_of_none e h)]
  exact e
theorem same_mut {H H' : Hp} {p : Addr} {o : HO} (e : Same H H') (h : H p = none) : Same H (upd H' p o) := fun a u ha => by
  rw [upd_ne (ne_of_none ha h)]
  exact e a u ha
section
variable {K : PySem.W.Frag} {σ : L2.St} {H H1 : Hp} {Q : VK} {D : Ends} {i : Nat} {v x y : V} {ta tb tc te : TE} {t u : TT} {tr : TA} {m n : Int} {a b : Int} {r r' : R2}
/-! ### steps: expressions -/
theorem k_var (h : σ[i]? = some (some v)) (q : Q v H) : tVar i σ H Q := ⟨v, h, q⟩
theorem k_c (q : Q v H) : tC v σ H Q := q
theorem k_op (h : ta σ H fun x H1 => tb σ H1 fun y H2 => r x y H2 Q) : tOp r ta tb σ H Q := h
theorem k_un {r : V → Hp → VK → Prop} (h : ta σ H fun x H1 => r x H1 Q) : tUn r ta σ H Q := h
theorem k_I0 {g : Int → Int → V} (q : Q (g a b) H) : rI0 g (.int a) (.int b) H Q := ⟨a, b, rfl, rfl, q⟩
theorem k_I {C : Int → Int → Prop} {g : Int → Int → V} (c : C a b) (q : Q (g a b) H) : rI C g (.int a) (.int b) H Q := ⟨a, b, rfl, rfl, c, q⟩
theorem k_U {g : Int → V} (q : Q (g a) H) : rU g (.int a) H Q := ⟨a, rfl, q⟩
theorem k_nil {Q : List V → Hp → Prop} (q : Q [] H) : tNil σ H Q := q
theorem k_cons {Q : List V → Hp → Prop} (h : ta σ H fun x H1 => tr σ H1 fun xs H2 => Q (x :: xs) H2) : tCons ta tr σ H Q := h
theorem k_cb {r : List V → Hp → VK → Prop} (h : tr σ H fun vs H1 => r vs H1 Q) : tCB r tr σ H Q := h
theorem k_call {sp : Sp} {E : XK} (h : tr σ H fun vs H1 => sp vs H1 Q E) : tCall sp [] E tr σ H Q := by
  show tr σ H fun vs H1 => sp (vs ++ []) H1 Q E
  simp only [List.append_nil]
  exact h
def NewT (xs : List V) (H : Hp) (Q : VK) : Prop := xs.length ≤ sizeLine ∧ ∀ p, H p = none → Q (.ref p) (upd H p (.tup xs))
def NewL (xs : List V) (H : Hp) (Q : VK) : Prop := xs.length ≤ sizeLine ∧ ∀ p, H p = none → Q (.ref p) (upd H p (.lst xs))
theorem k_tup (h : tr σ H fun xs H1 => NewT xs H1 Q) : tTup tr σ H Q := h
theorem k_lst (h : tr σ H fun xs H1 => NewL xs H1 Q) : tLst tr σ H Q := h
theorem k_newtup {xs : List V} (hl : xs.length ≤ 1000) (h : ∀ p H2, H p = none → Same H H2 → H2 p = some (.tup xs) → Q (.ref p) H2) : NewT xs H Q :=
  ⟨Nat.le_trans hl (by decide), fun p hp => h p _ hp (same_new hp) upd_same⟩
theorem k_newlst {xs : List V} (hl : xs.length ≤ 1000) (h : ∀ p H2, H p = none → Same H H2 → H2 p = some (.lst xs) → Q (.ref p) H2) : NewL xs H Q :=
  ⟨Nat.le_trans hl (by decide), fun p hp => h p _ hp (same_new hp) upd_same⟩
theorem k_ifx {Q : VK} (h : t σ H fun c H1 => if c = true then ta σ H1 Q else tb σ H1 Q) : tIf t ta tb σ H Q := h
theorem k_andV (h : ta σ H fun x H1 => ∃ c, x = .bl c ∧ if c = true then tb σ H1 Q else Q (.bl false) H1) : tAndV ta tb σ H Q := h
theorem k_orV (h : ta σ H fun x H1 => ∃ c, x = .bl c ∧ if c = true then Q (.bl true) H1 else tb σ H1 Q) : tOrV ta tb σ H Q := h
theorem k_notV (h : ta σ H fun x H1 => ∃ c, x = .bl c ∧ Q (.bl (!c)) H1) : tNotV ta σ H Q := h
theorem k_chain (h : ta σ H fun x H1 => tb σ H1 fun y H2 => r x y H2 fun z H3 => ∃ k, z = .bl k ∧ (if k = true then tc σ H3 fun w' H4 => r' y w' H4 Q else Q (.bl false) H3)) : tChain r r' ta tb tc σ H Q := h
theorem k_and2 {i j : Nat} {x y : Bool} (h1 : σ[i]? = some (some (.bl x))) (h2 : σ[j]? = some (some (.bl y))) (q : Q (.bl (x && y)) H) : tAndV (tVar i) (tVar j) σ H Q :=
  ⟨_, h1, x, rfl, by cases x with
    | true => rw [if_pos rfl]; exact ⟨_, h2, q⟩
    | false => rw [if_neg Bool.false_ne_true]; exact q⟩
theorem k_or2 {i j : Nat} {x y : Bool} (h1 : σ[i]? = some (some (.bl x))) (h2 : σ[j]? = some (some (.bl y))) (q : Q (.bl (x || y)) H) : tOrV (tVar i) (tVar j) σ H Q :=
  ⟨_, h1, x, rfl, by cases x with
    | true => rw [if_pos rfl]; exact q
    | false => rw [if_neg Bool.false_ne_true]; exact ⟨_, h2, q⟩⟩
theorem k_andn2 {i j : Nat} {x y : Bool} (h1 : σ[i]? = some (some (.bl x))) (h2 : σ[j]? = some (some (.bl y))) (q : Q (.bl (x && !y)) H) : tAndV (tVar i) (tNotV (tVar j)) σ H Q :=
  ⟨_, h1, x, rfl, by cases x with
    | true => rw [if_pos rfl]; exact ⟨_, h2, _, rfl, q⟩
    | false => rw [if_neg Bool.false_ne_true]; exact q⟩
/-- a truth value told -/
theorem k_bl {p : Bool → Prop} {c : Bool} (h : p c) : ∃ k, V.bl c = .bl k ∧ p k := ⟨c, rfl, h⟩
/-! ### steps: tests -/
theorem k_test {Q : Bool → Hp → Prop} (h : ta σ H fun x H' => ∃ k, x = .bl k ∧ Q k H') : tTest ta σ H Q := h
theorem k_B {Q : Bool → Hp → Prop} (h : ta σ H fun x H' => ∃ k, x = .bl k ∧ Q k H') : tB ta σ H Q := h
theorem k_and {Q : Bool → Hp → Prop} (h : t σ H fun c H1 => if c = true then u σ H1 Q else Q false H1) : tAnd t u σ H Q := h
theorem k_or {Q : Bool → Hp → Prop} (h : t σ H fun c H1 => if c = true then Q true H1 else u σ H1 Q) : tOr t u σ H Q := h
theorem k_not {Q : Bool → Hp → Prop} (h : t σ H fun c H1 => Q (!c) H1) : tNot t σ H Q := h
/-! ### branches -/
theorem if_dec {p A B : Prop} [Decidable p] (h1 : p → A) (h2 : ¬ p → B) : if decide p = true then A else B := by
  by_cases h : p
  · rw [if_pos (decide_eq_true h)]; exact h1 h
  · rw [if_neg (by rw [decide_eq_false h]; decide)]; exact h2 h
theorem if_ndec {p A B : Prop} [Decidable p] (h1 : ¬ p → A) (h2 : p → B) : if (!decide p) = true then A else B := by
  by_cases h : p
  · rw [if_neg (by rw [decide_eq_true h]; decide)]; exact h2 h
  · rw [if_pos (by rw [decide_eq_false h]; rfl)]; exact h1 h
theorem if_b {c : Bool} {A B : Prop} (h1 : c = true → A) (h2 : c = false → B) : if c = true then A else B := by
  cases c with
  | true => rw [if_pos rfl]; exact h1 rfl
  | false => rw [if_neg Bool.false_ne_true]; exact h2 rfl
theorem if_t {A B : Prop} (h : A) : if true = true then A else B := iteT h
theorem if_f {A B : Prop} (h : B) : if false = true then A else B := iteF h
theorem if_nt {A B : Prop} (h : A) : if (!false) = true then A else B := iteT h
theorem if_nf {A B : Prop} (h : B) : if (!true) = true then A else B := iteF h
theorem fin_t {c : Bool} (hc : c = true) (q : Q (.bl true) H) : Q (.bl c) H := by rw [hc]; exact q
/-! ### steps: statements -/
theorem k_seq {t u : TS} (h : t { D with nx := u D } σ H) : tSeq t u D σ H := h
theorem k_seqA {g : TG} {u : TS} (h : tAsg te g { D with nx := u D } σ H) : tSeq (tAsg te g) u D σ H := h
theorem k_seqD {u : TS} (h : tDrop te { D with nx := u D } σ H) : tSeq (tDrop te) u D σ H := h
theorem k_seqP {i j : Nat} {u : TS} (h : tPar i j tr { D with nx := u D } σ H) : tSeq (tPar i j tr) u D σ H := h
theorem k_seqI {t u : TS} {c : TT} {w : TS} (h : c σ H fun b H1 => if b = true then t { D with nx := w D } σ H1 else u { D with nx := w D } σ H1) : tSeq (tIfS c t u) w D σ H := h
theorem k_nx {f : L2.St → Hp → Prop} {r : VK} {b c : L2.St → Hp → Prop} (h : f σ H) : Ends.nx ⟨f, r, b, c⟩ σ H := h
theorem k_rt {f : L2.St → Hp → Prop} {r : VK} {b c : L2.St → Hp → Prop} (h : r v H) : Ends.rt ⟨f, r, b, c⟩ v H := h
theorem k_next (h : D.nx σ H) : tNext D σ H := h
theorem k_asg {i : Nat} (h : te σ H fun x H1 => D.nx (σ.set i (some x)) H1) : tAsg te (gName i) D σ H := h
theorem k_asgG {g : TG} (h : te σ H fun x H1 => g x σ H1 D.nx) : tAsg te g D σ H := h
theorem k_gname {Q : L2.St → Hp → Prop} (h : Q (σ.set i (some v)) H) : gName i v σ H Q := h
theorem k_gtup {tg : TGs} {n : Nat} {p : Addr} {xs : List V} {Q : L2.St → Hp → Prop} (h : SqT K H p xs) (hl : xs.length = n) (q : tg xs σ H Q) : gTup K n tg (.ref p) σ H Q := ⟨p, xs, rfl, h, hl, q⟩
theorem k_gcons {tg : TG} {ug : TGs} {vs : List V} {Q : L2.St → Hp → Prop} (q : tg v σ H fun σ' H' => ug vs σ' H' Q) : gCons tg ug (v :: vs) σ H Q := ⟨v, vs, rfl, q⟩
theorem k_gnil {Q : L2.St → Hp → Prop} (q : Q σ H) : gNil [] σ H Q := ⟨rfl, q⟩
theorem k_par {i j : Nat} (h : tr σ H fun vs H1 => ∃ v w, vs = [v, w] ∧ D.nx ((σ.set i (some v)).set j (some w)) H1) : tPar i j tr D σ H := h
theorem k_par2 {P : V → V → Prop} {x y : V} (h : P x y) : ∃ v w, [x, y] = [v, w] ∧ P v w := ⟨x, y, rfl, h⟩
theorem k_drop (h : te σ H fun _ H1 => D.nx σ H1) : tDrop te D σ H := h
theorem k_ret (h : te σ H D.rt) : tRet te D σ H := h
theorem k_retN (h : D.rt .non H) : tRetN D σ H := h
theorem k_if {t u : TS} {c : TT} (h : c σ H fun b H1 => if b = true then t D σ H1 else u D σ H1) : tIfS c t u D σ H := h
theorem k_cutI {t u w : TS} {c : TT} (P : L2.St → Hp → Prop) (h1 : ∀ N : L2.St → Hp → Prop, (∀ σ' H', P σ' H' → N σ' H') → c σ H fun b H1 => if b = true then t { D with nx := N } σ H1 else u { D with nx := N } σ H1) (h2 : ∀ σ' H', P σ' H' → w D σ' H') : tSeq (tIfS c t u) w D σ H := h1 _ h2
/-- the ways of a statement meet again: what holds behind it -/
theorem k_cut {t u : TS} (P : L2.St → Hp → Prop) (h1 : ∀ N : L2.St → Hp → Prop, (∀ σ' H', P σ' H' → N σ' H') → t { D with nx := N } σ H) (h2 : ∀ σ' H', P σ' H' → u D σ' H') : tSeq t u D σ H := h1 _ h2
/-! ### loops -/
theorem k_seqW {t : TT} {tb u : TS} (h : tWhile t tb { D with nx := u D } σ H) : tSeq (tWhile t tb) u D σ H := h
theorem k_seqF {wi : TI} {g : TG} {tb u : TS} (h : tFor wi g tb { D with nx := u D } σ H) : tSeq (tFor wi g tb) u D σ H := h
theorem k_while {t : TT} {tb : TS} (W : Nat → L2.St → Hp → Prop) (m : Nat) (h0 : W m σ H) (hs : ∀ m σ H, W m σ H → t σ H fun b H1 => if b = true then ∃ N : L2.St → Hp → Prop, (∀ σ' H', N σ' H' → ∃ m', m' < m ∧ W m' σ' H') ∧ tb { D with nx := N, ct := N, bk := D.nx } σ H1 else D.nx σ H1) : tWhile t tb D σ H := ⟨W, ⟨m, h0⟩, hs⟩
theorem k_turn {tb : TS} {W : Nat → L2.St → Hp → Prop} {m : Nat} (h : tb { D with nx := fun σ' H' => ∃ m', m' < m ∧ W m' σ' H', ct := fun σ' H' => ∃ m', m' < m ∧ W m' σ' H', bk := D.nx } σ H) : ∃ N : L2.St → Hp → Prop, (∀ σ' H', N σ' H' → ∃ m', m' < m ∧ W m' σ' H') ∧ tb { D with nx := N, ct := N, bk := D.nx } σ H := ⟨_, fun _ _ h => h, h⟩
def ForG (J : It) (g : TG) (tb : TS) (D : Ends) (σ : L2.St) (H1 : Hp) : Prop := ∃ W : Nat → Nat → L2.St → Hp → Prop, (∃ m, W 0 m σ H1) ∧ ∀ i m σ H, W i m σ H →
  (J.stop i H ∧ D.nx σ H) ∨ (J.go i H ∧ ∃ N : L2.St → Hp → Prop, (∀ σ' H', N σ' H' → ∃ m', m' < m ∧ W (i + 1) m' σ' H') ∧ ∀ x H', J.yld i H x H' → g x σ H' fun σ2 H2 => tb { D with nx := N, ct := N, bk := D.nx } σ2 H2)
theorem k_for {wi : TI} {g : TG} {tb : TS} (h : wi σ H fun J H1 => ForG J g tb D σ H1) : tFor wi g tb D σ H := h
/-! ### comprehensions over a range -/
def Rng1 (vs : List V) (H : Hp) (R : It → Hp → Prop) : Prop := ∃ j : Int, vs = [.int j] ∧ -(2 ^ 62) ≤ j ∧ j < 2 ^ 62 ∧ R (Itr 0 j.toNat) H
def Rng2 (vs : List V) (H : Hp) (R : It → Hp → Prop) : Prop := ∃ i j : Int, vs = [.int i, .int j] ∧ (-(2 ^ 62) ≤ i ∧ i < 2 ^ 62 ∧ -(2 ^ 62) ≤ j ∧ j < 2 ^ 62) ∧ R (Itr i (j - i).toNat) H
theorem k_irng1 {R : It → Hp → Prop} (h : tr σ H fun vs H1 => Rng1 vs H1 R) : iRng1 tr σ H R := h
theorem k_irng2 {R : It → Hp → Prop} (h : tr σ H fun vs H1 => Rng2 vs H1 R) : iRng2 tr σ H R := h
theorem k_rng1 {n : Int} {R : It → Hp → Prop} (h0 : -(2 ^ 62) ≤ n ∧ n < 2 ^ 62) (h : R (Itr 0 n.toNat) H) : Rng1 [V.int n] H R := ⟨n, rfl, h0.1, h0.2, h⟩
theorem k_rng2 {n : Int} {R : It → Hp → Prop} (h0 : -(2 ^ 62) ≤ m ∧ m < 2 ^ 62 ∧ -(2 ^ 62) ≤ n ∧ n < 2 ^ 62) (h : R (Itr m (n - m).toNat) H) : Rng2 [V.int m, V.int n] H R := ⟨m, n, rfl, h0, h⟩
def LcG (J : It) (H1 : Hp) (g : TG) (tt : TT) (te : TE) (vs : List Nat) (σ : L2.St) (Q : VK) : Prop := ∀ D, H1 D = none → ∃ W : Nat → Nat → Hp → Prop, (∃ m, W 0 m (upd H1 D (.lst []))) ∧ ∀ i m H, W i m H →
  (J.stop i H ∧ Q (.ref D) H) ∨ (J.go i H ∧ ∃ Nx : Hp → Prop, (∀ H', Nx H' → ∃ m', m' < m ∧ W (i + 1) m' H') ∧ ∀ x H', J.yld i H x H' → g x (wipe σ vs) H' fun σ2 H2 => wipe σ2 vs = wipe σ vs ∧ tt σ2 H2 fun b H3 =>
    if b = true then te σ2 H3 fun y H4 => ∃ acc, H4 D = some (.lst acc) ∧ acc.length < sizeLine ∧ Nx (upd H4 D (.lst (acc ++ [y]))) else Nx H3)
theorem k_lc {wi : TI} {g : TG} {tt : TT} {vs : List Nat} (h : wi σ H fun J H1 => LcG J H1 g tt te vs σ Q) : tLc wi g tt te vs σ H Q := h
/-- [e for k in range(..)]: the list of the values, each told by its place -/
theorem k_lcr {lo : Int} {n j : Nat} (L : List V) (hl : L.length = n) (hz : n ≤ 1000000)
    (hs : ∀ (i : Nat) (v : V) (H2 : Hp) (R : VK), L[i]? = some v → Same H1 H2 → (∀ H3, Same H2 H3 → R v H3) → te (σ.set j (some (.int (lo + i)))) H2 R)
    (q : ∀ D H2, H1 D = none → Same H1 H2 → H2 D = some (.lst L) → Q (.ref D) H2) :
    LcG (Itr lo n) H1 (gName j) tYes te [j] σ Q := by
  intro D hD
  refine lc_range (fun i H' => Same H1 H' ∧ H' D = some (.lst (L.take i))) ⟨same_new hD, by rw [upd_same]; rfl⟩ (fun i H' hi ⟨sm, hd⟩ => ?_) (fun H' ⟨sm, hd⟩ => q D H' hD sm (by rw [hd, List.take_of_length_le (by omega)]))
  have ew : ∀ y : V, (wipe σ [j]).set j (some y) = σ.set j (some y) := fun y => by
    show ((σ.set j none).set j (some y)) = _
    rw [List.set_set]
  show wipe ((wipe σ [j]).set j _) [j] = wipe σ [j] ∧ _
  rw [ew]
  refine ⟨by show (σ.set j _).set j none = σ.set j none; rw [List.set_set], ?_⟩
  refine hs i (L[i]'(by omega)) H' _ (List.getElem?_eq_getElem (by omega)) sm fun H3 s3 => ?_
  refine ⟨L.take i, s3 _ _ hd, Nat.lt_of_le_of_lt (Nat.le_trans (by rw [List.length_take]; exact Nat.min_le_left _ _) (show i ≤ 1000000 by omega)) (by rw [sizeLine_eq]; decide), same_mut (sm.trans s3) hD, ?_⟩
  rw [upd_same, List.take_add_one, List.getElem?_eq_getElem (show i < L.length by omega)]
  rfl
/-! ### comprehensions and loops over a list, a tuple -/
def SqI (J : Addr → It) (ok : Addr → Hp → Prop) (x : V) (H : Hp) (R : It → Hp → Prop) : Prop := ∃ a, x = .ref a ∧ ok a H ∧ R (J a) H
theorem k_itup {tl : TE} {R : It → Hp → Prop} (h : tl σ H fun x H1 => SqI (Itt K) (fun a H => ∃ xs, SqT K H a xs) x H1 R) : iTup K tl σ H R := h
theorem k_ilst {tl : TE} {R : It → Hp → Prop} (h : tl σ H fun x H1 => SqI (Itl K) (fun a H => ∃ xs, SqL K H a xs) x H1 R) : iList K tl σ H R := h
theorem k_sqt {p : Addr} {xs : List V} {R : It → Hp → Prop} (h : SqT K H p xs) (q : R (Itt K p) H) : SqI (Itt K) (fun a H => ∃ xs, SqT K H a xs) (.ref p) H R := ⟨p, rfl, ⟨xs, h⟩, q⟩
theorem k_sql {p : Addr} {xs : List V} {R : It → Hp → Prop} (h : SqL K H p xs) (q : R (Itl K p) H) : SqI (Itl K) (fun a H => ∃ xs, SqL K H a xs) (.ref p) H R := ⟨p, rfl, ⟨xs, h⟩, q⟩
theorem wipe_set {σ : L2.St} {j : Nat} {y : V} : (wipe σ [j]).set j (some y) = σ.set j (some y) := by
  show ((σ.set j none).set j (some y)) = _
  rw [List.set_set]
theorem wipe_set2 {σ : L2.St} {j : Nat} {y : V} : wipe (σ.set j (some y)) [j] = wipe σ [j] := by
  show (σ.set j _).set j none = σ.set j none
  rw [List.set_set]
/-- [e for x in t], t a tuple: the list of the values -/
theorem k_lct {a : Addr} {xs : List V} {j : Nat} (hx : SqT K H1 a xs) (L : List V) (hl : L.length = xs.length) (hz : xs.length ≤ 1000000)
    (hs : ∀ (i : Nat) (x v : V) (H2 : Hp) (R : VK), xs[i]? = some x → L[i]? = some v → Same H1 H2 → (∀ H3, Same H2 H3 → R v H3) → te (σ.set j (some x)) H2 R)
    (q : ∀ D H2, H1 D = none → Same H1 H2 → H2 D = some (.lst L) → Q (.ref D) H2) : LcG (Itt K a) H1 (gName j) tYes te [j] σ Q := by
  intro D hD
  refine lc_tup (fun i H' => Same H1 H' ∧ H' D = some (.lst (L.take i))) ⟨same_new hD, by rw [upd_same]; rfl⟩ (fun i H' _ ⟨sm, _⟩ => same_t sm hx) (fun i x H' hi ⟨sm, hd⟩ => ?_) (fun H' ⟨sm, hd⟩ => q D H' hD sm (by rw [hd, List.take_of_length_le (by omega)]))
  have hil := (List.getElem?_eq_some_iff.mp hi).1
  show wipe ((wipe σ [j]).set j _) [j] = wipe σ [j] ∧ _
  rw [wipe_set]
  refine ⟨wipe_set2, ?_⟩
  refine hs i x (L[i]'(by omega)) H' _ hi (List.getElem?_eq_getElem (by omega)) sm fun H3 s3 => ?_
  refine ⟨L.take i, s3 _ _ hd, Nat.lt_of_le_of_lt (Nat.le_trans (by rw [List.length_take]; exact Nat.min_le_left _ _) (show i ≤ 1000000 by omega)) (by rw [sizeLine_eq]; decide), same_mut (sm.trans s3) hD, ?_⟩
  rw [upd_same, List.take_add_one, List.getElem?_eq_getElem (show i < L.length by omega)]
  rfl
/-- [e for x in xs], xs a list -/
theorem k_lcl {a : Addr} {xs : List V} {j : Nat} (hx : SqL K H1 a xs) (L : List V) (hl : L.length = xs.length) (hz : xs.length ≤ 1000000)
    (hs : ∀ (i : Nat) (x v : V) (H2 : Hp) (R : VK), xs[i]? = some x → L[i]? = some v → Same H1 H2 → (∀ H3, Same H2 H3 → R v H3) → te (σ.set j (some x)) H2 R)
    (q : ∀ D H2, H1 D = none → Same H1 H2 → H2 D = some (.lst L) → Q (.ref D) H2) : LcG (Itl K a) H1 (gName j) tYes te [j] σ Q := by
  intro D hD
  refine lc_list (fun i H' => Same H1 H' ∧ H' D = some (.lst (L.take i))) ⟨same_new hD, by rw [upd_same]; rfl⟩ (fun i H' _ ⟨sm, _⟩ => same_l sm hx) (fun i x H' hi ⟨sm, hd⟩ => ?_) (fun H' ⟨sm, hd⟩ => q D H' hD sm (by rw [hd, List.take_of_length_le (by omega)]))
  have hil := (List.getElem?_eq_some_iff.mp hi).1
  show wipe ((wipe σ [j]).set j _) [j] = wipe σ [j] ∧ _
  rw [wipe_set]
  refine ⟨wipe_set2, ?_⟩
  refine hs i x (L[i]'(by omega)) H' _ hi (List.getElem?_eq_getElem (by omega)) sm fun H3 s3 => ?_
  refine ⟨L.take i, s3 _ _ hd, Nat.lt_of_le_of_lt (Nat.le_trans (by rw [List.length_take]; exact Nat.min_le_left _ _) (show i ≤ 1000000 by omega)) (by rw [sizeLine_eq]; decide), same_mut (sm.trans s3) hD, ?_⟩
  rw [upd_same, List.take_add_one, List.getElem?_eq_getElem (show i < L.length by omega)]
  rfl
theorem rgc_pos {a b c : Int} (ha : 0 ≤ a) (ha' : a ≤ 1000000000) (hb : 0 ≤ b) (hb' : b ≤ 1000000000) (hc : 1 ≤ c) (hc' : c ≤ 1000000000) :
    ∃ n : Nat, RgC a b c n ∧ (n : Int) ≤ b ∧ ∀ i : Nat, i < n ↔ a + i * c < b := by
  have hpos : (0 : Int) ≤ Builtin.Range.rangeSize a b c := by
    unfold Builtin.Range.rangeSize
    rw [if_pos (by omega)]
    split
    · have := Int.ediv_nonneg (a := b - a - 1) (b := c) (by omega) (by omega); omega
    · omega
  have hle : Builtin.Range.rangeSize a b c ≤ b := by
    unfold Builtin.Range.rangeSize
    rw [if_pos (by omega)]
    split
    · have := Int.ediv_le_self c (show 0 ≤ b - a - 1 by omega); omega
    · omega
  obtain ⟨n, hn⟩ := Int.eq_ofNat_of_zero_le hpos
  refine ⟨n, ⟨by omega, by omega, ?_, hn⟩, by omega, fun i => ?_⟩
  · unfold Builtin.Range.small
    simp only [Builtin.Range.rangeFitsLong, Bool.and_eq_true, Bool.or_eq_true, decide_eq_true_eq, beq_iff_eq]
    rw [if_pos (show c > 0 by omega)]
    simp only [Bool.and_eq_true, decide_eq_true_eq]
    refine ⟨⟨⟨⟨?_, ?_⟩, ?_⟩, ?_⟩, .inr ?_⟩ <;> omega
  · unfold Builtin.Range.rangeSize at hn
    rw [if_pos (show c > 0 by omega)] at hn
    have e1 := Int.emod_add_mul_ediv (b - a - 1) c
    have e2 := Int.emod_nonneg (b - a - 1) (show c ≠ 0 by omega)
    have e3 := Int.emod_lt_of_pos (b - a - 1) (show 0 < c by omega)
    by_cases hab : a < b
    · rw [if_pos hab] at hn
      generalize (b - a - 1) / c = q at *
      constructor
      · intro hi
        have : c * (i : Int) ≤ c * q := Int.mul_le_mul_of_nonneg_left (by omega) (by omega)
        rw [Int.mul_comm (i : Int)]; omega
      · intro hi
        by_cases h : (i : Int) ≤ q
        · omega
        · have : c * (q + 1) ≤ c * (i : Int) := Int.mul_le_mul_of_nonneg_left (by omega) (by omega)
          rw [Int.mul_add] at this
          rw [Int.mul_comm (i : Int)] at hi; omega
    · rw [if_neg hab] at hn
      constructor
      · intro hi; omega
      · intro hi
        have : 0 ≤ (i : Int) * c := Int.mul_nonneg (by omega) (by omega)
        omega
def Rng3 (vs : List V) (H : Hp) (R : It → Hp → Prop) : Prop := ∃ (i j c : Int) (n : Nat), vs = [.int i, .int j, .int c] ∧ RgC i j c n ∧ R (Itc i c n) H
theorem k_irng3 {R : It → Hp → Prop} (h : tr σ H fun vs H1 => Rng3 vs H1 R) : iRng3 tr σ H R := h
theorem k_rng3 {i j c : Int} {n : Nat} {R : It → Hp → Prop} (h0 : RgC i j c n) (h : R (Itc i c n) H) : Rng3 [V.int i, V.int j, V.int c] H R := ⟨i, j, c, n, rfl, h0, h⟩
/-! ### list(range(..)), list + list -/
def LstRg (x : V) (H : Hp) (Q : VK) : Prop := ∃ n, x = .int n ∧ (RgOk 0 n ∧ ∀ q, H q = none → Q (.ref q) (upd H q (.lst (rgV 0 n))))
theorem k_lstrg (h : ta σ H fun x H1 => LstRg x H1 Q) : tLstRg (tRg1 ta) σ H Q := h
theorem k_lstrgV (h0 : 0 ≤ a ∧ a ≤ 16777216) (h : ∀ p H2, H p = none → Same H H2 → H2 p = some (.lst (rgV 0 a)) → Q (.ref p) H2) : LstRg (.int a) H Q :=
  ⟨a, rfl, RgOk.of_le (by omega) h0.2 (by omega) h0.1, fun p hp => h p _ hp (same_new hp) upd_same⟩
/-! ### any comprehension: over what tells n items one by one, with a test -/
theorem k_lcG {J : It} {n j : Nat} {item : Nat → V} {tt : TT} (p : Nat → Bool) (g : Nat → V) (hz : n ≤ 1000000)
    (hgo : ∀ i H2, Same H1 H2 → i < n → J.go i H2) (hy : ∀ i H2 x H', Same H1 H2 → i < n → J.yld i H2 x H' → H' = H2 ∧ x = item i) (hst : ∀ H2, Same H1 H2 → J.stop n H2)
    (ht : ∀ i H2 (R : Bool → Hp → Prop), i < n → Same H1 H2 → (∀ H3, Same H2 H3 → R (p i) H3) → tt (σ.set j (some (item i))) H2 R)
    (hv : ∀ i H2 (R : VK), i < n → p i = true → Same H1 H2 → (∀ H3, Same H2 H3 → R (g i) H3) → te (σ.set j (some (item i))) H2 R)
    (q : ∀ D H2, H1 D = none → Same H1 H2 → H2 D = some (.lst (((List.range n).filter p).map g)) → Q (.ref D) H2) : LcG J H1 (gName j) tt te [j] σ Q := by
  intro D hD
  refine ⟨fun i m H' => m = n - i ∧ i ≤ n ∧ Same H1 H' ∧ H' D = some (.lst (((List.range i).filter p).map g)), ⟨n, rfl, Nat.zero_le _, same_new hD, by rw [upd_same]; rfl⟩, ?_⟩
  rintro i m H' ⟨rfl, hi, sm, hd⟩
  by_cases hlt : i < n
  · refine .inr ⟨hgo i H' sm hlt, fun H'' => i + 1 ≤ n ∧ Same H1 H'' ∧ H'' D = some (.lst (((List.range (i + 1)).filter p).map g)), fun H'' ⟨a, b, c⟩ => ⟨n - (i + 1), by omega, rfl, a, b, c⟩, fun x H'' y => ?_⟩
    obtain ⟨rfl, rfl⟩ := hy i H' x H'' sm hlt y
    show wipe ((wipe σ [j]).set j _) [j] = wipe σ [j] ∧ _
    rw [wipe_set]
    refine ⟨wipe_set2, ht i H'' _ hlt sm fun H3 s3 => ?_⟩
    have er : ((List.range (i + 1)).filter p).map g = ((List.range i).filter p).map g ++ (if p i = true then [g i] else []) := by
      rw [List.range_succ, List.filter_append, List.map_append]
      congr 1
      by_cases h : p i = true <;> simp [h]
    cases hp : p i with
    | true =>
      refine hv i H3 _ hlt hp (sm.trans s3) fun H4 s4 => ?_
      refine ⟨_, s4 _ _ (s3 _ _ hd), ?_, hlt, same_mut ((sm.trans s3).trans s4) hD, ?_⟩
      · rw [List.length_map]
        refine Nat.lt_of_le_of_lt (Nat.le_trans (List.length_filter_le _ _) (by rw [List.length_range]; exact (show i ≤ 1000000 by omega))) (by rw [sizeLine_eq]; decide)
      · rw [upd_same, er, if_pos hp]
    | false =>
      refine ⟨hlt, sm.trans s3, ?_⟩
      rw [s3 _ _ hd, er, if_neg (by rw [hp]; decide), List.append_nil]
  · have e : i = n := by omega
    subst e
    exact .inl ⟨hst H' sm, q D H' hD sm hd⟩
theorem k_lcrf {lo : Int} {n j : Nat} {tt : TT} (p : Nat → Bool) (g : Nat → V) (hz : n ≤ 1000000)
    (ht : ∀ i H2 (R : Bool → Hp → Prop), i < n → Same H1 H2 → (∀ H3, Same H2 H3 → R (p i) H3) → tt (σ.set j (some (.int (lo + i)))) H2 R)
    (hv : ∀ i H2 (R : VK), i < n → p i = true → Same H1 H2 → (∀ H3, Same H2 H3 → R (g i) H3) → te (σ.set j (some (.int (lo + i)))) H2 R)
    (q : ∀ D H2, H1 D = none → Same H1 H2 → H2 D = some (.lst (((List.range n).filter p).map g)) → Q (.ref D) H2) : LcG (Itr lo n) H1 (gName j) tt te [j] σ Q :=
  k_lcG (item := fun i => .int (lo + i)) p g hz (fun i H2 _ h => h) (fun i H2 x H' _ _ y => ⟨y.1, y.2⟩) (fun H2 _ => Nat.le_refl _) ht hv q
theorem k_lccf {lo c : Int} {n j : Nat} {tt : TT} (p : Nat → Bool) (g : Nat → V) (hz : n ≤ 1000000)
    (ht : ∀ i H2 (R : Bool → Hp → Prop), i < n → Same H1 H2 → (∀ H3, Same H2 H3 → R (p i) H3) → tt (σ.set j (some (.int (lo + (i : Nat) * c)))) H2 R)
    (hv : ∀ i H2 (R : VK), i < n → p i = true → Same H1 H2 → (∀ H3, Same H2 H3 → R (g i) H3) → te (σ.set j (some (.int (lo + (i : Nat) * c)))) H2 R)
    (q : ∀ D H2, H1 D = none → Same H1 H2 → H2 D = some (.lst (((List.range n).filter p).map g)) → Q (.ref D) H2) : LcG (Itc lo c n) H1 (gName j) tt te [j] σ Q :=
  k_lcG (item := fun i => .int (lo + (i : Nat) * c)) p g hz (fun i H2 _ h => h) (fun i H2 x H' _ _ y => ⟨y.1, y.2⟩) (fun H2 _ => Nat.le_refl _) ht hv q
theorem k_lclf {a : Addr} {xs : List V} {j : Nat} {tt : TT} (hx : SqL K H1 a xs) (p : Nat → Bool) (g : Nat → V) (hz : xs.length ≤ 1000000)
    (ht : ∀ i H2 (R : Bool → Hp → Prop), i < xs.length → Same H1 H2 → (∀ H3, Same H2 H3 → R (p i) H3) → tt (σ.set j (some (xs.getD i .non))) H2 R)
    (hv : ∀ i H2 (R : VK), i < xs.length → p i = true → Same H1 H2 → (∀ H3, Same H2 H3 → R (g i) H3) → te (σ.set j (some (xs.getD i .non))) H2 R)
    (q : ∀ D H2, H1 D = none → Same H1 H2 → H2 D = some (.lst (((List.range xs.length).filter p).map g)) → Q (.ref D) H2) : LcG (Itl K a) H1 (gName j) tt te [j] σ Q :=
  k_lcG (item := fun i => xs.getD i .non) p g hz (fun i H2 s h => ⟨xs, xs[i], same_l s hx, by simp [h]⟩) (fun i H2 x H' s h y => by
    obtain ⟨e, y⟩ := y
    refine ⟨e, ?_⟩
    have := y xs (same_l s hx)
    rw [List.getD_eq_getElem?_getD, this]; rfl) (fun H2 s => ⟨xs, same_l s hx, Nat.le_refl _⟩) ht hv q
theorem range_all {α : Type} (xs : List α) (d : α) : ((List.range xs.length).filter fun _ => true).map (fun i => xs.getD i d) = xs := by
  rw [List.filter_eq_self.mpr (fun _ _ => rfl)]
  apply List.ext_getElem
  · simp
  · intro i h1 h2
    simp [List.getD_eq_getElem?_getD, List.getElem?_eq_getElem h2]
/-! ### operators by values -/
def rAddA : R2 := fun x y H Q => rI0 (fun i j => .int (i + j)) x y H Q ∨ (∃ i j, x = .str i ∧ y = .str j ∧ i.length + j.length ≤ sizeLine ∧ Q (.str (i ++ j)) H) ∨ rCat x y H Q
theorem op_addA {X : Cx} : OpR X (binaryOp .Add) rAddA := op_add.or (op_add_str.or op_cat)
theorem k_add (q : Q (.int (a + b)) H) : rAddA (.int a) (.int b) H Q := .inl ⟨a, b, rfl, rfl, q⟩
theorem k_cat {l c : Addr} {xs zs : List V} (h1 : H l = some (.lst xs)) (h2 : H c = some (.lst zs)) (hl : xs.length + zs.length ≤ 16000000) (h : ∀ p H2, H p = none → Same H H2 → H2 p = some (.lst (xs ++ zs)) → Q (.ref p) H2) : rAddA (.ref l) (.ref c) H Q :=
  .inr (.inr ⟨l, c, xs, zs, rfl, rfl, h1, h2, Nat.le_trans hl (by rw [sizeLine_eq]; decide), fun p hp => h p _ hp (same_new hp) upd_same⟩)
def rEqA (K : PySem.W.Frag) : R2 := fun x y H Q => rEq x y H Q ∨ rEqD K x y H Q
def rNeA (K : PySem.W.Frag) : R2 := fun x y H Q => rNe x y H Q ∨ rNeD K x y H Q
theorem op_eqA {X : Cx} (hu : X.A.units + 64 < cLine) : OpR X (compareOp .Eq) (rEqA X.K) := op_eq.or (op_eqD hu)
theorem op_neA {X : Cx} (hu : X.A.units + 64 < cLine) : OpR X (compareOp .NotEq) (rNeA X.K) := op_ne.or (op_neD hu)
theorem dec_i : decide (V.int a = V.int b) = decide (a = b) := by
  by_cases h : a = b
  · subst h; simp
  · rw [decide_eq_false h, decide_eq_false (fun e => h (V.int.inj e))]
theorem dec_b {a b : Bool} : decide (V.bl a = V.bl b) = decide (a = b) := by
  by_cases h : a = b
  · subst h; simp
  · rw [decide_eq_false h, decide_eq_false (fun e => h (V.bl.inj e))]
theorem dec_s {a b : Str} : decide (V.str a = V.str b) = decide (a = b) := by
  by_cases h : a = b
  · subst h; simp
  · rw [decide_eq_false h, decide_eq_false (fun e => h (V.str.inj e))]
theorem k_eq (q : Q (.bl (decide (a = b))) H) : rEqA K (.int a) (.int b) H Q := .inl ⟨rfl, by rw [dec_i]; exact q⟩
theorem k_ne (q : Q (.bl (!decide (a = b))) H) : rNeA K (.int a) (.int b) H Q := .inl ⟨rfl, by rw [dec_i]; exact q⟩
theorem k_eqb {a b : Bool} (q : Q (.bl (decide (a = b))) H) : rEqA K (.bl a) (.bl b) H Q := .inl ⟨rfl, by rw [dec_b]; exact q⟩
theorem k_neb {a b : Bool} (q : Q (.bl (!decide (a = b))) H) : rNeA K (.bl a) (.bl b) H Q := .inl ⟨rfl, by rw [dec_b]; exact q⟩
theorem k_eqs {a b : Str} (q : Q (.bl (decide (a = b))) H) : rEqA K (.str a) (.str b) H Q := .inl ⟨rfl, by rw [dec_s]; exact q⟩
theorem k_nes {a b : Str} (q : Q (.bl (!decide (a = b))) H) : rNeA K (.str a) (.str b) H Q := .inl ⟨rfl, by rw [dec_s]; exact q⟩
theorem k_ixT {p : Addr} {xs : List V} {i : Int} (h : SqT K H p xs) (ha : atI xs i = some v) (q : Q v H) : rIx K (.ref p) (.int i) H Q := .inr (.inl ⟨p, xs, i, v, rfl, rfl, h, ha, q⟩)
theorem k_ixL {p : Addr} {xs : List V} {i : Int} (h : SqL K H p xs) (ha : atI xs i = some v) (q : Q v H) : rIx K (.ref p) (.int i) H Q := .inl ⟨p, xs, i, v, rfl, rfl, h, ha, q⟩
theorem inV_ints {a : Int} : ∀ l : List Int, inV (.int a) (l.map V.int) = decide (a ∈ l)
  | [] => rfl
  | x :: r => by
    have ih := inV_ints (a := a) r
    show (inV (.int a) (.int x :: r.map V.int)) = _
    unfold inV at ih ⊢
    rw [List.any_cons, ih]
    have e : eqV (.int x) (.int a) = decide (a = x) := by
      show (x == a) = decide (a = x)
      by_cases h : a = x
      · subst h; simp
      · rw [decide_eq_false h]; simpa using fun e => h e.symm
    by_cases h : a = x
    · subst h; simp [e]
    · simp [e, h]
theorem flat_ints : ∀ l : List Int, (l.map V.int).all flatV = true
  | [] => rfl
  | x :: r => by rw [List.map_cons, List.all_cons, flat_ints r]; rfl
theorem k_inL {neg : Bool} {p : Addr} {l : List Int} (h : SqL K H p (l.map V.int)) (q : Q (.bl (if neg then !decide (a ∈ l) else decide (a ∈ l))) H) : rIn K neg (.int a) (.ref p) H Q :=
  ⟨p, l.map V.int, rfl, .inl h, rfl, flat_ints l, by rw [inV_ints]; exact q⟩
theorem k_notinL {p : Addr} {l : List Int} (h : SqL K H p (l.map V.int)) (q : Q (.bl (!decide (a ∈ l))) H) : rIn K true (.int a) (.ref p) H Q := k_inL (neg := true) h q
theorem k_inL' {p : Addr} {l : List Int} (h : SqL K H p (l.map V.int)) (q : Q (.bl (decide (a ∈ l))) H) : rIn K false (.int a) (.ref p) H Q := k_inL (neg := false) h q
theorem inV2 {x y : Int} : inV (.int a) [.int x, .int y] = decide (a = x ∨ a = y) := by
  have h := inV_ints (a := a) [x, y]
  have e : (decide (a ∈ [x, y])) = decide (a = x ∨ a = y) := by
    have : a ∈ [x, y] ↔ (a = x ∨ a = y) := by simp
    simp [this]
  exact h.trans e
theorem k_notin2 {p : Addr} {x y : Int} (h : SqL K H p [.int x, .int y]) (q : Q (.bl (!decide (a = x ∨ a = y))) H) : rIn K true (.int a) (.ref p) H Q :=
  ⟨p, _, rfl, .inl h, rfl, rfl, by rw [inV2]; exact q⟩
theorem k_in2 {p : Addr} {x y : Int} (h : SqL K H p [.int x, .int y]) (q : Q (.bl (decide (a = x ∨ a = y))) H) : rIn K false (.int a) (.ref p) H Q :=
  ⟨p, _, rfl, .inl h, rfl, rfl, by rw [inV2]; exact q⟩
def rIsN : R2 := fun x y H Q => y = .non ∧ Q (.bl (decide (x = .non))) H
def rNotN : R2 := fun x y H Q => y = .non ∧ Q (.bl (!decide (x = .non))) H
theorem kb_isN {X : Cx} : OpR X (compareOp .Is) rIsN := op_isN
theorem kb_notN {X : Cx} : OpR X (compareOp .IsNot) rNotN := op_notN
theorem k_isN_n (q : Q (.bl true) H) : rIsN .non .non H Q := ⟨rfl, q⟩
theorem k_isN_i (q : Q (.bl false) H) : rIsN (.int a) .non H Q := ⟨rfl, q⟩
theorem k_isN_r {p : Addr} (q : Q (.bl false) H) : rIsN (.ref p) .non H Q := ⟨rfl, q⟩
theorem k_notN_n (q : Q (.bl false) H) : rNotN .non .non H Q := ⟨rfl, q⟩
theorem k_notN_i (q : Q (.bl true) H) : rNotN (.int a) .non H Q := ⟨rfl, q⟩
theorem k_notN_r {p : Addr} (q : Q (.bl true) H) : rNotN (.ref p) .non H Q := ⟨rfl, q⟩
/-! ### == of pairs and lists of ints -/
theorem dp_ints : ∀ l : List Int, DpAll K H (l.map V.int) (l.map PyData.int)
  | [] => .nil
  | x :: r => .cons (.int x) (dp_ints r)
theorem eqv_ints : ∀ l m : List Int, PyData.eqvAll (l.map PyData.int) (m.map PyData.int) = decide (l = m)
  | [], [] => by simp [PyData.eqvAll]
  | [], _ :: _ => by simp [PyData.eqvAll]
  | _ :: _, [] => by simp [PyData.eqvAll]
  | x :: r, y :: t => by
    rw [List.map_cons, List.map_cons, PyData.eqvAll, eqv_ints r t, PyData.eqv]
    by_cases h : x = y <;> simp [h]
theorem shaped_tints (l : List Int) : SeqAt.shaped (.tuple (l.map PyData.int)) = true := by
  have h1 : ∀ l : List Int, PyData.canLayAll0 (l.map PyData.int) = true := fun l => by
    induction l with
    | nil => rfl
    | cons x r ih => rw [List.map_cons]; simp [PyData.canLayAll0, PyData.canLay0, ih]
  have h2 : ∀ l : List Int, PyData.depthAll (l.map PyData.int) ≤ 1 := fun l => by
    induction l with
    | nil => simp [PyData.depthAll]
    | cons x r ih => rw [List.map_cons]; simp [PyData.depthAll, PyData.depth]; omega
  have := h2 l
  simp [SeqAt.shaped, PyData.canLay0, PyData.depth, h1 l]
  omega
theorem shaped_lints (l : List Int) : SeqAt.shaped (.list (l.map PyData.int)) = true := by
  have h1 : ∀ l : List Int, PyData.canLayAll0 (l.map PyData.int) = true := fun l => by
    induction l with
    | nil => rfl
    | cons x r ih => rw [List.map_cons]; simp [PyData.canLayAll0, PyData.canLay0, ih]
  have h2 : ∀ l : List Int, PyData.depthAll (l.map PyData.int) ≤ 1 := fun l => by
    induction l with
    | nil => simp [PyData.depthAll]
    | cons x r ih => rw [List.map_cons]; simp [PyData.depthAll, PyData.depth]; omega
  have := h2 l
  simp [SeqAt.shaped, PyData.canLay0, PyData.depth, h1 l]
  omega
theorem k_eqT {p q : Addr} {l m : List Int} (h1 : SqT K H p (l.map V.int)) (h2 : SqT K H q (m.map V.int)) (r : Q (.bl (decide (l = m))) H) : rEqA K (.ref p) (.ref q) H Q :=
  .inr ⟨_, _, .tup h1 (dp_ints l), .tup h2 (dp_ints m), shaped_tints l, shaped_tints m, by rw [PyData.eqv, eqv_ints]; exact r⟩
theorem k_neT {p q : Addr} {l m : List Int} (h1 : SqT K H p (l.map V.int)) (h2 : SqT K H q (m.map V.int)) (r : Q (.bl (!decide (l = m))) H) : rNeA K (.ref p) (.ref q) H Q :=
  .inr ⟨_, _, .tup h1 (dp_ints l), .tup h2 (dp_ints m), shaped_tints l, shaped_tints m, by rw [PyData.eqv, eqv_ints]; exact r⟩
theorem k_eqL {p q : Addr} {l m : List Int} (h1 : SqL K H p (l.map V.int)) (h2 : SqL K H q (m.map V.int)) (r : Q (.bl (decide (l = m))) H) : rEqA K (.ref p) (.ref q) H Q :=
  .inr ⟨_, _, .lst h1 (dp_ints l), .lst h2 (dp_ints m), shaped_lints l, shaped_lints m, by rw [PyData.eqv, eqv_ints]; exact r⟩
theorem k_neL {p q : Addr} {l m : List Int} (h1 : SqL K H p (l.map V.int)) (h2 : SqL K H q (m.map V.int)) (r : Q (.bl (!decide (l = m))) H) : rNeA K (.ref p) (.ref q) H Q :=
  .inr ⟨_, _, .lst h1 (dp_ints l), .lst h2 (dp_ints m), shaped_lints l, shaped_lints m, by rw [PyData.eqv, eqv_ints]; exact r⟩
theorem k_eqP {p q : Addr} {c d : Int} (h1 : SqT K H p [.int a, .int b]) (h2 : SqT K H q [.int c, .int d]) (r : Q (.bl (decide (a = c ∧ b = d))) H) : rEqA K (.ref p) (.ref q) H Q :=
  k_eqT (l := [a, b]) (m := [c, d]) h1 h2 (by
    have e : decide ([a, b] = [c, d]) = decide (a = c ∧ b = d) := by simp
    rw [e]; exact r)
theorem k_neP {p q : Addr} {c d : Int} (h1 : SqT K H p [.int a, .int b]) (h2 : SqT K H q [.int c, .int d]) (r : Q (.bl (!decide (a = c ∧ b = d))) H) : rNeA K (.ref p) (.ref q) H Q :=
  k_neT (l := [a, b]) (m := [c, d]) h1 h2 (by
    have e : decide ([a, b] = [c, d]) = decide (a = c ∧ b = d) := by simp
    rw [e]; exact r)
/-! ### calls of built-ins by values -/
def rAbs : List V → Hp → VK → Prop := fun xs H Q => ∃ i, xs = [.int i] ∧ Q (.int (if i < 0 then -i else i)) H
theorem cb_abs {X : Cx} : CallR X (.builtin "abs") rAbs := call_abs
theorem k_abs (q : Q (.int (if a < 0 then -a else a)) H) : rAbs [.int a] H Q := ⟨a, rfl, q⟩
def rMax2 : List V → Hp → VK → Prop := fun xs H Q => ∃ i j, xs = [.int i, .int j] ∧ Q (.int (if j > i then j else i)) H
theorem cb_max2 {X : Cx} (hc : X.calm = true) : CallR X (.builtin "max") rMax2 := call_max2 hc
theorem k_max2 (q : ∀ k : Int, (k = a ∨ k = b) → a ≤ k → b ≤ k → Q (.int k) H) : rMax2 [.int a, .int b] H Q := ⟨a, b, rfl, by split <;> exact q _ (by omega) (by omega) (by omega)⟩
def rMin2 : List V → Hp → VK → Prop := fun xs H Q => ∃ i j, xs = [.int i, .int j] ∧ Q (.int (if j < i then j else i)) H
theorem cb_min2 {X : Cx} (hc : X.calm = true) : CallR X (.builtin "min") rMin2 := call_min2 hc
theorem k_min2 (q : ∀ k : Int, (k = a ∨ k = b) → k ≤ a → k ≤ b → Q (.int k) H) : rMin2 [.int a, .int b] H Q := ⟨a, b, rfl, by split <;> exact q _ (by omega) (by omega) (by omega)⟩
def rLen (K : PySem.W.Frag) : List V → Hp → VK → Prop := fun xs H Q => ∃ x n, xs = [x] ∧ LenV K x H n ∧ Q (.int n) H
theorem cb_len {X : Cx} : CallR X (.builtin "len") (rLen X.K) := call_len
theorem k_lenL {p : Addr} {xs : List V} (h : SqL K H p xs) (q : Q (.int (xs.length : Int)) H) : rLen K [.ref p] H Q := ⟨.ref p, xs.length, rfl, .inl ⟨xs, h, rfl⟩, q⟩
theorem k_lenT {p : Addr} {xs : List V} (h : SqT K H p xs) (q : Q (.int (xs.length : Int)) H) : rLen K [.ref p] H Q := ⟨.ref p, xs.length, rfl, .inr ⟨xs, h, rfl⟩, q⟩
def rDivmod : List V → Hp → VK → Prop := fun xs H Q => ∃ i j, xs = [.int i, .int j] ∧ CDivP i j ∧ ∀ p, H p = none → Q (.ref p) (upd H p (.tup [.int (i / j), .int (i % j)]))
theorem cb_divmod {X : Cx} : CallR X (.builtin "divmod") rDivmod := call_divmodW
theorem k_divmod (c : CDivP a b) (h : ∀ p H2, H p = none → Same H H2 → H2 p = some (.tup [.int (a / b), .int (a % b)]) → Q (.ref p) H2) : rDivmod [.int a, .int b] H Q :=
  ⟨a, b, rfl, c, fun p hp => h p _ hp (same_new hp) upd_same⟩
theorem k_sum {p : Addr} {l : List Int} (h : SqL K H p (l.map V.int)) (q : Q (.int l.sum) H) : rSum K [.ref p] H Q := ⟨p, l, rfl, h, q⟩
theorem k_all {p : Addr} {l : List Bool} (h : SqL K H p (l.map V.bl)) (q : Q (.bl (l.all id)) H) : rAll K [.ref p] H Q := ⟨p, l, rfl, h, q⟩
theorem k_any {p : Addr} {l : List Bool} (h : SqL K H p (l.map V.bl)) (q : Q (.bl (l.any id)) H) : rAny K [.ref p] H Q := ⟨p, l, rfl, h, q⟩
def BitsV (x : V) (H : Hp) (Q : VK) : Prop := ∃ i, x = .int i ∧ Q (.int (Builtin.Int.intBits i : Nat)) H
theorem k_bits (h : ta σ H fun x H1 => BitsV x H1 Q) : tBits ta σ H Q := h
theorem k_bitsV (q : Q (.int (Builtin.Int.intBits a : Nat)) H) : BitsV (.int a) H Q := ⟨a, rfl, q⟩
def rInt : List V → Hp → VK → Prop := fun xs H Q => (∃ i, xs = [.int i] ∧ Q (.int i) H) ∨ ∃ k, xs = [.bl k] ∧ Q (.int (if k then 1 else 0)) H
theorem cb_int {X : Cx} : CallR X (.type "int") rInt := call_int1
theorem k_intI (q : Q (.int a) H) : rInt [.int a] H Q := .inl ⟨a, rfl, q⟩
theorem k_intB {c : Bool} (q : Q (.int (if c then 1 else 0)) H) : rInt [.bl c] H Q := .inr ⟨c, rfl, q⟩
theorem k_isi_ii (q : Q (.bl true) H) : rIsi K [.int a, .ty "int"] H Q := ⟨.int a, .ty "int", .type "int", .type "int", true, rfl, .ty _, .base (.int _), kit_ty (by decide +kernel), q⟩
theorem k_isi_ib (q : Q (.bl false) H) : rIsi K [.int a, .ty "bool"] H Q := ⟨.int a, .ty "bool", .type "int", .type "bool", false, rfl, .ty _, .base (.int _), kit_ty (by decide +kernel), q⟩
theorem k_isi_bb {c : Bool} (q : Q (.bl true) H) : rIsi K [.bl c, .ty "bool"] H Q := ⟨.bl c, .ty "bool", .type "bool", .type "bool", true, rfl, .ty _, .base (.bl _), kit_ty (by decide +kernel), q⟩
theorem k_isi_it (q : Q (.bl false) H) : rIsi K [.int a, .ty "tuple"] H Q := ⟨.int a, .ty "tuple", .type "int", .type "tuple", false, rfl, .ty _, .base (.int _), kit_ty (by decide +kernel), q⟩
theorem tyx_t {p : Addr} {xs : List V} (h : SqT K H p xs) : TyX K H (.ref p) (.type "tuple") := by
  rcases h with (h | ⟨o, h⟩) | ⟨o, its, n, l, c, _⟩
  · exact .base (.tup h)
  · exact .fTuple h
  · exact .kTuple l c
theorem k_isi_tt {p : Addr} {xs : List V} (h : SqT K H p xs) (q : Q (.bl true) H) : rIsi K [.ref p, .ty "tuple"] H Q := ⟨.ref p, .ty "tuple", .type "tuple", .type "tuple", true, rfl, .ty _, tyx_t h, kit_ty (by decide +kernel), q⟩
/-! ### the rules that speak of the written part, by its own letter -/
section
variable {X : Cx} (K : PySem.W.Frag) (hK : X.K = K := by rfl)
include hK
theorem kb_ix : IxR X (rIx K) := hK ▸ ix_seq
theorem kb_eq (hu : X.A.units + 64 < cLine) : OpR X (compareOp .Eq) (rEqA K) := hK ▸ op_eqA hu
theorem kb_ne (hu : X.A.units + 64 < cLine) : OpR X (compareOp .NotEq) (rNeA K) := hK ▸ op_neA hu
theorem kb_in : OpR X (compareOp .In) (rIn K false) := hK ▸ op_in_seq
theorem kb_notIn : OpR X (compareOp .NotIn) (rIn K true) := hK ▸ op_notIn_seq
theorem kb_len : CallR X (.builtin "len") (rLen K) := hK ▸ cb_len
theorem kb_isi : CallR X (.builtin "isinstance") (rIsi K) := hK ▸ call_isi
theorem kb_sum (hc : X.calm = true) : CallR X (.builtin "sum") (rSum K) := hK ▸ cr_sum hc
theorem kb_max (hc : X.calm = true) : CallR X (.builtin "max") (rMax K) := hK ▸ cr_max hc
theorem kb_min (hc : X.calm = true) : CallR X (.builtin "min") (rMin K) := hK ▸ cr_min hc
theorem kb_all (hc : X.calm = true) : CallR X (.builtin "all") (rAll K) := hK ▸ cr_all hc
theorem kb_any (hc : X.calm = true) : CallR X (.builtin "any") (rAny K) := hK ▸ cr_any hc
end
/-- // by any divisor but 0, below 2 ^ 9000 -/
def CDivX (_ j : Int) : Prop := j ≠ 0 ∧ j.natAbs.log2 < 9000
theorem op_fdivX {X : Cx} : OpR X (binaryOp .FloorDiv) (rI CDivX fun i j => .int (i.fdiv j)) := opI fun i j _ _ _ _ _ hc q => floordiv_int hc.1 q (.inl (PyProof.noPylong_of_log2 hc.2))
/-- a power of written numbers -/
theorem pe_powc {X : Cx} {b e n : Int} {j1 j2 : Nat} {p1 p2 pos : Pos} (h : (0 ≤ e ∧ e ≤ 1000000 ∧ b.natAbs < 2 ^ 64) ∧ b ^ e.toNat = n) : PE X (.BinOp (.Constant (.int b) j1 p1) .Pow (.Constant (.int e) j2 p2) pos) (tC (.int n)) :=
  ⟨fun pins s σ H Q I q => (pe_op (X := X) op_pow pe_int pe_int).run pins s σ H Q I ⟨b, e, rfl, rfl, h.1, by show Q (.int (b ^ e.toNat)) H; rw [h.2]; exact q⟩⟩
end
/-! ### sizes -/
structure Sm (n : Nat) (i : Int) : Prop where
  h : i.natAbs < 2 ^ n
theorem sm_lit {i : Int} (h : i.natAbs < 2 ^ 400) : Sm 400 i := ⟨h⟩
theorem sm_mono {a b : Nat} {i : Int} (h : Sm a i) (hab : a ≤ b) : Sm b i := ⟨Nat.lt_of_lt_of_le h.h (Nat.pow_le_pow_right (by decide) hab)⟩
theorem sm41 {i : Int} (h1 : -1000000000000000000000000000000000000000000000000000000000000 ≤ i) (h2 : i ≤ 1000000000000000000000000000000000000000000000000000000000000) : Sm 200 i := by
  have e : (2 : Nat) ^ 200 = 1606938044258990275541962092341162602522202993782792835301376 := by decide
  refine ⟨?_⟩
  rw [e]; omega
theorem mul_bd {x k X Y : Int} (h1 : 1 ≤ x) (h2 : x ≤ X) (h3 : 1 ≤ k) (h4 : k ≤ Y) : 1 ≤ x * k ∧ x * k ≤ X * Y := by
  refine ⟨Int.mul_pos (by omega) (by omega), ?_⟩
  exact Int.mul_le_mul h2 h4 (by omega) (by omega)
theorem mul_bd2 {x k X Y : Int} (h1 : -X ≤ x) (h2 : x ≤ X) (h3 : -Y ≤ k) (h4 : k ≤ Y) : -(X * Y) ≤ x * k ∧ x * k ≤ X * Y := by
  have e : (x * k).natAbs ≤ X.natAbs * Y.natAbs := by rw [Int.natAbs_mul]; exact Nat.mul_le_mul (by omega) (by omega)
  have e2 : ((X.natAbs * Y.natAbs : Nat) : Int) = X * Y := by
    rw [Int.natCast_mul, show ((X.natAbs : Nat) : Int) = X by omega, show ((Y.natAbs : Nat) : Int) = Y by omega]
  omega
theorem sm_mul {i j : Int} {a b : Nat} (ha : Sm a i) (hb : Sm b j) : Sm (a + b) (i * j) := ⟨wide_lt ha.h hb.h⟩
theorem sm_bits {i : Int} {n : Nat} (h : Builtin.Int.intBits i ≤ n) : Sm n i := by
  unfold Builtin.Int.intBits at h
  split at h
  · rename_i z
    have : i = 0 := by simpa using z
    subst this
    exact ⟨Nat.pow_pos (by decide)⟩
  · rename_i z
    have hz : i.natAbs ≠ 0 := by
      intro q
      apply z
      have : i = 0 := by omega
      subst this
      decide
    exact ⟨Nat.lt_of_lt_of_le ((Nat.log2_lt hz).mp (Nat.lt_succ_self _)) (Nat.pow_le_pow_right (by decide) h)⟩
theorem sm_mulx {i j : Int} {a b : Nat} (ha : Sm a i) (hb : Sm b j) (h : a + b ≤ 134217728) : CMulX i j := mulx_ok ha.h hb.h h
theorem modbd {y n B : Int} (hn : 1 ≤ n) (h : n ≤ B) : 0 ≤ y % n ∧ y % n ≤ B := ⟨Int.emod_nonneg _ (by omega), by have := Int.emod_lt_of_pos y (show 0 < n by omega); omega⟩
theorem sm_divx {i j : Int} {b : Nat} (h : j ≠ 0) (hb : Sm b j) (h0 : 0 < b) (h9 : b ≤ 9000) : CDivX i j := ⟨h, Nat.lt_of_lt_of_le (PySem.Flt.log2_lt_of h0 hb.h) h9⟩
theorem sm_div {i j : Int} {b : Nat} (h : 0 < j) (hb : Sm b j) (h0 : 0 < b) (h9 : b ≤ 9000) : CDivW i j := wide_div h hb.h h0 h9
/-! ### range of great numbers -/
theorem turn_rangeL {P : Program} {w : World} {K : PySem.W.Frag} {tg : Expr} (it : Addr) (lo c : Int) (n : Nat) : Turn P w K tg (Itc lo c n) [it] it (fun i h => PySem.IsLongIter h it (lo + (i : Nat) * c) ((n : Int) - (i : Nat)) c) where
  mem := by simp
  obj := fun i h st b hb => by
    have e : b = it := by simpa using hb
    subst e
    exact ⟨_, st, fun v z => nomatch z⟩
  keep := fun i h h' st k => k it (by simp) _ st
  item := by
    intro X hP hw hK hc i pins s σ H E I hf st hg
    subst hP hw hK
    obtain ⟨f0, f1, f2, f3, f4, f5⟩ := hf it (by simp)
    have W := Walks.longrange (prog := X.prog) (w := X.w) (I.ok.hd hc) it lo c n
    refine W.item i s _ _ hg st fun v h' tk hv st' kk => ?_
    obtain ⟨t, rfl⟩ := hv
    have I1 : Inv X pins σ H { s with heap := h', toks := tk } := I.turned (fun b o hb e => kk b o (by simpa using hb) e) f0 f1 f3 f4 f5
    exact ⟨_, rfl, go_of (s := { s with heap := h', toks := tk }) (n := "longrange_iterator") st' rfl rfl (by decide) ⟨.int (lo + (i : Nat) * c), H, I1, ⟨t, rfl⟩, ⟨rfl, rfl⟩, st', fun b hb => (hf b hb).1⟩⟩
  done := by
    intro X hP hw hK hc i pins s σ H E I hf st hg
    subst hP hw hK
    obtain ⟨f0, f1, f2, f3, f4, f5⟩ := hf it (by simp)
    exact PySem.wpAny_pyNext_long_end (I.ok.hd hc) st (by have : n ≤ i := hg; omega) fun h' eb => ⟨rfl, I.turned (t' := s.toks) (fun b o hb e => eb b o hb e) f0 f1 f3 f4 f5⟩
  self := fun A i s Q E st h => PySem.wpAny_pyIter_longiter st h
theorem itc_one (lo : Int) (n : Nat) : Itc lo 1 n = Itr lo n := by
  unfold Itc Itr
  simp only [Int.mul_one]
def Rng2L (vs : List V) (H : Hp) (R : It → Hp → Prop) : Prop := ∃ i j : Int, vs = [.int i, .int j] ∧ R (Itr i (j - i).toNat) H
def iRng2L (ta : TA) : TI := fun σ H R => ta σ H fun vs H1 => Rng2L vs H1 R
theorem pi_range2L {X : Cx} {tg : Expr} {a b : Expr} {ta : TA} {p pos : Pos} (hg : Gl X "range") (hm : X.mg "range" = none) (ha : PA X [a, b] ta) (hs : starEach [a, b] X.env = [(false, eval a X.env), (false, eval b X.env)] := by rfl) (hs2 : starEach [b] X.env = [(false, eval b X.env)] := by rfl) :
    PI X tg (.Call (.Name "range" p) [a, b] [] pos) (iRng2L ta) := by
  refine ⟨fun pins s σ H R I h => ?_⟩
  refine Call_ (ld_blt I hg hm boot_range (PyProof.Rows.callWith_type1 (thn (ha.run pos pins s σ H _ I h) fun us s1 ⟨vs, H1, I1, r1, q1⟩ => ?_) (by rw [hs, hs2]) (by rw [hs2]; rfl)))
  obtain ⟨i, j, e, q⟩ := q1
  subst e
  cases r1 with
  | cons r rr =>
    cases rr with
    | cons r' rr =>
      cases rr
      obtain ⟨t, rfl⟩ := r
      obtain ⟨t', rfl⟩ := r'
      refine PySem.call_range_2 ?_
      have I2 : Inv X pins σ H1 { s1 with heap := s1.heap.push { cls := .type "range", data := .fields #[.int i t, .int j t', .int 1 s1.toks] }, toks := s1.toks + 1 } := I1.kept (t' := s1.toks + 1) fun b o e => Heap.get?_push_of_some _ e
      have e1 : i + ((0 : Nat) : Int) * 1 = i := by simp
      have e2 : (((j - i).toNat : Nat) : Int) - ((0 : Nat) : Int) = Builtin.Range.rangeSize i j 1 := by rw [PyProof.Rows.rangeSize_nat]; simp
      rw [← itc_one] at q
      cases hsm : Builtin.Range.small i j 1 with
      | true =>
        refine wpAny_pyIter_range (IsRange.new ..) hsm ?_
        refine pi_one (tk := s1.toks + 1) I2 _ (turn_rangeC _ i 1 (j - i).toNat) ?_ q
        show IsRangeIter _ _ (i + ((0 : Nat) : Int) * 1) ((((j - i).toNat : Nat) : Int) - ((0 : Nat) : Int)) 1
        rw [e1, e2]
        exact Heap.get?_push_size _ rfl
      | false =>
        refine wpAny_pyIter_longrange (IsRange.new ..) hsm ?_
        refine pi_one (tk := s1.toks + 1) I2 _ (turn_rangeL _ i 1 (j - i).toNat) ?_ q
        show IsLongIter _ _ (i + ((0 : Nat) : Int) * 1) ((((j - i).toNat : Nat) : Int) - ((0 : Nat) : Int)) 1
        rw [e1, e2]
        exact Heap.get?_push_size _ rfl
section
variable {σ : L2.St} {H : Hp} {tr : TA} {m n : Int}
theorem k_irng2L {R : It → Hp → Prop} (h : tr σ H fun vs H1 => Rng2L vs H1 R) : iRng2L tr σ H R := h
theorem k_rng2L {R : It → Hp → Prop} (h : R (Itr m (n - m).toNat) H) : Rng2L [V.int m, V.int n] H R := ⟨m, n, rfl, h⟩
end
theorem b_dec {b : Bool} {p : Prop} [Decidable p] (h : b = true ↔ p) : b = decide p := by
  by_cases hp : p
  · rw [decide_eq_true hp]; exact h.mpr hp
  · rw [decide_eq_false hp]
    cases hb : b with
    | false => rfl
    | true => exact absurd (h.mp hb) hp
/-- a test that something differs, where it does not -/
theorem if_same {p A B : Prop} [Decidable p] (h : p) (h2 : B) : if (!decide p) = true then A else B := if_ndec (fun hn => absurd h hn) (fun _ => h2)
theorem inV3 {a x y z : Int} : inV (.int a) [.int x, .int y, .int z] = decide (a = x ∨ a = y ∨ a = z) := by
  have h := inV_ints (a := a) [x, y, z]
  have e : (decide (a ∈ [x, y, z])) = decide (a = x ∨ a = y ∨ a = z) := by
    have : a ∈ [x, y, z] ↔ (a = x ∨ a = y ∨ a = z) := by simp
    simp [this]
  exact h.trans e
theorem k_in3 {K : PySem.W.Frag} {H : Hp} {Q : VK} {a : Int} {p : Addr} {x y z : Int} (h : SqL K H p [.int x, .int y, .int z]) (q : Q (.bl (decide (a = x ∨ a = y ∨ a = z))) H) : rIn K false (.int a) (.ref p) H Q :=
  ⟨p, _, rfl, .inl h, rfl, rfl, by rw [inV3]; exact q⟩
/-! ### words that are known -/
theorem if_seq {a b : Str} {A B : Prop} (h : a = b) (x : A) : if decide (a = b) = true then A else B := if_dec (fun _ => x) (fun hn => absurd h hn)
theorem if_sne {a b : Str} {A B : Prop} (h : ¬ a = b) (x : B) : if decide (a = b) = true then A else B := if_dec (fun he => absurd he h) (fun _ => x)
theorem if_nseq {a b : Str} {A B : Prop} (h : a = b) (x : B) : if (!decide (a = b)) = true then A else B := if_ndec (fun hn => absurd h hn) (fun _ => x)
theorem if_nsne {a b : Str} {A B : Prop} (h : ¬ a = b) (x : A) : if (!decide (a = b)) = true then A else B := if_ndec (fun _ => x) (fun he => absurd he h)
theorem or_split {t u : TT} {σ : L2.St} {H : Hp} {R : Bool → Hp → Prop} (p : Prop) (hT : p → R true H) (hF : ¬ p → R false H) (h : ∀ R' : Bool → Hp → Prop, (p → R' true H) → (¬ p → R' false H) → tOr t u σ H R') : tOr t u σ H R := h R hT hF
theorem and_split {t u : TT} {σ : L2.St} {H : Hp} {R : Bool → Hp → Prop} (p : Prop) (hT : p → R true H) (hF : ¬ p → R false H) (h : ∀ R' : Bool → Hp → Prop, (p → R' true H) → (¬ p → R' false H) → tAnd t u σ H R') : tAnd t u σ H R := h R hT hF
theorem dec_two {p : Prop} [Decidable p] {R : Bool → Prop} (a : p → R true) (b : ¬ p → R false) : R (decide p) := by
  by_cases h : p
  · rw [decide_eq_true h]; exact a h
  · rw [decide_eq_false h]; exact b h
theorem dec_twoN {p : Prop} [Decidable p] {R : Bool → Prop} (a : p → R false) (b : ¬ p → R true) : R (!decide p) := by
  by_cases h : p
  · rw [decide_eq_true h]; exact a h
  · rw [decide_eq_false h]; exact b h
section
variable {σ : L2.St} {H : Hp}
def PartV (x : V) (H : Hp) (Q : Option Int → Hp → Prop) : Prop := ∃ i, x = .int i ∧ Q (some i) H
theorem k_part {t : TE} {Q : Option Int → Hp → Prop} (h : t σ H fun x H1 => PartV x H1 Q) : tPart t σ H Q := h
theorem k_partV {i : Int} {Q : Option Int → Hp → Prop} (h : Q (some i) H) : PartV (.int i) H Q := ⟨i, rfl, h⟩
theorem k_nopart {Q : Option Int → Hp → Prop} (h : Q none H) : tNoPart σ H Q := h
end

section
open Int
/-! ### remainders: the mathematics -/
theorem gcd_abs (a b : Int) : Int.gcd (if a < 0 then -a else a) (if b < 0 then -b else b) = Int.gcd a b := by
  split <;> split <;> simp
theorem abs_nn (a : Int) : 0 ≤ (if a < 0 then -a else a) := by split <;> omega
theorem abs_le {a b : Int} (h1 : -b ≤ a) (h2 : a ≤ b) : (if a < 0 then -a else a) ≤ b := by split <;> omega
theorem gcd_mod (x y : Int) : Int.gcd y (x % y) = Int.gcd x y := by
  have e : x % y = x - y * (x / y) := Int.emod_def x y
  rw [e, Int.gcd_comm, Int.mul_comm, Int.gcd_sub_mul_right_left]
theorem gcd_zero (x : Int) (h : 0 ≤ x) : ((Int.gcd x 0 : Nat) : Int) = x := by
  rw [Int.gcd_zero_right]; omega
/-- the least common multiple of two numbers from 1 on, as the program reckons it -/
def lcmI (a b : Int) : Int := a / (Int.gcd a b : Nat) * b
theorem gcd_pos {a b : Int} (ha : 1 ≤ a) : 1 ≤ ((Int.gcd a b : Nat) : Int) := by
  have : Int.gcd a b ≠ 0 := fun h => by
    have := Int.gcd_eq_zero_iff.mp h
    omega
  omega
theorem gcd_le {a b : Int} (ha : 1 ≤ a) : ((Int.gcd a b : Nat) : Int) ≤ a := Int.le_of_dvd (by omega) (Int.gcd_dvd_left a b)
theorem gcd_le' {a b : Int} (hb : 1 ≤ b) : ((Int.gcd a b : Nat) : Int) ≤ b := Int.le_of_dvd (by omega) (Int.gcd_dvd_right a b)
theorem lcm_mul_gcd {a b : Int} (ha : 1 ≤ a) : lcmI a b * (Int.gcd a b : Nat) = a * b := by
  have h := Int.ediv_mul_cancel (Int.gcd_dvd_left a b)
  unfold lcmI
  rw [Int.mul_assoc, Int.mul_comm b, ← Int.mul_assoc, h]
theorem lcm_pos {a b : Int} (ha : 1 ≤ a) (hb : 1 ≤ b) : 1 ≤ lcmI a b := by
  have h := lcm_mul_gcd (b := b) ha
  have h1 := gcd_pos (b := b) ha
  have h2 : 0 < a * b := Int.mul_pos (by omega) (by omega)
  rw [← h] at h2
  have := Int.pos_of_mul_pos_left h2 (by omega)
  omega
theorem dvd_lcm_right (a b : Int) : b ∣ lcmI a b := ⟨_, Int.mul_comm _ _⟩
theorem dvd_lcm_left {a b : Int} (ha : 1 ≤ a) : a ∣ lcmI a b := by
  obtain ⟨k, hk⟩ := Int.gcd_dvd_right a b
  have h := lcm_mul_gcd (b := b) ha
  have h1 := gcd_pos (b := b) ha
  refine ⟨k, ?_⟩
  have e : lcmI a b * (Int.gcd a b : Nat) = a * k * (Int.gcd a b : Nat) := by
    rw [h, Int.mul_assoc, Int.mul_comm k, ← hk]
  exact Int.eq_of_mul_eq_mul_right (by omega) e
theorem lcm_comm {a b : Int} (ha : 1 ≤ a) (hb : 1 ≤ b) : lcmI a b = lcmI b a := by
  have h := lcm_mul_gcd (b := b) ha
  have h' := lcm_mul_gcd (b := a) hb
  have h1 := gcd_pos (b := b) ha
  rw [Int.gcd_comm b a, Int.mul_comm b a, ← h] at h'
  exact (Int.eq_of_mul_eq_mul_right (by omega) h').symm
theorem bezout_dvd {a b u v g x : Int} (e : u * a + v * b = g) (ha : x ∣ a) (hb : x ∣ b) : x ∣ g := by
  rw [← e]; exact Int.dvd_add (Int.dvd_mul_of_dvd_right ha) (Int.dvd_mul_of_dvd_right hb)
theorem lcm_least {a b x : Int} (ha : 1 ≤ a) (hb : 1 ≤ b) (h1 : a ∣ x) (h2 : b ∣ x) : lcmI a b ∣ x := by
  -- a * b divides x * gcd
  have hg := gcd_pos (b := b) ha
  have h := lcm_mul_gcd (b := b) ha
  have hd : a * b ∣ x * (Int.gcd a b : Nat) := by
    have e : x * ((Int.gcd a b : Nat) : Int) = ((Int.gcd (x * a) (x * b) : Nat) : Int) ∨ x * ((Int.gcd a b : Nat) : Int) = -((Int.gcd (x * a) (x * b) : Nat) : Int) := by
      rw [Int.gcd_mul_left, Int.natCast_mul]
      rcases Int.natAbs_eq x with hx | hx
      · left; rw [← hx]
      · right
        have : ((x.natAbs : Nat) : Int) = -x := by omega
        rw [this, Int.neg_mul, Int.neg_neg]
    have d1 : a * b ∣ x * a := by rw [Int.mul_comm x a]; exact Int.mul_dvd_mul (Int.dvd_refl a) h2
    have d2 : a * b ∣ x * b := by exact Int.mul_dvd_mul h1 (Int.dvd_refl b)
    have d3 := Int.dvd_coe_gcd d1 d2
    rcases e with e | e
    · rw [e]; exact d3
    · rw [e]; exact Int.dvd_neg.mpr d3
  rw [← h] at hd
  exact Int.dvd_of_mul_dvd_mul_right (by omega) hd
theorem lcm_le_mul {a b : Int} (ha : 1 ≤ a) (hb : 1 ≤ b) : lcmI a b ≤ a * b := by
  have h := lcm_mul_gcd (b := b) ha
  have hg := gcd_pos (b := b) ha
  have hl := lcm_pos ha hb
  have := Int.mul_le_mul_of_nonneg_left hg (show (0 : Int) ≤ lcmI a b by omega)
  omega
/-! ### the equation: one step, and how great its numbers grow -/
theorem eq_rest {r1 r2 : Int} (h : r2 ≠ 0) : (0 < r2 → 0 ≤ r1 - r1.fdiv r2 * r2 ∧ r1 - r1.fdiv r2 * r2 < r2) ∧ (r2 < 0 → r2 < r1 - r1.fdiv r2 * r2 ∧ r1 - r1.fdiv r2 * r2 ≤ 0) := by
  constructor
  · intro h0
    rw [Int.fdiv_eq_ediv_of_nonneg _ (by omega)]
    have e := Int.emod_def r1 r2
    rw [Int.mul_comm] at e
    rw [← e]
    exact ⟨Int.emod_nonneg _ h, Int.emod_lt_of_pos _ h0⟩
  · intro h0
    have e1 : r1.fdiv r2 = (-r1) / (-r2) := by
      rw [← Int.fdiv_eq_ediv_of_nonneg (-r1) (show 0 ≤ -r2 by omega), Int.neg_fdiv_neg]
    have e := Int.emod_def (-r1) (-r2)
    have p1 := Int.emod_nonneg (-r1) (show -r2 ≠ 0 by omega)
    have p2 := Int.emod_lt_of_pos (-r1) (show 0 < -r2 by omega)
    rw [e1]
    have : r1 - (-r1) / (-r2) * r2 = -((-r1) % (-r2)) := by
      rw [e, Int.neg_mul, Int.mul_comm r2]; omega
    rw [this]
    omega
theorem gcd_rest (r1 r2 q : Int) : Int.gcd r2 (r1 - q * r2) = Int.gcd r1 r2 := by
  rw [Int.gcd_comm, Int.gcd_sub_mul_right_left]
/-- the sum of both rests times the quotient is no more than four times the sum ahead -/
theorem eq_quot {r1 r2 : Int} (h : r2 ≠ 0) : (r1.fdiv r2).natAbs * r2.natAbs ≤ r1.natAbs + r2.natAbs := by
  have hr := eq_rest (r1 := r1) h
  rw [← Int.natAbs_mul]
  generalize r1.fdiv r2 * r2 = z at *
  rcases Int.lt_or_gt_of_ne h with h0 | h0
  · have := hr.2 h0; omega
  · have := hr.1 h0; omega
/-- numbers so far are at most M, M times the cube of the rests' sum at most B: it stays so -/
theorem eq_grow {r1 r2 : Int} {M B : Nat} (h : r2 ≠ 0) (hs : (0 < r1 ∧ 0 < r2) ∨ (r1 < 0 ∧ r2 < 0)) (hlt : r2.natAbs < r1.natAbs)
    (hB : M * (r1.natAbs + r2.natAbs) ^ 3 ≤ B) : (M * (1 + (r1.fdiv r2).natAbs)) * (r2.natAbs + (r1 - r1.fdiv r2 * r2).natAbs) ^ 3 ≤ B := by
  have hr := eq_rest (r1 := r1) h
  have key : (r1.fdiv r2).natAbs * r2.natAbs + (r1 - r1.fdiv r2 * r2).natAbs = r1.natAbs ∧ 1 ≤ (r1.fdiv r2).natAbs := by
    have e := Int.natAbs_mul (r1.fdiv r2) r2
    rw [← e]
    have q1 : r1.fdiv r2 ≠ 0 := by
      intro z
      rw [z, Int.zero_mul] at hr
      omega
    refine ⟨?_, by omega⟩
    have hq : 0 ≤ r1.fdiv r2 * r2 ∧ 0 < r2 ∨ r1.fdiv r2 * r2 ≤ 0 ∧ r2 < 0 := by
      rcases hs with hs | hs
      · left; refine ⟨?_, hs.2⟩
        have := hr.1 hs.2
        rw [Int.fdiv_eq_ediv_of_nonneg _ (by omega)]
        exact Int.mul_nonneg (Int.ediv_nonneg (by omega) (by omega)) (by omega)
      · right; refine ⟨?_, hs.2⟩
        have e1 : r1.fdiv r2 = (-r1) / (-r2) := by
          rw [← Int.fdiv_eq_ediv_of_nonneg (-r1) (show 0 ≤ -r2 by omega), Int.neg_fdiv_neg]
        rw [e1]
        exact Int.mul_nonpos_of_nonneg_of_nonpos (Int.ediv_nonneg (by omega) (by omega)) (by omega)
    generalize r1.fdiv r2 * r2 = z at *
    rcases hs with hs | hs
    · have := hr.1 hs.2; omega
    · have := hr.2 hs.2; omega
  have h3 : (r1 - r1.fdiv r2 * r2).natAbs < r2.natAbs := by
    generalize r1.fdiv r2 * r2 = z at *
    rcases hs with hs | hs
    · have := hr.1 hs.2; omega
    · have := hr.2 hs.2; omega
  generalize (r1 - r1.fdiv r2 * r2).natAbs = c at *
  generalize (r1.fdiv r2).natAbs = q at *
  generalize r2.natAbs = b at *
  generalize r1.natAbs = a at *
  obtain ⟨k1, k2⟩ := key
  -- S = a + b, S' = b + c; S' (1 + q) ≤ 2 S ; 3 S' ≤ 2 S
  have t1 : (b + c) * (1 + q) ≤ 2 * (a + b) := by
    have : (b + c) * (1 + q) ≤ (2 * b) * (1 + q) := Nat.mul_le_mul_right _ (by omega)
    have e : (2 * b) * (1 + q) = 2 * b + 2 * (q * b) := by rw [Nat.mul_add, Nat.mul_one, Nat.mul_assoc, Nat.mul_comm b q]
    omega
  have t2 : 3 * (b + c) ≤ 2 * (a + b) := by
    have : b ≤ q * b := Nat.le_mul_of_pos_left _ k2
    omega
  have t3 : (3 * (b + c)) * (3 * (b + c)) ≤ (2 * (a + b)) * (2 * (a + b)) := Nat.mul_le_mul t2 t2
  generalize a + b = S at *
  generalize b + c = S' at *
  have t4 : (M * (1 + q) * S') ≤ M * (2 * S) := by
    rw [Nat.mul_assoc, Nat.mul_comm (1 + q)]; exact Nat.mul_le_mul_left _ t1
  have t5 : (M * (1 + q) * S') * ((3 * S') * (3 * S')) ≤ (M * (2 * S)) * ((2 * S) * (2 * S)) := Nat.mul_le_mul t4 t3
  have e1 : (M * (1 + q) * S') * ((3 * S') * (3 * S')) = 9 * (M * (1 + q) * S' ^ 3) := by
    simp only [Nat.pow_succ, Nat.pow_zero, Nat.one_mul]; simp only [Nat.mul_assoc, Nat.mul_comm, Nat.mul_left_comm]
  have e2 : (M * (2 * S)) * ((2 * S) * (2 * S)) = 8 * (M * S ^ 3) := by
    simp only [Nat.pow_succ, Nat.pow_zero, Nat.one_mul]; simp only [Nat.mul_assoc, Nat.mul_comm, Nat.mul_left_comm]
  rw [e1, e2] at t5
  omega
/-- between two turns of the equation, behind the first one -/
structure Later (B : Nat) (u1 v1 r1 u2 v2 r2 : Int) : Prop where
  sg : (0 < r1 ∧ 0 < r2) ∨ (r1 < 0 ∧ r2 < 0) ∨ (r2 = 0 ∧ r1 ≠ 0)
  lt : r2.natAbs < r1.natAbs
  bd : ∃ M : Nat, u1.natAbs ≤ M ∧ v1.natAbs ≤ M ∧ u2.natAbs ≤ M ∧ v2.natAbs ≤ M ∧ M * (r1.natAbs + r2.natAbs) ^ 3 ≤ B
theorem Later.le {B : Nat} {u1 v1 r1 u2 v2 r2 : Int} (h : Later B u1 v1 r1 u2 v2 r2) : u1.natAbs ≤ B ∧ v1.natAbs ≤ B ∧ u2.natAbs ≤ B ∧ v2.natAbs ≤ B := by
  obtain ⟨M, a1, a2, a3, a4, hM⟩ := h.bd
  have hp : 0 < (r1.natAbs + r2.natAbs) ^ 3 := Nat.pow_pos (by have := h.lt; omega)
  have : M ≤ B := Nat.le_trans (Nat.le_mul_of_pos_right M hp) hM
  omega
theorem mul_sub_abs {u1 u2 q : Int} {M : Nat} (h1 : u1.natAbs ≤ M) (h2 : u2.natAbs ≤ M) : (u1 - q * u2).natAbs ≤ M * (1 + q.natAbs) := by
  have e : (q * u2).natAbs ≤ M * q.natAbs := by rw [Int.natAbs_mul, Nat.mul_comm]; exact Nat.mul_le_mul_right _ h2
  rw [Nat.mul_add, Nat.mul_one]
  omega
theorem Later.step {B : Nat} {u1 v1 r1 u2 v2 r2 : Int} (h : Later B u1 v1 r1 u2 v2 r2) (h0 : r2 ≠ 0) :
    Later B u2 v2 r2 (u1 - r1.fdiv r2 * u2) (v1 - r1.fdiv r2 * v2) (r1 - r1.fdiv r2 * r2) := by
  obtain ⟨M, a1, a2, a3, a4, hM⟩ := h.bd
  have hs : (0 < r1 ∧ 0 < r2) ∨ (r1 < 0 ∧ r2 < 0) := by have := h.sg; omega
  have hr := eq_rest (r1 := r1) h0
  refine ⟨?_, ?_, ⟨M * (1 + (r1.fdiv r2).natAbs), ?_, ?_, mul_sub_abs a1 a3, mul_sub_abs a2 a4, eq_grow h0 hs h.lt hM⟩⟩
  · generalize r1 - r1.fdiv r2 * r2 = z at *
    rcases hs with hs | hs
    · have := hr.1 hs.2; omega
    · have := hr.2 hs.2; omega
  · generalize r1 - r1.fdiv r2 * r2 = z at *
    rcases hs with hs | hs
    · have := hr.1 hs.2; omega
    · have := hr.2 hs.2; omega
  · exact Nat.le_trans a3 (Nat.le_mul_of_pos_right M (by omega))
  · exact Nat.le_trans a4 (Nat.le_mul_of_pos_right M (by omega))
theorem Later.first {a b : Int} {n : Nat} (ha : a.natAbs ≤ 2 ^ n) (hb : b.natAbs ≤ 2 ^ n) (h0 : b ≠ 0) :
    Later (2 ^ (4 * n + 6)) 0 1 b (1 - a.fdiv b * 0) (0 - a.fdiv b * 1) (a - a.fdiv b * b) := by
  have hr := eq_rest (r1 := a) h0
  have hq := eq_quot (r1 := a) h0
  have h1 : (a.fdiv b).natAbs ≤ 2 ^ n + 2 ^ n := by
    have : (a.fdiv b).natAbs * 1 ≤ (a.fdiv b).natAbs * b.natAbs := Nat.mul_le_mul_left _ (by omega)
    omega
  refine ⟨?_, ?_, ⟨1 + (a.fdiv b).natAbs, by omega, by omega, ?_, ?_, ?_⟩⟩
  · generalize a - a.fdiv b * b = z at *
    rcases Int.lt_or_gt_of_ne h0 with h | h
    · have := hr.2 h; omega
    · have := hr.1 h; omega
  · generalize a - a.fdiv b * b = z at *
    rcases Int.lt_or_gt_of_ne h0 with h | h
    · have := hr.2 h; omega
    · have := hr.1 h; omega
  · rw [Int.mul_zero]; omega
  · rw [Int.mul_one]; omega
  · have h2 : b.natAbs + (a - a.fdiv b * b).natAbs ≤ 2 * 2 ^ n := by
      generalize a - a.fdiv b * b = z at *
      rcases Int.lt_or_gt_of_ne h0 with h | h
      · have := hr.2 h; omega
      · have := hr.1 h; omega
    have hp : 1 ≤ 2 ^ n := Nat.pow_pos (by decide)
    have h3 : 1 + (a.fdiv b).natAbs ≤ 2 ^ (n + 2) := by rw [Nat.pow_add]; omega
    have h4 : (b.natAbs + (a - a.fdiv b * b).natAbs) ^ 3 ≤ (2 ^ (n + 1)) ^ 3 := Nat.pow_le_pow_left (by rw [Nat.pow_add]; omega) 3
    have h5 := Nat.mul_le_mul h3 h4
    rw [← Nat.pow_mul, ← Nat.pow_add] at h5
    exact Nat.le_trans h5 (Nat.pow_le_pow_right (by decide) (by omega))
theorem fdiv_abs_le {r1 r2 : Int} (h : r2 ≠ 0) : (r1.fdiv r2).natAbs ≤ r1.natAbs + r2.natAbs := by
  have hq := eq_quot (r1 := r1) h
  have : (r1.fdiv r2).natAbs * 1 ≤ (r1.fdiv r2).natAbs * r2.natAbs := Nat.mul_le_mul_left _ (by omega)
  omega
theorem rest_lt {r1 r2 : Int} (h : r2 ≠ 0) : (r1 - r1.fdiv r2 * r2).natAbs < r2.natAbs := by
  have hr := eq_rest (r1 := r1) h
  generalize r1 - r1.fdiv r2 * r2 = z at *
  rcases Int.lt_or_gt_of_ne h with h | h
  · have := hr.2 h; omega
  · have := hr.1 h; omega
theorem bez_step {a b u1 v1 r1 u2 v2 r2 q : Int} (h1 : u1 * a + v1 * b = r1) (h2 : u2 * a + v2 * b = r2) : (u1 - q * u2) * a + (v1 - q * v2) * b = r1 - q * r2 := by
  rw [← h1, ← h2, Int.sub_mul, Int.sub_mul, Int.mul_add, Int.mul_assoc, Int.mul_assoc]
  omega
theorem met_ok {n m r s u v : Int} (hn : 1 ≤ n) (hm : 1 ≤ m) (hb : u * n + v * m = (Int.gcd n m : Nat)) (hd : (s - r) % (Int.gcd n m : Nat) = 0) :
    n ∣ (r + n * u * ((s - r) / (Int.gcd n m : Nat))) % lcmI n m - r ∧ m ∣ (r + n * u * ((s - r) / (Int.gcd n m : Nat))) % lcmI n m - s := by
  have hg := gcd_pos (b := m) hn
  have hk : (Int.gcd n m : Nat) * ((s - r) / (Int.gcd n m : Nat)) = s - r := by
    have := Int.emod_add_mul_ediv (s - r) (Int.gcd n m : Nat)
    omega
  generalize ((Int.gcd n m : Nat) : Int) = g at *
  generalize (s - r) / g = k at *
  have hL1 := dvd_lcm_left (b := m) hn
  have hL2 := dvd_lcm_right n m
  have e := Int.emod_def (r + n * u * k) (lcmI n m)
  rw [e]
  generalize (r + n * u * k) / lcmI n m = z
  constructor
  · have : r + n * u * k - lcmI n m * z - r = n * (u * k) - lcmI n m * z := by rw [Int.mul_assoc]; omega
    rw [this]
    exact Int.dvd_sub (Int.dvd_mul_right _ _) (Int.dvd_mul_of_dvd_left hL1)
  · have h2 : n * u * k = g * k - m * (v * k) := by
      have : n * u = g - m * v := by rw [← hb, Int.mul_comm u n, Int.mul_comm v m]; omega
      rw [this, Int.sub_mul, Int.mul_assoc]
    have : r + n * u * k - lcmI n m * z - s = -(m * (v * k)) - lcmI n m * z := by omega
    rw [this]
    exact Int.dvd_sub (Int.dvd_neg.mpr (Int.dvd_mul_right _ _)) (Int.dvd_mul_of_dvd_left hL2)
theorem alike_both {n m r s x d : Int} (hn : 1 ≤ n) (hm : 1 ≤ m) (h1 : n ∣ x - r) (h2 : m ∣ x - s) : ((d - r) % n = 0 ∧ (d - s) % m = 0) ↔ (d - x) % lcmI n m = 0 := by
  constructor
  · rintro ⟨a1, a2⟩
    have b1 := Int.dvd_of_emod_eq_zero a1
    have b2 := Int.dvd_of_emod_eq_zero a2
    refine Int.emod_eq_zero_of_dvd (lcm_least hn hm ?_ ?_)
    · have := Int.dvd_sub b1 h1; rwa [show d - r - (x - r) = d - x by omega] at this
    · have := Int.dvd_sub b2 h2; rwa [show d - s - (x - s) = d - x by omega] at this
  · intro a
    have b := Int.dvd_of_emod_eq_zero a
    refine ⟨Int.emod_eq_zero_of_dvd ?_, Int.emod_eq_zero_of_dvd ?_⟩
    · have := Int.dvd_add (Int.dvd_trans (dvd_lcm_left hn) b) h1; rwa [show d - x + (x - r) = d - r by omega] at this
    · have := Int.dvd_add (Int.dvd_trans (dvd_lcm_right n m) b) h2; rwa [show d - x + (x - s) = d - s by omega] at this

end

/-! ### numbers by their bits -/
def ofB (f : Nat → Bool) : Nat → Nat
  | 0 => 0
  | k + 1 => ofB f k + if f k then 2 ^ k else 0
theorem ofB_lt (f : Nat → Bool) : ∀ n, ofB f n < 2 ^ n
  | 0 => by simp [ofB]
  | k + 1 => by
    have := ofB_lt f k
    unfold ofB
    rw [Nat.pow_succ]
    split <;> omega
theorem tb_ofB (f : Nat → Bool) : ∀ n i, (ofB f n).testBit i = (decide (i < n) && f i)
  | 0, i => by simp [ofB]
  | k + 1, i => by
    have ih := tb_ofB f k
    have hl := ofB_lt f k
    unfold ofB
    by_cases hf : f k = true
    · rw [if_pos hf]
      have e : ofB f k + 2 ^ k = 2 ^ k * 1 + ofB f k := by omega
      rw [e, Nat.testBit_two_pow_mul_add _ hl]
      by_cases h : i < k
      · rw [if_pos h, ih, decide_eq_true h, decide_eq_true (show i < k + 1 by omega)]
      · rw [if_neg h]
        by_cases h2 : i = k
        · subst h2; simp [hf]
        · rw [decide_eq_false (show ¬ i < k + 1 by omega)]
          have : i - k ≠ 0 := by omega
          
          have t1 : Nat.testBit 1 (i - k) = false := by
            cases e1 : Nat.testBit 1 (i - k) with
            | false => rfl
            | true => exact absurd (Nat.testBit_one_eq_true_iff_self_eq_zero.mp e1) this
          simp [t1]
    · rw [if_neg hf, Nat.add_zero, ih]
      by_cases h2 : i = k
      · subst h2
        have hf' : f i = false := by simpa using hf
        simp [hf']
      · have : (decide (i < k)) = decide (i < k + 1) := by
          by_cases h : i < k
          · rw [decide_eq_true h, decide_eq_true (show i < k + 1 by omega)]
          · rw [decide_eq_false h, decide_eq_false (show ¬ i < k + 1 by omega)]
        rw [this]
theorem ofB_ext {f g : Nat → Bool} {n : Nat} (h : ∀ i, i < n → f i = g i) : ofB f n = ofB g n := by
  apply Nat.eq_of_testBit_eq
  intro i
  rw [tb_ofB, tb_ofB]
  by_cases hi : i < n
  · rw [h i hi]
  · rw [decide_eq_false hi]; rfl
theorem eq_ofB {x n : Nat} {f : Nat → Bool} (hx : ∀ i, x.testBit i = (decide (i < n) && f i)) : x = ofB f n := by
  apply Nat.eq_of_testBit_eq
  intro i
  rw [tb_ofB]; exact hx i
theorem ofB_self {x n : Nat} (hx : x < 2 ^ n) : ofB x.testBit n = x := by
  symm
  apply eq_ofB
  intro i
  by_cases hi : i < n
  · rw [decide_eq_true hi]; rfl
  · rw [decide_eq_false hi, Bool.false_and]
    exact Nat.testBit_lt_two_pow (Nat.lt_of_lt_of_le hx (Nat.pow_le_pow_right (by decide) (by omega)))
/-- whether a round holds on a day -/
def hold (n b : Nat) (d : Int) : Bool := b.testBit (d % (n : Int)).toNat
/-- the bits of the days of one round -/
def bitsOf (n : Nat) (f : Int → Bool) : Nat := ofB (fun i => f i) n
theorem bitsOf_lt (n : Nat) (f : Int → Bool) : bitsOf n f < 2 ^ n := ofB_lt _ _
theorem mod_lt' {n : Nat} (hn : 1 ≤ n) (d : Int) : (d % (n : Int)).toNat < n ∧ (((d % (n : Int)).toNat : Nat) : Int) = d % (n : Int) := by
  have h1 := Int.emod_nonneg d (show (n : Int) ≠ 0 by omega)
  have h2 := Int.emod_lt_of_pos d (show (0 : Int) < n by omega)
  omega
theorem hold_bitsOf {n : Nat} (hn : 1 ≤ n) (f : Int → Bool) (d : Int) : hold n (bitsOf n f) d = f (d % (n : Int)) := by
  obtain ⟨h1, h2⟩ := mod_lt' hn d
  unfold hold bitsOf
  rw [tb_ofB, decide_eq_true h1, Bool.true_and, h2]
theorem hold_per (n b : Nat) (d : Int) : hold n b (d % (n : Int)) = hold n b d := by
  unfold hold
  rw [Int.emod_emod_of_dvd _ (Int.dvd_refl _)]
theorem hold_eq {n b : Nat} {d e : Int} (h : d % (n : Int) = e % (n : Int)) : hold n b d = hold n b e := by
  unfold hold; rw [h]
theorem hold_nat {n b i : Nat} (hi : i < n) : hold n b (i : Int) = b.testBit i := by
  unfold hold
  have : ((i : Int) % (n : Int)) = i := Int.emod_eq_of_lt (by omega) (by omega)
  rw [this]; rfl
theorem bitsOf_self {n b : Nat} (hb : b < 2 ^ n) : bitsOf n (hold n b) = b := by
  unfold bitsOf
  rw [ofB_ext (g := b.testBit) (fun i hi => hold_nat hi)]
  exact ofB_self hb
theorem bitsOf_ext {n : Nat} {f g : Int → Bool} (h : ∀ i : Nat, i < n → f i = g i) : bitsOf n f = bitsOf n g := ofB_ext h
theorem eq_bitsOf {x n : Nat} {f : Int → Bool} (hx : x < 2 ^ n) (h : ∀ i : Nat, i < n → x.testBit i = f i) : x = bitsOf n f := by
  apply eq_ofB
  intro i
  by_cases hi : i < n
  · rw [decide_eq_true hi, h i hi]; rfl
  · rw [decide_eq_false hi, Bool.false_and]
    exact Nat.testBit_lt_two_pow (Nat.lt_of_lt_of_le hx (Nat.pow_le_pow_right (by decide) (by omega)))
theorem hold_mod {n : Nat} {f : Int → Bool} (hn : 1 ≤ n) (hf : ∀ d : Int, f (d % (n : Int)) = f d) (d : Int) : hold n (bitsOf n f) d = f d := by
  rw [hold_bitsOf hn, hf]
/-! ### the machine's operators on numbers from 0 on -/
theorem and_c (a b : Nat) : Builtin.bitAnd (a : Int) (b : Int) = ((a &&& b : Nat) : Int) := by
  rw [bitAnd_pp (Int.natCast_nonneg _) (Int.natCast_nonneg _), Int.toNat_natCast, Int.toNat_natCast]
theorem or_c (a b : Nat) : Builtin.bitOr (a : Int) (b : Int) = ((a ||| b : Nat) : Int) := by
  rw [bitOr_nn (Int.natCast_nonneg _) (Int.natCast_nonneg _), Int.toNat_natCast, Int.toNat_natCast]
theorem xor_c (a b : Nat) : Builtin.bitXor (a : Int) (b : Int) = ((a ^^^ b : Nat) : Int) := by
  rw [Bits.bitXor_pp (Int.natCast_nonneg _) (Int.natCast_nonneg _), Int.toNat_natCast, Int.toNat_natCast]
theorem pow_c (k : Nat) : (2 : Int) ^ k = ((2 ^ k : Nat) : Int) := (PySem.W.kbt_cast k).symm
theorem shl_c (a k : Nat) : (a : Int) * 2 ^ k = ((a * 2 ^ k : Nat) : Int) := by rw [pow_c, Int.natCast_mul]
theorem shr_c (a k : Nat) : (a : Int) / 2 ^ k = ((a / 2 ^ k : Nat) : Int) := by rw [pow_c, Int.natCast_ediv]
theorem mask_c (k : Nat) : (2 : Int) ^ k - 1 = ((2 ^ k - 1 : Nat) : Int) := by
  have := Nat.two_pow_pos k
  rw [pow_c]; omega
/-- (bits >> place) & 1 == 1 -/
theorem on_val (b : Nat) (z : Int) : decide (Builtin.bitAnd ((b : Int) / 2 ^ z.toNat) 1 = 1) = b.testBit z.toNat := by
  rw [shr_c, bitAnd_m1, Nat.testBit_eq_decide_div_mod_eq]
  congr 1
  apply propext
  omega
/-- (bits >> place) % 2 == 1 -/
theorem on_val2 (b : Nat) (z : Int) : decide ((b : Int) / 2 ^ z.toNat % 2 = 1) = b.testBit z.toNat := by
  rw [shr_c, Nat.testBit_eq_decide_div_mod_eq]
  congr 1
  apply propext
  omega
theorem and_mask (a k : Nat) : Builtin.bitAnd (a : Int) (2 ^ k - 1) = ((a % 2 ^ k : Nat) : Int) := by
  rw [mask_c, and_c, Nat.and_two_pow_sub_one_eq_mod]
theorem sm_nat {x n : Nat} (h : x < 2 ^ n) : Sm n (x : Int) := ⟨by rw [Int.natAbs_natCast]; exact h⟩
theorem sm_ofB {f : Nat → Bool} {m : Nat} (h : m ≤ 400000) : Sm 400000 ((ofB f m : Nat) : Int) := sm_mono (sm_nat (ofB_lt f m)) h
theorem sm_bitsOf {f : Int → Bool} {m : Nat} (h : m ≤ 400000) : Sm 400000 ((bitsOf m f : Nat) : Int) := sm_mono (sm_nat (bitsOf_lt m f)) h
theorem cshl {i j : Int} {n : Nat} (hi : Sm n i) (h0 : 0 ≤ j) (hj : j ≤ 100000000) (hn : n ≤ 34217728) : CShl i j := by
  obtain ⟨k, rfl⟩ := Int.eq_ofNat_of_zero_le h0
  exact shl_ok hi.h (by omega)
theorem sm_modp {x k n : Nat} (h : Sm n (x : Int)) : Sm n ((x % 2 ^ k : Nat) : Int) := by
  have h1 := h.h
  rw [Int.natAbs_natCast] at h1
  exact sm_nat (Nat.lt_of_le_of_lt (Nat.mod_le _ _) h1)
theorem sm_divp {x k n : Nat} (h : Sm n (x : Int)) : Sm n ((x / 2 ^ k : Nat) : Int) := by
  have h1 := h.h
  rw [Int.natAbs_natCast] at h1
  exact sm_nat (Nat.lt_of_le_of_lt (Nat.div_le_self _ _) h1)
theorem sm_shl {x n : Nat} {j : Int} (h : Sm n (x : Int)) (hj : j ≤ 400000) : Sm (n + 400000) ((x * 2 ^ j.toNat : Nat) : Int) := by
  have h1 := h.h
  rw [Int.natAbs_natCast] at h1
  refine sm_nat ?_
  rw [Nat.pow_add]
  exact Nat.mul_lt_mul_of_lt_of_le h1 (Nat.pow_le_pow_right (by decide) (by omega)) (Nat.two_pow_pos _)
theorem sm_or {x y n m : Nat} (h : Sm n (x : Int)) (h' : Sm m (y : Int)) : Sm (n + m) ((x ||| y : Nat) : Int) := by
  have h1 := (sm_mono h (Nat.le_add_right n m)).h
  have h2 := (sm_mono h' (Nat.le_add_left m n)).h
  rw [Int.natAbs_natCast] at h1 h2
  exact sm_nat (Nat.or_lt_two_pow h1 h2)
theorem sm_xor {x y n m : Nat} (h : Sm n (x : Int)) (h' : Sm m (y : Int)) : Sm (n + m) ((x ^^^ y : Nat) : Int) := by
  have h1 := (sm_mono h (Nat.le_add_right n m)).h
  have h2 := (sm_mono h' (Nat.le_add_left m n)).h
  rw [Int.natAbs_natCast] at h1 h2
  exact sm_nat (Nat.xor_lt_two_pow h1 h2)
theorem sm_and {x y n : Nat} (h : Sm n (x : Int)) : Sm n ((x &&& y : Nat) : Int) := by
  have h1 := h.h
  rw [Int.natAbs_natCast] at h1
  exact sm_nat (Nat.lt_of_le_of_lt Nat.and_le_left h1)
theorem sm_mask {j : Int} (hj : j ≤ 400000) : Sm 400001 ((2 : Int) ^ j.toNat - 1) := by
  rw [mask_c]
  refine sm_nat ?_
  have : 2 ^ j.toNat ≤ 2 ^ 400000 := Nat.pow_le_pow_right (by decide) (by omega)
  have h2 : (2 : Nat) ^ 400001 = 2 ^ 400000 * 2 := Nat.pow_succ ..
  have := Nat.two_pow_pos 400000
  generalize (2 : Nat) ^ 400000 = X at *
  omega
/-! ### steps: the operators on numbers from 0 on -/
section
variable {H : Hp} {Q : VK} {x y k : Nat} {j : Int}
theorem k_andm (q : Q (.int ((x % 2 ^ k : Nat) : Int)) H) : rI0 (fun i j => .int (Builtin.bitAnd i j)) (.int (x : Int)) (.int (2 ^ k - 1)) H Q := ⟨_, _, rfl, rfl, by dsimp only; rw [and_mask]; exact q⟩
theorem k_andc (q : Q (.int ((x &&& y : Nat) : Int)) H) : rI0 (fun i j => .int (Builtin.bitAnd i j)) (.int (x : Int)) (.int (y : Int)) H Q := ⟨_, _, rfl, rfl, by dsimp only; rw [and_c]; exact q⟩
theorem k_orc (q : Q (.int ((x ||| y : Nat) : Int)) H) : rI0 (fun i j => .int (Builtin.bitOr i j)) (.int (x : Int)) (.int (y : Int)) H Q := ⟨_, _, rfl, rfl, by dsimp only; rw [or_c]; exact q⟩
theorem k_xorc (q : Q (.int ((x ^^^ y : Nat) : Int)) H) : rI0 (fun i j => .int (Builtin.bitXor i j)) (.int (x : Int)) (.int (y : Int)) H Q := ⟨_, _, rfl, rfl, by dsimp only; rw [xor_c]; exact q⟩
theorem k_xorm (q : Q (.int ((x ^^^ (2 ^ k - 1) : Nat) : Int)) H) : rI0 (fun i j => .int (Builtin.bitXor i j)) (.int (x : Int)) (.int (2 ^ k - 1)) H Q := ⟨_, _, rfl, rfl, by dsimp only; rw [mask_c, xor_c]; exact q⟩
theorem k_shlc (c : CShl (x : Int) j) (q : Q (.int ((x * 2 ^ j.toNat : Nat) : Int)) H) : rI CShl (fun i j => .int (i * 2 ^ j.toNat)) (.int (x : Int)) (.int j) H Q := ⟨_, _, rfl, rfl, c, by dsimp only; rw [shl_c]; exact q⟩
theorem k_shrc (c : 0 ≤ j) (q : Q (.int ((x / 2 ^ j.toNat : Nat) : Int)) H) : rI (fun _ j => 0 ≤ j) (fun i j => .int (i / 2 ^ j.toNat)) (.int (x : Int)) (.int j) H Q := ⟨_, _, rfl, rfl, c, by dsimp only; rw [shr_c]; exact q⟩
/-- 1 << k -/
theorem k_shl1 (c : 0 ≤ j ∧ j ≤ 100000000) (q : Q (.int ((2 ^ j.toNat : Nat) : Int)) H) : rI CShl (fun i j => .int (i * 2 ^ j.toNat)) (.int 1) (.int j) H Q :=
  ⟨_, _, rfl, rfl, cshl (sm41 (by omega) (by omega)) c.1 c.2 (by decide), by dsimp only; rw [Int.one_mul, pow_c]; exact q⟩
end
/-! ### rounds -/
/-- a round at an address: its size and its bits -/
structure RT (K : PySem.W.Frag) (H : Hp) (a : Addr) (n b : Nat) : Prop where
  t : SqT K H a [.int (n : Int), .int (b : Int)]
  n1 : 1 ≤ n
  n2 : n ≤ 150000
  lt : b < 2 ^ n
theorem RT.mono {K : PySem.W.Frag} {H H' : Hp} {a : Addr} {n b : Nat} (r : RT K H a n b) (e : Same H H') : RT K H' a n b := ⟨same_t e r.t, r.n1, r.n2, r.lt⟩
theorem RT.sm {K : PySem.W.Frag} {H : Hp} {a : Addr} {n b : Nat} (r : RT K H a n b) : Sm 400000 (b : Int) := sm_mono (sm_nat r.lt) (by have := r.n2; omega)
/-! ### stretched -/
theorem str_step {g : Nat → Bool} {h k n : Nat} (hg : ∀ i, g (i % n) = g i) (hn : n ∣ h) (hk : k ≤ h) :
    (ofB g h) ||| (ofB g h % 2 ^ k * 2 ^ h) = ofB g (h + k) := by
  apply eq_ofB
  intro i
  rw [Nat.testBit_or, tb_ofB, Nat.testBit_mul_two_pow, Nat.testBit_mod_two_pow, tb_ofB]
  by_cases h1 : i < h
  · rw [decide_eq_true h1, decide_eq_false (show ¬ h ≤ i by omega), decide_eq_true (show i < h + k by omega)]
    simp
  · rw [decide_eq_false h1, decide_eq_true (show h ≤ i by omega)]
    by_cases h2 : i < h + k
    · rw [decide_eq_true h2, decide_eq_true (show i - h < k by omega), decide_eq_true (show i - h < h by omega)]
      have : g (i - h) = g i := by
        rw [← hg (i - h), ← hg i]
        obtain ⟨c, rfl⟩ := hn
        congr 1
        have e : i = (i - n * c) + n * c := by omega
        conv => rhs; rw [e]
        rw [Nat.add_mul_mod_self_left]
      simp [this]
    · rw [decide_eq_false h2, decide_eq_false (show ¬ i - h < k by omega)]
      simp
/-- the bits of a round told by a multiple of its size -/
theorem str_bits {n b m : Nat} (hn : 1 ≤ n) : ofB (fun i => b.testBit (i % n)) m = bitsOf m (hold n b) := by
  unfold bitsOf
  apply ofB_ext
  intro i _
  unfold hold
  congr 1
theorem str_start {n b : Nat} (hb : b < 2 ^ n) : b = ofB (fun i => b.testBit (i % n)) n := by
  apply eq_ofB
  intro i
  by_cases hi : i < n
  · rw [decide_eq_true hi, Nat.mod_eq_of_lt hi]; rfl
  · rw [decide_eq_false hi, Bool.false_and]
    exact Nat.testBit_lt_two_pow (Nat.lt_of_lt_of_le hb (Nat.pow_le_pow_right (by decide) (by omega)))
/-! ### the other functions over rounds -/
theorem on_valc (b : Nat) (z : Nat) : decide (Builtin.bitAnd ((b / 2 ^ z : Nat) : Int) 1 = 1) = b.testBit z := by
  rw [bitAnd_m1, Nat.testBit_eq_decide_div_mod_eq]
  congr 1
  apply propext
  omega
theorem on_valc2 (b : Nat) (z : Nat) : decide (((b / 2 ^ z : Nat) : Int) % 2 = 1) = b.testBit z := by
  rw [Nat.testBit_eq_decide_div_mod_eq]
  congr 1
  apply propext
  omega
theorem hold_dvd {n b m : Nat} (hd : n ∣ m) (d : Int) : hold n b (d % (m : Int)) = hold n b d := by
  unfold hold
  rw [Int.emod_emod_of_dvd _ (Int.natCast_dvd_natCast.mpr hd)]
theorem hold_str {n b m : Nat} (hm : 1 ≤ m) (hd : n ∣ m) (d : Int) : hold m (bitsOf m (hold n b)) d = hold n b d := hold_mod hm (fun d => hold_dvd hd d) d
theorem tb_bitsOf (n : Nat) (f : Int → Bool) (i : Nat) : (bitsOf n f).testBit i = (decide (i < n) && f i) := tb_ofB _ _ _
theorem both_bits (m : Nat) (f g : Int → Bool) : bitsOf m f &&& bitsOf m g = bitsOf m (fun d => f d && g d) := by
  apply Nat.eq_of_testBit_eq; intro i
  simp only [Nat.testBit_and, tb_bitsOf]
  cases decide (i < m) <;> simp
theorem either_bits (m : Nat) (f g : Int → Bool) : bitsOf m f ||| bitsOf m g = bitsOf m (fun d => f d || g d) := by
  apply Nat.eq_of_testBit_eq; intro i
  simp only [Nat.testBit_or, tb_bitsOf]
  cases decide (i < m) <;> simp
theorem unlike_bits (m : Nat) (f g : Int → Bool) : bitsOf m f ^^^ bitsOf m g = bitsOf m (fun d => f d != g d) := by
  apply Nat.eq_of_testBit_eq; intro i
  simp only [Nat.testBit_xor, tb_bitsOf]
  cases decide (i < m) <;> simp
theorem without_bits (m : Nat) (f g : Int → Bool) : bitsOf m f ^^^ (bitsOf m f &&& bitsOf m g) = bitsOf m (fun d => f d && !g d) := by
  apply Nat.eq_of_testBit_eq; intro i
  simp only [Nat.testBit_xor, Nat.testBit_and, tb_bitsOf]
  cases decide (i < m) <;> simp
  cases f i <;> cases g i <;> rfl
theorem other_bits {n b : Nat} (hb : b < 2 ^ n) : b ^^^ (2 ^ n - 1) = bitsOf n (fun d => !hold n b d) := by
  apply Nat.eq_of_testBit_eq; intro i
  rw [Nat.testBit_xor, Nat.testBit_two_pow_sub_one, tb_bitsOf]
  by_cases h : i < n
  · rw [decide_eq_true h, hold_nat h]; cases b.testBit i <;> rfl
  · rw [decide_eq_false h, Nat.testBit_lt_two_pow (Nat.lt_of_lt_of_le hb (Nat.pow_le_pow_right (by decide) (by omega)))]; rfl
/-- ((b << s) | (b >> (n - s))) & mask(n), s the remainder of the number -/
theorem later_bits {n b : Nat} (hn : 1 ≤ n) (hb : b < 2 ^ n) (k : Int) :
    ((b * 2 ^ (k % (n : Int)).toNat) ||| (b / 2 ^ ((n : Int) - k % (n : Int)).toNat)) % 2 ^ n = bitsOf n (fun d => hold n b (d - k)) := by
  obtain ⟨h1, h2⟩ := mod_lt' hn k
  have ed := Int.emod_add_mul_ediv k (n : Int)
  generalize hs : (k % (n : Int)).toNat = s at *
  have e2 : ((n : Int) - k % (n : Int)).toNat = n - s := by omega
  rw [e2]
  apply Nat.eq_of_testBit_eq; intro i
  rw [Nat.testBit_mod_two_pow, Nat.testBit_or, Nat.testBit_mul_two_pow, Nat.testBit_div_two_pow, tb_bitsOf]
  by_cases h : i < n
  · rw [decide_eq_true h, Bool.true_and, Bool.true_and]
    by_cases h3 : s ≤ i
    · have e : ((i : Int) - k) % (n : Int) = ((i - s : Nat) : Int) % (n : Int) := by
        have : (i : Int) - k = ((i - s : Nat) : Int) - n * (k / n) := by omega
        rw [this, Int.sub_mul_emod_self_left]
      rw [decide_eq_true h3, hold_eq e, hold_nat (by omega), Nat.testBit_lt_two_pow (x := b) (i := i + (n - s)) (Nat.lt_of_lt_of_le hb (Nat.pow_le_pow_right (by decide) (by omega)))]
      simp
    · have e : ((i : Int) - k) % (n : Int) = ((i + (n - s) : Nat) : Int) % (n : Int) := by
        have : (i : Int) - k = ((i + (n - s) : Nat) : Int) - n * (k / n + 1) := by rw [Int.mul_add]; omega
        rw [this, Int.sub_mul_emod_self_left]
      rw [decide_eq_false h3, hold_eq e, hold_nat (by omega)]
      simp
  · rw [decide_eq_false h]; rfl
theorem lcm_c {n m : Nat} (hn : 1 ≤ n) : lcmI (n : Int) (m : Int) = ((Nat.lcm n m : Nat) : Int) := by
  have h1 := lcm_mul_gcd (a := (n : Int)) (b := (m : Int)) (by omega)
  have hg := gcd_pos (a := (n : Int)) (b := (m : Int)) (by omega)
  have h2 := Nat.gcd_mul_lcm n m
  have e : ((Int.gcd (n : Int) (m : Int) : Nat) : Int) = ((Nat.gcd n m : Nat) : Int) := by rw [Int.gcd_natCast_natCast]
  rw [e] at h1 hg
  have h3 : ((Nat.lcm n m : Nat) : Int) * ((Nat.gcd n m : Nat) : Int) = (n : Int) * m := by
    rw [← Int.natCast_mul, ← Int.natCast_mul, Nat.mul_comm, h2]
  exact Int.eq_of_mul_eq_mul_right (by omega) (h1.trans h3.symm)
theorem lcm1 {n m : Nat} (hn : 1 ≤ n) (hm : 1 ≤ m) : 1 ≤ Nat.lcm n m := Nat.lcm_pos hn hm
/-! ### drawn rounds -/
theorem pow_pos_c (k : Nat) : (0 : Int) < ((2 ^ k : Nat) : Int) := by have := Nat.two_pow_pos k; omega
theorem natmod (i : Int) (n : Nat) : ∃ x : Nat, i % ((2 ^ (n : Int).toNat : Nat) : Int) = (x : Int) ∧ x < 2 ^ n := by
  rw [Int.toNat_natCast]
  have hp := Nat.two_pow_pos n
  have h1 := Int.emod_nonneg i (show ((2 ^ n : Nat) : Int) ≠ 0 by omega)
  have h2 := Int.emod_lt_of_pos i (show (0 : Int) < ((2 ^ n : Nat) : Int) by omega)
  exact ⟨(i % ((2 ^ n : Nat) : Int)).toNat, by omega, by omega⟩
theorem mask_nat (n : Nat) : ((2 ^ (n : Int).toNat : Nat) : Int) - 1 = ((2 ^ n - 1 : Nat) : Int) := by
  rw [Int.toNat_natCast]
  have hp := Nat.two_pow_pos n
  omega
theorem one_lt {n : Nat} (hn : 1 ≤ n) (z : Int) : 2 ^ (z % (n : Int)).toNat < 2 ^ n := Nat.pow_lt_pow_right (by decide) (mod_lt' hn z).1
theorem pow_le {n : Nat} : 2 ^ n - 1 < 2 ^ n := by have := Nat.two_pow_pos n; omega
/-- what a law asks of a told round: from 0 on and below 1 << size -/
theorem told_bits {n b : Nat} (h : b < 2 ^ n) : ((b : Nat) : Int) < ((2 ^ (n : Int).toNat : Nat) : Int) := by rw [Int.toNat_natCast]; exact Int.ofNat_lt.mpr h
def sp_round (K : PySem.W.Frag) (S : Nat) : Sp := fun vs H Q _ => ∃ (x y : Int), vs = [.int x, .int y] ∧ Sm 1048576 x ∧ Sm 1048576 y ∧
  ∀ (p : Addr) (H' : Hp) (n b : Nat), Same H H' → RT K H' p n b → n ≤ S → Q (.ref p) H'
theorem k_round {K : PySem.W.Frag} {S : Nat} {H : Hp} {Q : VK} {E : XK} {x y : Int} (h1 : Sm 1048576 x) (h2 : Sm 1048576 y)
    (q : ∀ (p : Addr) (H' : Hp) (n b : Nat), Same H H' → RT K H' p n b → n ≤ S → Q (.ref p) H') : sp_round K S [.int x, .int y] H Q E := ⟨x, y, rfl, h1, h2, q⟩
/-! ### folded -/
/-- the days of a round by a divisor of its size -/
def foldB (s b : Nat) : Nat → Nat
  | 0 => 0
  | k + 1 => (b % 2 ^ s) ||| foldB s (b / 2 ^ s) k
theorem tb_fold (s : Nat) : ∀ (k b i : Nat), (foldB s b k).testBit i = true ↔ (i < s ∧ ∃ j, j < k ∧ b.testBit (i + j * s) = true)
  | 0, b, i => by simp [foldB]
  | k + 1, b, i => by
    have ih := tb_fold s k (b / 2 ^ s) i
    unfold foldB
    rw [Nat.testBit_or, Bool.or_eq_true, ih, Nat.testBit_mod_two_pow, Bool.and_eq_true, decide_eq_true_eq]
    constructor
    · rintro (⟨h1, h2⟩ | ⟨h1, j, h2, h3⟩)
      · exact ⟨h1, 0, by omega, by simpa using h2⟩
      · refine ⟨h1, j + 1, by omega, ?_⟩
        rw [Nat.testBit_div_two_pow] at h3
        rw [Nat.add_mul, Nat.one_mul, ← Nat.add_assoc]; exact h3
    · rintro ⟨h1, j, h2, h3⟩
      cases j with
      | zero => exact .inl ⟨h1, by simpa using h3⟩
      | succ j =>
        refine .inr ⟨h1, j, by omega, ?_⟩
        rw [Nat.testBit_div_two_pow]
        rw [Nat.add_mul, Nat.one_mul, ← Nat.add_assoc] at h3; exact h3
theorem fold_lt (s b k : Nat) : foldB s b k < 2 ^ s := by
  apply Nat.lt_pow_two_of_testBit
  intro i hi
  cases h : (foldB s b k).testBit i with
  | false => rfl
  | true =>
    have := (tb_fold s k b i).mp h
    omega
theorem fold_zero (s : Nat) : ∀ k, foldB s 0 k = 0
  | 0 => rfl
  | k + 1 => by unfold foldB; rw [Nat.zero_div, fold_zero s k]; simp
/-- it holds where the round holds on some day that is alike -/
theorem fold_hold {n s b : Nat} (hn : 1 ≤ n) (hs : 1 ≤ s) (hd : s ∣ n) (hb : b < 2 ^ n) (d : Int) : hold s (foldB s b (n / s)) d = true ↔ ∃ e : Int, hold n b e = true ∧ (e - d) % (s : Int) = 0 := by
  obtain ⟨c, rfl⟩ := hd
  have hc : s * c / s = c := Nat.mul_div_cancel_left c (by omega)
  rw [hc]
  obtain ⟨h1, h2⟩ := mod_lt' hs d
  unfold hold
  rw [tb_fold]
  constructor
  · rintro ⟨_, j, hj, hjb⟩
    refine ⟨((((d % (s : Int)).toNat + j * s : Nat)) : Int), ?_, ?_⟩
    · have hlt : (d % (s : Int)).toNat + j * s < s * c := by
        have : (j + 1) * s ≤ c * s := Nat.mul_le_mul_right _ hj
        rw [Nat.add_mul, Nat.one_mul, Nat.mul_comm c s] at this
        omega
      rw [Int.emod_eq_of_lt (by omega) (by omega), Int.toNat_natCast]
      exact hjb
    · rw [Int.natCast_add, h2, Int.natCast_mul]
      have e := Int.emod_add_mul_ediv d (s : Int)
      have : d % (s : Int) + (j : Int) * (s : Int) - d = (s : Int) * (j - d / s) := by rw [Int.mul_sub, Int.mul_comm (s : Int) j]; omega
      rw [this, Int.mul_emod_right]
  · rintro ⟨e, he, hed⟩
    have hsc : (1 : Nat) ≤ s * c := hn
    obtain ⟨g1, g2⟩ := mod_lt' hsc e
    refine ⟨h1, (e % ((s * c : Nat) : Int)).toNat / s, ?_, ?_⟩
    · exact Nat.div_lt_of_lt_mul g1
    · have hm : (e % ((s * c : Nat) : Int)).toNat % s = (d % (s : Int)).toNat := by
        have a1 : (((e % ((s * c : Nat) : Int)).toNat % s : Nat) : Int) = d % (s : Int) := by
          rw [Int.natCast_emod, g2, Int.emod_emod_of_dvd _ (by exact ⟨(c : Int), by rw [Int.natCast_mul]⟩)]
          have := Int.emod_emod_of_dvd e (Int.dvd_refl (s : Int))
          have h3 := Int.dvd_of_emod_eq_zero hed
          obtain ⟨z, hz⟩ := h3
          have : e = d + s * z := by omega
          rw [this, Int.add_mul_emod_self_left]
        omega
      have e2 := Nat.mod_add_div (e % ((s * c : Nat) : Int)).toNat s
      rw [← hm, Nat.mul_comm _ s, e2]; exact he

/-! ### a list that is written: all else stays -/
def Mut (p : Addr) (H H' : Hp) : Prop := ∀ a o, a ≠ p → H a = some o → H' a = some o
theorem Mut.of {p : Addr} {H H' : Hp} (s : Same H H') : Mut p H H' := fun a o _ h => s a o h
theorem Mut.trans {p : Addr} {H H' H2 : Hp} (m : Mut p H H') (m2 : Mut p H' H2) : Mut p H H2 := fun a o n h => m2 a o n (m a o n h)
theorem Mut.same {p : Addr} {H0 H H' : Hp} (s : Same H0 H) (m : Mut p H H') (h : H0 p = none) : Same H0 H' := fun a o e => m a o (fun e2 => by subst e2; rw [h] at e; exact nomatch e) (s a o e)
theorem mut_upd {p : Addr} {H : Hp} {o : HO} : Mut p H (upd H p o) := fun a x n h => by rw [upd_ne n]; exact h
theorem mut_t {K : PySem.W.Frag} {H H' : Hp} {p a : Addr} {xs ys : List V} (m : Mut p H H') (hp : H p = some (.lst xs)) (h : SqT K H a ys) : SqT K H' a ys := by
  rcases h with (h | ⟨o, h⟩) | h
  · exact .inl (.inl (m _ _ (fun e => by subst e; rw [hp] at h; exact nomatch h) h))
  · exact .inl (.inr ⟨o, m _ _ (fun e => by subst e; rw [hp] at h; exact nomatch h) h⟩)
  · exact .inr h
theorem mut_l {K : PySem.W.Frag} {H H' : Hp} {p a : Addr} {ys : List V} (m : Mut p H H') (n : a ≠ p) (h : SqL K H a ys) : SqL K H' a ys := by
  rcases h with (h | ⟨o, h⟩) | h
  · exact .inl (.inl (m _ _ n h))
  · exact .inl (.inr ⟨o, m _ _ n h⟩)
  · exact .inr h
theorem RT.mut {K : PySem.W.Frag} {H H' : Hp} {p a : Addr} {xs : List V} {n b : Nat} (m : Mut p H H') (hp : H p = some (.lst xs)) (r : RT K H a n b) : RT K H' a n b := ⟨mut_t m hp r.t, r.n1, r.n2, r.lt⟩
section
variable {K : PySem.W.Frag} {H : Hp} {Q : VK} {σ : L2.St} {l p : Addr} {xs : List V} {y : V}
def App (l : Addr) (ys : List V) (H : Hp) (Q : VK) : Prop := rAppend (.ref l) ys H Q
def BmR (K : PySem.W.Frag) (T : String) (r : V → List V → Hp → VK → Prop) (t : TA) (σ : L2.St) (x : V) (H : Hp) (Q : VK) : Prop := tyV K T x H ∧ t σ H fun xs H2 => r x xs H2 Q
theorem k_bm {T : String} {r : V → List V → Hp → VK → Prop} {to : TE} {t : TA} (h : to σ H fun x H1 => BmR K T r t σ x H1 Q) : tBM K T r to t σ H Q := h
theorem k_bmA {t : TA} (hl : SqL K H l xs) (h : t σ H fun ys H2 => App l ys H2 Q) : BmR K "list" rAppend t σ (.ref l) H Q := ⟨.inl ⟨rfl, xs, hl⟩, h⟩
theorem k_app (h : H l = some (.lst xs)) (hz : xs.length ≤ 1000000) (q : ∀ H', Mut l H H' → H' l = some (.lst (xs ++ [y])) → Q .non H') : App l [y] H Q :=
  ⟨l, xs, y, rfl, rfl, h, Nat.lt_of_le_of_lt hz (by decide), q _ mut_upd upd_same⟩
/-! ### slices -/
def SlV (K : PySem.W.Frag) (x : V) (lo hi : Option Int) (H : Hp) (Q : VK) : Prop := rSlL K x lo hi H Q
theorem k_sl {te : TE} {tl th : TO} (h : te σ H fun x H1 => tl σ H1 fun lo H2 => th σ H2 fun hi H3 => SlV K x lo hi H3 Q) : L2.tSl (rSlL K) te tl th σ H Q := h
theorem k_slV {lo hi : Option Int} (h : SqL K H p xs) (q : ∀ a H2, H a = none → Same H H2 → H2 a = some (.lst (cutV xs lo hi)) → Q (.ref a) H2) : SlV K (.ref p) lo hi H Q :=
  ⟨p, xs, rfl, h, fun a ha => q a _ ha (same_new ha) upd_same⟩
theorem cutV_ints (ns : List Int) (lo hi : Option Int) : ∃ ms : List Int, cutV (ns.map V.int) lo hi = ms.map V.int ∧ (∀ z ∈ ms, z ∈ ns) ∧ ms.length ≤ ns.length := by
  refine ⟨(ns.drop (HT.sIx (ns.map V.int).length 0 lo)).take (HT.sIx (ns.map V.int).length (ns.map V.int).length hi - HT.sIx (ns.map V.int).length 0 lo), ?_, fun z hz => List.mem_of_mem_drop (List.mem_of_mem_take hz), ?_⟩
  · unfold cutV; rw [List.map_take, List.map_drop]
  · rw [List.length_take, List.length_drop]; omega
theorem cutV_to (xs : List V) (k : Nat) : (cutV xs none (some (k : Int))).length ≤ k := by
  unfold cutV
  rw [List.length_take, HT.sIx_nat]
  omega
/-! ### list(a list), a[i] = y -/
def LofV (K : PySem.W.Frag) (xs : List V) (H : Hp) (Q : VK) : Prop := ∃ p ys, xs = [.ref p] ∧ (SqL K H p ys ∨ SqT K H p ys) ∧ ∀ l, H l = none → Q (.ref l) (upd H l (.lst ys))
def rLof (K : PySem.W.Frag) : List V → Hp → VK → Prop := fun xs H Q => LofV K xs H Q
theorem kb_lof {X : Cx} (K : PySem.W.Frag) (hk : X.K = K) : CallR X (.type "list") (rLof K) := by subst hk; exact call_list_of
theorem k_lofL {ys : List V} (h : SqL K H p ys) (q : ∀ a H2, H a = none → Same H H2 → H2 a = some (.lst ys) → Q (.ref a) H2) : rLof K [.ref p] H Q := ⟨p, ys, rfl, .inl h, fun a ha => q a _ ha (same_new ha) upd_same⟩
def SetV (o i v : V) (H : Hp) (Q : Hp → Prop) : Prop := rSetL o i v H Q
theorem k_gsub {to ti : TE} {v : V} {Q : L2.St → Hp → Prop} (h : to σ H fun o H1 => ti σ H1 fun i H2 => SetV o i v H2 fun H3 => Q σ H3) : gSub to ti rSetL v σ H Q := h
theorem k_setV {i : Int} {j : Nat} {v : V} {Q : Hp → Prop} (h : H p = some (.lst xs)) (hj : ixN xs.length i = some j) (q : ∀ H', Mut p H H' → H' p = some (.lst (xs.set j v)) → Q H') : SetV (.ref p) (.int i) v H Q :=
  ⟨p, xs, i, j, rfl, rfl, h, hj, q _ mut_upd upd_same⟩
end
theorem k_eqE {K : PySem.W.Frag} {H : Hp} {Q : VK} {p q : Addr} {l : List Int} (h1 : SqL K H p (l.map V.int)) (h2 : SqL K H q []) (r : Q (.bl (decide (l = []))) H) : rEqA K (.ref p) (.ref q) H Q := k_eqL (m := []) h1 h2 r
theorem k_neE {K : PySem.W.Frag} {H : Hp} {Q : VK} {p q : Addr} {l : List Int} (h1 : SqL K H p (l.map V.int)) (h2 : SqL K H q []) (r : Q (.bl (!decide (l = []))) H) : rNeA K (.ref p) (.ref q) H Q := k_neL (m := []) h1 h2 r
theorem atI_last {l : List Int} (h : l ≠ []) : ∃ z, z ∈ l ∧ atI (l.map V.int) (-1) = some (.int z) := by
  have hp : 0 < l.length := List.length_pos_iff.mpr h
  refine ⟨l[l.length - 1], List.getElem_mem _, ?_⟩
  unfold atI ixN
  rw [if_neg (by decide), if_pos (by rw [List.length_map]; omega), List.length_map, show ((-1 : Int) + (l.length : Int)).toNat = l.length - 1 by omega]
  show (l.map V.int)[l.length - 1]? = _
  rw [List.getElem?_map, List.getElem?_eq_getElem (by omega)]
  rfl
/-- days of a round, as a list -/
structure DL (K : PySem.W.Frag) (H : Hp) (L : Addr) (n : Nat) (l : List Int) : Prop where
  h : SqL K H L (l.map V.int)
  b : ∀ x ∈ l, 0 ≤ x ∧ x < n
  z : l.length ≤ 4000
theorem DL.mono {K : PySem.W.Frag} {H H' : Hp} {L : Addr} {n : Nat} {l : List Int} (r : DL K H L n l) (s : Same H H') : DL K H' L n l := ⟨same_l s r.h, r.b, r.z⟩
theorem tb_put {x d : Nat} {l : List Int} (hx : ∀ j, x.testBit j = true ↔ (j : Int) ∈ l) (j : Nat) : (x ||| 2 ^ d).testBit j = true ↔ (j : Int) ∈ l ++ [(d : Int)] := by
  rw [Nat.testBit_or, Nat.testBit_two_pow, Bool.or_eq_true, hx, List.mem_append, List.mem_singleton, decide_eq_true_iff]
  constructor <;> (rintro (h | h); exact .inl h; right; omega)
theorem tb_add {x e : Nat} (h : x.testBit e = false) (j : Nat) : (2 ^ e + x).testBit j = (decide (e = j) || x.testBit j) := by
  rcases Nat.lt_trichotomy j e with hj | hj | hj
  · rw [Nat.testBit_two_pow_add_gt hj, decide_eq_false (by omega), Bool.false_or]
  · subst hj; rw [Nat.testBit_two_pow_add_eq, h]; simp
  · obtain ⟨k, rfl⟩ := Nat.exists_eq_add_of_lt hj
    rw [decide_eq_false (by omega), Bool.false_or]
    have e1 : ∀ y : Nat, y.testBit (e + k + 1) = (y / 2 ^ e / 2).testBit k := fun y => by
      rw [Nat.div_div_eq_div_mul, ← Nat.pow_succ, Nat.testBit_div_two_pow]; congr 1; omega
    rw [e1, e1, Nat.add_div_left _ (Nat.two_pow_pos e)]
    rw [Nat.testBit_eq_decide_div_mod_eq] at h
    have := of_decide_eq_false h
    congr 1
    omega
theorem sum_bits {n : Nat} : ∀ {l : List Int}, l.Nodup → (∀ x ∈ l, 0 ≤ x ∧ x < (n : Int)) →
    ∃ x : Nat, (l.map fun e => ((2 ^ e.toNat : Nat) : Int)).sum = (x : Int) ∧ x < 2 ^ n ∧ ∀ j : Nat, x.testBit j = true ↔ (j : Int) ∈ l
  | [], _, _ => ⟨0, rfl, Nat.two_pow_pos n, fun j => by simp⟩
  | e :: r, hd, hb => by
    obtain ⟨x, h1, h2, h3⟩ := sum_bits (n := n) (List.nodup_cons.mp hd).2 (fun y hy => hb y (List.mem_cons_of_mem _ hy))
    obtain ⟨b0, b1⟩ := hb e List.mem_cons_self
    obtain ⟨k, rfl⟩ := Int.eq_ofNat_of_zero_le b0
    have hk : x.testBit k = false := by
      cases hx : x.testBit k with
      | false => rfl
      | true => exact absurd ((h3 k).mp hx) (List.nodup_cons.mp hd).1
    have ht := tb_add hk
    refine ⟨2 ^ k + x, ?_, ?_, fun j => ?_⟩
    · rw [List.map_cons, List.sum_cons, h1, Int.toNat_natCast, Int.natCast_add]
    · refine Nat.lt_pow_two_of_testBit _ fun i hi => ?_
      rw [ht, decide_eq_false (by omega), Bool.false_or]
      exact Nat.testBit_lt_two_pow (Nat.lt_of_lt_of_le h2 (Nat.pow_le_pow_right (by decide) hi))
    · rw [ht, Bool.or_eq_true, decide_eq_true_iff, h3, List.mem_cons]
      constructor
      · rintro (h | h)
        · left; omega
        · exact .inr h
      · rintro (h | h)
        · left; omega
        · exact .inr h

/-! ### texts: their lengths -/
structure SL (n : Nat) (s : Str) : Prop where
  h : s.length ≤ n
theorem SL.app {a b : Nat} {s t : Str} (h : SL a s) (h' : SL b t) : SL (a + b) (s ++ t) := ⟨by rw [Str.length_append]; exact Nat.add_le_add h.h h'.h⟩
theorem SL.mono {a b : Nat} {s : Str} (h : SL a s) (hb : a ≤ b) : SL b s := ⟨Nat.le_trans h.h hb⟩
theorem SL.lit {s : Str} (h : s.length ≤ 30) : SL 30 s := ⟨h⟩
theorem len_num {i : Int} {k : Nat} (hk : 0 < k) (h : i.natAbs < 10 ^ k) : (Str.ofString (toString i)).length ≤ k + 1 := by
  cases i with
  | ofNat n =>
    have := toString_length_le (v := (n : Int)) (by omega) hk (by have h2 : n < 10 ^ k := h; exact_mod_cast h2)
    exact Nat.le_trans this (by omega)
  | negSucc n =>
    have e : toString (Int.negSucc n) = "-" ++ toString ((n + 1 : Nat) : Int) := rfl
    have h2 : n + 1 < 10 ^ k := by simpa [Int.natAbs] using h
    have := toString_length_le (v := ((n + 1 : Nat) : Int)) (by omega) hk (by exact_mod_cast h2)
    rw [e, PyProof.Rows.ofString_length, String.toList_append, List.length_append]
    rw [PyProof.Rows.ofString_length] at this
    have : ("-" : String).toList.length = 1 := rfl
    omega
theorem SL.num {i : Int} (h : Sm 400 i) : SL 122 (Str.ofString (toString i)) := by
  refine ⟨len_num (by decide) (Nat.lt_trans h.h (by decide))⟩
theorem num_log {i : Int} (h : Sm 400 i) : i.natAbs.log2 < 1920 := by
  by_cases z : i.natAbs = 0
  · rw [z]; decide
  · exact Nat.lt_trans ((Nat.log2_lt z).mpr h.h) (by decide)
section
variable {K : PySem.W.Frag} {σ : L2.St} {H : Hp} {Q : VK}
theorem k_adds {a b : Nat} {s t : Str} (h : SL a s) (h' : SL b t) (hb : a + b ≤ 10000000) (q : Q (.str (s ++ t)) H) : rAddA (.str s) (.str t) H Q :=
  .inr (.inl ⟨s, t, rfl, rfl, Nat.le_trans (Nat.add_le_add h.h h'.h) (Nat.le_trans hb (by rw [sizeLine_eq]; decide)), q⟩)
def rStrI : List V → Hp → VK → Prop := fun xs H Q => ∃ i, xs = [.int i] ∧ i.natAbs.log2 < 1920 ∧ Q (.str (toString i)) H
theorem cb_str {X : Cx} : CallR X (.type "str") rStrI := call_str_int
theorem k_str {i : Int} (h : Sm 400 i) (q : Q (.str (toString i)) H) : rStrI [.int i] H Q := ⟨i, rfl, num_log h, q⟩
end

section
open SX
/-! ### texts as lists of signs -/
theorem str_S (s : Str) : ∃ l, s = S l := ⟨s.cps.toList, (S_tl s).symm⟩
theorem cps_S (l : List Nat) : (S l).cps.toList = l := rfl
theorem cut_to (l : List Nat) (k : Nat) : cutS (S l) none (some (k : Int)) = S (l.take k) := by
  unfold cutS
  rw [S_len, HT.sIx_nat, HT.sIx_none, cps_S, List.drop_zero, Nat.sub_zero]
  by_cases h : k ≤ l.length
  · rw [Nat.min_eq_left h]
  · rw [Nat.min_eq_right (by omega), List.take_of_length_le (Nat.le_refl _), List.take_of_length_le (show l.length ≤ k by omega)]
theorem cut_from (l : List Nat) (k : Nat) : cutS (S l) (some (k : Int)) none = S (l.drop k) := by
  unfold cutS
  rw [S_len, HT.sIx_nat, HT.sIx_none, cps_S]
  by_cases h : k ≤ l.length
  · rw [Nat.min_eq_left h, List.take_of_length_le (by rw [List.length_drop]; exact Nat.le_refl _)]
  · rw [Nat.min_eq_right (by omega), List.drop_of_length_le (Nat.le_refl _), List.drop_of_length_le (show l.length ≤ k by omega), List.take_nil]
theorem cut_mid (l : List Nat) (a b : Nat) : cutS (S l) (some (a : Int)) (some (b : Int)) = S ((l.drop a).take (b - a)) := by
  unfold cutS
  rw [S_len, HT.sIx_nat, HT.sIx_nat, cps_S]
  by_cases h : a ≤ l.length
  · rw [Nat.min_eq_left h]
    by_cases h2 : b ≤ l.length
    · rw [Nat.min_eq_left h2]
    · rw [Nat.min_eq_right (by omega), List.take_of_length_le (by rw [List.length_drop]; exact Nat.le_refl _), List.take_of_length_le (show (l.drop a).length ≤ b - a by rw [List.length_drop]; omega)]
  · rw [Nat.min_eq_right (show l.length ≤ a by omega), List.drop_of_length_le (Nat.le_refl _), List.drop_of_length_le (show l.length ≤ a by omega), List.take_nil, List.take_nil]
section
variable {K : PySem.W.Frag} {σ : L2.St} {H H1 : Hp} {Q : VK} {D : Ends} {ta tb te : TE} {t : TA} {a : Int}
theorem line7 {n : Nat} (h : n ≤ 10000000) : n ≤ sizeLine := Nat.le_trans h (by rw [sizeLine_eq]; decide)
theorem k_ixS {l : List Nat} {i : Int} {c : Nat} (hl : l.length ≤ 10000000) (h : atI l i = some c) (q : Q (.str (S [c])) H) : rIx K (.str (S l)) (.int i) H Q :=
  .inr (.inr ⟨S l, i, c, rfl, rfl, by rw [S_len]; exact line7 hl, h, q⟩)
theorem k_lenS {z : Str} (hl : z.length ≤ 10000000) (q : Q (.int (z.length : Nat)) H) : rLen K [.str z] H Q := ⟨.str z, z.length, rfl, ⟨line7 hl, rfl⟩, q⟩
def SlS (x : V) (lo hi : Option Int) (H : Hp) (Q : VK) : Prop := rSlS x lo hi H Q
theorem k_slS {tl th : TO} (h : te σ H fun x H1 => tl σ H1 fun lo H2 => th σ H2 fun hi H3 => SlS x lo hi H3 Q) : L2.tSl rSlS te tl th σ H Q := h
theorem k_slSV {z : Str} {lo hi : Option Int} (hl : z.length ≤ 10000000) (q : Q (.str (cutS z lo hi)) H) : SlS (.str z) lo hi H Q := ⟨z, rfl, line7 hl, q⟩
/-- one sign in a text -/
def rSgn (neg : Bool) : R2 := fun x y H Q => ∃ (c : Nat) (z : Str), x = .str ⟨#[c]⟩ ∧ y = .str z ∧ Q (.bl (if neg then !decide (c ∈ z.cps.toList) else decide (c ∈ z.cps.toList))) H
theorem kb_sgn {X : Cx} : OpR X (compareOp .In) (rSgn false) := op_in_sign
theorem kb_nsgn {X : Cx} : OpR X (compareOp .NotIn) (rSgn true) := op_notIn_sign
theorem k_sgn {c : Nat} {z : Str} (q : Q (.bl (decide (c ∈ z.cps.toList))) H) : rSgn false (.str (S [c])) (.str z) H Q := ⟨c, z, rfl, rfl, q⟩
theorem k_nsgn {c : Nat} {z : Str} (q : Q (.bl (!decide (c ∈ z.cps.toList))) H) : rSgn true (.str (S [c])) (.str z) H Q := ⟨c, z, rfl, rfl, q⟩
/-! methods of texts -/
def TxM (r : V → List V → Hp → VK → Prop) (t : TE) (σ : L2.St) (x : V) (H1 : Hp) (Q : VK) : Prop := (∃ a, x = .str a) ∧ t σ H1 fun y H2 => r x [y] H2 Q
theorem k_m1 {r : V → List V → Hp → VK → Prop} (h : ta σ H fun x H1 => TxM r tb σ x H1 Q) : tM1 r ta tb σ H Q := h
theorem k_m1S {r : V → List V → Hp → VK → Prop} {z : Str} (h : tb σ H fun y H2 => r (.str z) [y] H2 Q) : TxM r tb σ (.str z) H Q := ⟨⟨z, rfl⟩, h⟩
def TxM0 (r : V → List V → Hp → VK → Prop) (x : V) (H1 : Hp) (Q : VK) : Prop := (∃ a, x = .str a) ∧ r x [] H1 Q
theorem k_m0 {r : V → List V → Hp → VK → Prop} (h : ta σ H fun x H1 => TxM0 r x H1 Q) : tM0 r ta σ H Q := h
theorem k_m0S {r : V → List V → Hp → VK → Prop} {z : Str} (h : r (.str z) [] H Q) : TxM0 r (.str z) H Q := ⟨⟨z, rfl⟩, h⟩
def rStarts : V → List V → Hp → VK → Prop := fun x xs H Q => ∃ a b, x = .str a ∧ xs = [.str b] ∧ Q (.bl (Txt.startswith a b)) H
theorem mt_starts {X : Cx} : MtR X "str.startswith" rStarts := mt_startswith
theorem k_starts {a b : Str} (q : Q (.bl (Txt.startswith a b)) H) : rStarts (.str a) [.str b] H Q := ⟨a, b, rfl, rfl, q⟩
def rIndexS : V → List V → Hp → VK → Prop := fun x xs H Q => ∃ a b i rest, x = .str a ∧ xs = [.str b] ∧ Builtin.Str.occurrences a b 0 a.length 1 = i :: rest ∧ Q (.int (i : Nat)) H
/-! a for over a text -/
def StrI (J : Str → It) (x : V) (H : Hp) (R : It → Hp → Prop) : Prop := ∃ z, x = .str z ∧ R (J z) H
theorem k_istr {R : It → Hp → Prop} (h : te σ H fun x H1 => StrI Its x H1 R) : iStr te σ H R := h
theorem k_istrV {z : Str} {R : It → Hp → Prop} (q : R (Its z) H) : StrI Its (.str z) H R := ⟨z, rfl, q⟩
/-- for c in l -/
theorem for_str {l : List Nat} {g : TG} {tb : TS} (Pv : Nat → L2.St → Hp → Prop) (h0 : Pv 0 σ H)
    (hs : ∀ i c σ H, l[i]? = some c → Pv i σ H → g (.str (S [c])) σ H fun σ2 H2 => tb { D with nx := Pv (i + 1), ct := Pv (i + 1), bk := D.nx } σ2 H2) (hd : ∀ σ H, Pv l.length σ H → D.nx σ H) : ForG (Its (S l)) g tb D σ H := by
  refine for_it (walk_str (z := S l)) Pv h0 (fun _ _ _ _ _ => trivial) (fun i x σ H H' hi hp hy => ?_) (fun σ H hp => hd σ H ?_)
  · obtain ⟨rfl, c, hc, rfl⟩ := hy
    exact hs i c σ H' (by simpa [S] using hc) hp
  · have e : (S l).cps.size = l.length := by simp [S]
    rw [e] at hp; exact hp
/-- [e for c in l] -/
theorem k_lcs {l : List Nat} {j : Nat} (L : List V) (hl : L.length = l.length) (hz : l.length ≤ 1000000)
    (hs : ∀ (i c : Nat) (v : V) (H2 : Hp) (R : VK), l[i]? = some c → L[i]? = some v → Same H1 H2 → (∀ H3, Same H2 H3 → R v H3) → te (σ.set j (some (.str (S [c])))) H2 R)
    (q : ∀ D H2, H1 D = none → Same H1 H2 → H2 D = some (.lst L) → Q (.ref D) H2) : LcG (Its (S l)) H1 (gName j) tYes te [j] σ Q := by
  intro D hD
  refine lc_it (walk_str (z := S l)) (fun i H' => Same H1 H' ∧ H' D = some (.lst (L.take i))) ⟨same_new hD, by rw [upd_same]; rfl⟩ (fun _ _ _ _ => trivial) (fun i x H H' hi hp hy => ?_) (fun H' hp => ?_)
  · obtain ⟨rfl, c, hc, rfl⟩ := hy
    obtain ⟨sm, hd⟩ := hp
    have hc' : l[i]? = some c := by simpa [S] using hc
    have hil := (List.getElem?_eq_some_iff.mp hc').1
    show wipe ((wipe σ [j]).set j _) [j] = wipe σ [j] ∧ _
    rw [wipe_set]
    refine ⟨wipe_set2, ?_⟩
    refine hs i c (L[i]'(by omega)) H' _ hc' (List.getElem?_eq_getElem (by omega)) sm fun H3 s3 => ?_
    refine ⟨L.take i, s3 _ _ hd, Nat.lt_of_le_of_lt (Nat.le_trans (by rw [List.length_take]; exact Nat.min_le_left _ _) (show i ≤ 1000000 by omega)) (by rw [sizeLine_eq]; decide), same_mut (sm.trans s3) hD, ?_⟩
    rw [upd_same, List.take_add_one, List.getElem?_eq_getElem (show i < L.length by omega)]
    rfl
  · obtain ⟨sm, hd⟩ := hp
    have e : (S l).cps.size = l.length := by simp [S]
    rw [e] at hd
    exact q D H' hD sm (by rw [hd, List.take_of_length_le (by omega)])
/-! text * number -/
def rMulS : R2 := fun x y H Q => ∃ (z : Str) (n : Int), x = .str z ∧ y = .int n ∧ MulOk z n ∧ Q (.str (Txt.mul z n)) H
theorem op_mulS {X : Cx} : OpR X (binaryOp .Mult) rMulS := by
  intro pins s σ H x y v u Q I rx ry h
  obtain ⟨z, n, rfl, rfl, ok, q⟩ := h
  obtain ⟨t, rfl⟩ := rx
  obtain ⟨t', rfl⟩ := ry
  exact SB.mul ok fun t' k => ⟨.str _, H, I.tok _, ⟨_, rfl⟩, q⟩
theorem k_isi_ss {z : Str} (q : Q (.bl true) H) : rIsi K [.str z, .ty "str"] H Q := ⟨.str z, .ty "str", .type "str", .type "str", true, rfl, .ty _, .base (.str _), kit_ty (by decide +kernel), q⟩
theorem k_isi_is (q : Q (.bl false) H) : rIsi K [.int a, .ty "str"] H Q := ⟨.int a, .ty "str", .type "int", .type "str", false, rfl, .ty _, .base (.int _), kit_ty (by decide +kernel), q⟩
theorem k_isi_ns (q : Q (.bl false) H) : rIsi K [.non, .ty "str"] H Q := ⟨.non, .ty "str", .type "NoneType", .type "str", false, rfl, .ty _, .base .non, kit_ty (by decide +kernel), q⟩
theorem k_isi_ni (q : Q (.bl false) H) : rIsi K [.non, .ty "int"] H Q := ⟨.non, .ty "int", .type "NoneType", .type "int", false, rfl, .ty _, .base .non, kit_ty (by decide +kernel), q⟩
theorem k_isi_ls {p : Addr} {xs : List V} (h : H p = some (.lst xs)) (q : Q (.bl false) H) : rIsi K [.ref p, .ty "str"] H Q := ⟨.ref p, .ty "str", .type "list", .type "str", false, rfl, .ty _, .base (.lst h), kit_ty (by decide +kernel), q⟩
theorem tyx_tS {p : Addr} {xs : List V} (h : SqT K H p xs) : TyX K H (.ref p) (.type "tuple") := by
  rcases h with (h | ⟨o, h⟩) | ⟨o, its, n, l, c, _⟩
  · exact .base (.tup h)
  · exact .fTuple h
  · exact .kTuple l c
theorem k_isi_ts {p : Addr} {xs : List V} (h : SqT K H p xs) (q : Q (.bl false) H) : rIsi K [.ref p, .ty "str"] H Q := ⟨.ref p, .ty "str", .type "tuple", .type "str", false, rfl, .ty _, tyx_tS h, kit_ty (by decide +kernel), q⟩
/-- what is no text -/
def NoStr (K : PySem.W.Frag) (H : Hp) (v : V) : Prop := v = .non ∨ (∃ i, v = .int i) ∨ (∃ p xs, v = .ref p ∧ SqT K H p xs) ∨ ∃ p xs, v = .ref p ∧ H p = some (.lst xs)
theorem NoStr.same {H H' : Hp} {v : V} (h : NoStr K H v) (s : Same H H') : NoStr K H' v := by
  rcases h with h | h | ⟨p, xs, h, g⟩ | ⟨p, xs, h, g⟩
  · exact .inl h
  · exact .inr (.inl h)
  · exact .inr (.inr (.inl ⟨p, xs, h, same_t s g⟩))
  · exact .inr (.inr (.inr ⟨p, xs, h, s _ _ g⟩))
theorem k_isi_noS {v : V} (h : NoStr K H v) (q : Q (.bl false) H) : rIsi K [v, .ty "str"] H Q := by
  rcases h with rfl | ⟨i, rfl⟩ | ⟨p, xs, rfl, g⟩ | ⟨p, xs, rfl, g⟩
  · exact k_isi_ns q
  · exact k_isi_is q
  · exact k_isi_ts g q
  · exact k_isi_ls g q
/-! int(text) -/
def rIntT : List V → Hp → VK → Prop := fun xs H Q => ∃ a n, xs = [.str a] ∧ PySem.intText? a = some n ∧ a.length ≤ 640 ∧ Q (.int n) H
theorem cb_intT {X : Cx} : CallR X (.type "int") rIntT := call_int_str
theorem k_intT {z : Str} {n : Int} (h : PySem.intText? z = some n) (hl : z.length ≤ 640) (q : Q (.int n) H) : rIntT [.str z] H Q := ⟨z, n, rfl, h, hl, q⟩
end
/-! ### numbers written -/
def dig (c : Nat) : Bool := decide (48 ≤ c) && decide (c ≤ 57)
theorem dig_iff {c : Nat} : dig c = true ↔ 48 ≤ c ∧ c ≤ 57 := by unfold dig; rw [Bool.and_eq_true, decide_eq_true_eq, decide_eq_true_eq]
def valF (l : List Nat) : Nat := NumText.digitsVal l
def figs (l : List Nat) : Bool := decide (1 ≤ l.length) && decide (l.length ≤ 60) && l.all dig
/-- the signs behind a minus -/
def unS (l : List Nat) : List Nat := if l.head? = some 45 then l.tail else l
def goodN (l : List Nat) : Bool := figs (unS l) && !(decide ((unS l).head? = some 48) && !decide (l = [48]))
def numN (l : List Nat) : Int := if l.head? = some 45 then -(valF (unS l) : Int) else (valF (unS l) : Int)
theorem figs_all {l : List Nat} (h : figs l = true) : 1 ≤ l.length ∧ l.length ≤ 60 ∧ NumText.AllDigits l := by
  unfold figs at h
  rw [Bool.and_eq_true, Bool.and_eq_true, decide_eq_true_eq, decide_eq_true_eq, List.all_eq_true] at h
  exact ⟨h.1.1, h.1.2, fun c hc => dig_iff.mp (h.2 c hc)⟩
theorem unS_cases (l : List Nat) : (l.head? = some 45 ∧ l = 45 :: unS l) ∨ (l.head? ≠ some 45 ∧ unS l = l) := by
  unfold unS
  cases l with
  | nil => exact .inr ⟨by simp, by simp⟩
  | cons c r =>
    by_cases h : c = 45
    · subst h; exact .inl ⟨rfl, by simp⟩
    · have e : (c :: r).head? ≠ some 45 := by simpa using h
      exact .inr ⟨e, by rw [if_neg e]⟩
theorem int_good {l : List Nat} (h : figs (unS l) = true) : PySem.intText? (S l) = some (numN l) ∧ (S l).length ≤ 640 := by
  obtain ⟨h1, h2, h3⟩ := figs_all h
  have hne : unS l ≠ [] := fun e => by rw [e] at h1; simp at h1
  unfold numN
  rcases unS_cases l with ⟨e1, e2⟩ | ⟨e1, e2⟩
  · have hl : l.length ≤ 61 := by rw [e2, List.length_cons]; omega
    rw [if_pos e1]
    exact ⟨intText_neg (x := S l) e2 h3 hne (by rw [S_len]; omega), by rw [S_len]; omega⟩
  · rw [e2] at h2 h3 hne ⊢
    rw [if_neg e1]
    exact ⟨intText_digits (x := S l) h3 hne (by rw [S_len]; omega), by rw [S_len]; omega⟩
theorem head_of {l : List Nat} {c : Nat} (h : 1 ≤ l.length) : atI l 0 = some (l.headD c) := by
  cases l with
  | nil => simp at h
  | cons x r =>
    unfold atI ixN
    rw [if_pos (by decide), if_pos (by rw [List.length_cons]; omega)]
    rfl
theorem valF_snoc (l : List Nat) (c : Nat) : valF (l ++ [c]) = valF l * 10 + (c - 48) := by
  unfold valF NumText.digitsVal; rw [List.foldl_append]; rfl
theorem fig_mem (c : Nat) : decide (c ∈ ("0123456789" : Str).cps.toList) = dig c := by
  have e : ("0123456789" : Str).cps.toList = [48, 49, 50, 51, 52, 53, 54, 55, 56, 57] := by decide +kernel
  rw [e]
  by_cases h : dig c = true
  · have := dig_iff.mp h
    rw [h]
    refine decide_eq_true ?_
    have : c = 48 ∨ c = 49 ∨ c = 50 ∨ c = 51 ∨ c = 52 ∨ c = 53 ∨ c = 54 ∨ c = 55 ∨ c = 56 ∨ c = 57 := by omega
    simpa using this
  · rw [show dig c = false by simpa using h]
    refine decide_eq_false fun hm => h (dig_iff.mpr ?_)
    simp only [List.mem_cons, List.not_mem_nil, or_false] at hm
    omega
theorem lit_0 : ("0" : Str) = S [48] := by decide +kernel
theorem dec_S {a b : List Nat} : decide (S a = S b) = decide (a = b) := by
  by_cases h : a = b
  · subst h; simp
  · rw [decide_eq_false h, decide_eq_false (fun e => h (S_inj e))]
theorem lit_00 : ("00" : Str) = S [48, 48] := by decide +kernel
theorem lit_slash : ("/" : Str) = S [47] := by decide +kernel
theorem or_splitH {t u : TT} {σ : L2.St} {H : Hp} {R : Bool → Hp → Prop} (p : Prop) (P : Hp → Prop) (hT : ∀ H', P H' → p → R true H') (hF : ∀ H', P H' → ¬ p → R false H') (h : ∀ R' : Bool → Hp → Prop, (∀ H', P H' → p → R' true H') → (∀ H', P H' → ¬ p → R' false H') → tOr t u σ H R') : tOr t u σ H R := h R hT hF
theorem and_splitH {t u : TT} {σ : L2.St} {H : Hp} {R : Bool → Hp → Prop} (p : Prop) (P : Hp → Prop) (hT : ∀ H', P H' → p → R true H') (hF : ∀ H', P H' → ¬ p → R false H') (h : ∀ R' : Bool → Hp → Prop, (∀ H', P H' → p → R' true H') → (∀ H', P H' → ¬ p → R' false H') → tAnd t u σ H R') : tAnd t u σ H R := h R hT hF
theorem lit_minus : ("-" : Str) = S [45] := by decide +kernel
theorem starts_minus (l : List Nat) : Txt.startswith (S l) ("-" : Str) = decide (l.head? = some 45) := by
  have h := PySem.StrLaws.subAt_one (S l) 45 0
  rw [lit_minus]
  unfold Txt.startswith
  refine b_dec ?_
  rw [Bool.and_eq_true, decide_eq_true_eq, List.head?_eq_getElem?]
  exact h
theorem index_fig {c : Nat} (h : dig c = true) : Builtin.Str.occurrences ("0123456789" : Str) (S [c]) 0 ("0123456789" : Str).length 1 = (c - 48) :: [] := by
  have := dig_iff.mp h
  have hc : c = 48 ∨ c = 49 ∨ c = 50 ∨ c = 51 ∨ c = 52 ∨ c = 53 ∨ c = 54 ∨ c = 55 ∨ c = 56 ∨ c = 57 := by omega
  rcases hc with rfl | rfl | rfl | rfl | rfl | rfl | rfl | rfl | rfl | rfl <;> decide +kernel
theorem mt_sidx {X : Cx} : MtR X "str.index" rIndexS := mt_sindex
theorem k_sidx {H : Hp} {Q : VK} {a b : Str} {i : Nat} {r : List Nat} (h : Builtin.Str.occurrences a b 0 a.length 1 = i :: r) (q : Q (.int (i : Nat)) H) : rIndexS (.str a) [.str b] H Q := ⟨a, b, i, r, rfl, rfl, h, q⟩
theorem atI_any {P : V → Prop} {l : List V} {i : Int} (h0 : 0 ≤ i) (h1 : i < l.length) (hP : ∀ z ∈ l, P z) : ∃ z, P z ∧ atI l i = some z := by
  obtain ⟨k, rfl⟩ := Int.eq_ofNat_of_zero_le h0
  have hk : k < l.length := by omega
  exact ⟨l[k], hP _ (List.getElem_mem hk), at_of rfl (List.getElem?_eq_getElem hk)⟩
theorem atI_nats {l : List Nat} {i : Int} (h0 : 0 ≤ i) (h1 : i < l.length) : ∃ c, c ∈ l ∧ atI l i = some c := by
  obtain ⟨k, rfl⟩ := Int.eq_ofNat_of_zero_le h0
  have hk : k < l.length := by omega
  refine ⟨l[k], List.getElem_mem hk, ?_⟩
  unfold atI ixN
  rw [if_pos (by omega), if_pos (by omega), Int.toNat_natCast]
  exact List.getElem?_eq_getElem hk
def str30 : V → Bool
  | .str s => decide (s.length ≤ 30)
  | _ => false
theorem atI_str {l : List V} {i : Int} (h : l.all str30 = true) (h0 : 0 ≤ i) (h1 : i < l.length) : ∃ s, SL 30 s ∧ atI l i = some (.str s) := by
  obtain ⟨z, hz, e⟩ := atI_any (P := fun v => str30 v = true) h0 h1 (List.all_eq_true.mp h)
  cases z <;> first | (simp [str30] at hz; done) | skip
  rename_i s
  exact ⟨s, ⟨of_decide_eq_true hz⟩, e⟩
theorem SL.cut {n : Nat} {z : Str} {lo hi : Option Int} (h : SL n z) : SL n (cutS z lo hi) := ⟨Nat.le_trans (cutS_length z lo hi) h.h⟩
theorem SL.one {c : Nat} : SL 1 (S [c]) := ⟨by rw [S_len]; exact Nat.le_refl _⟩
theorem num_pos (i : Int) : 1 ≤ (Str.ofString (toString i)).length := by
  have key : ∀ n : Nat, 1 ≤ (Str.ofString (toString (n : Int))).length := fun n => by
    have e := TL.tl_num n
    have h := TL.numL_ne n
    have hl := TL.len_tl (Str.ofString (toString (n : Int)))
    rw [e] at hl
    cases h2 : TL.numL n with
    | nil => exact absurd h2 h
    | cons c r => rw [hl, h2]; simp
  cases i with
  | ofNat n => exact key n
  | negSucc n =>
    have e : toString (Int.negSucc n) = "-" ++ toString ((n + 1 : Nat) : Int) := rfl
    rw [e, PyProof.Rows.ofString_length, String.toList_append, List.length_append]
    have : ("-" : String).toList.length = 1 := rfl
    omega
theorem k_mulS {H : Hp} {Q : VK} {n : Int} (h0 : 1 ≤ n) (h1 : n ≤ 3) (q : ∀ s, SL 30 s → Q (.str s) H) : rMulS (.str "0") (.int n) H Q := by
  have hn : n = 1 ∨ n = 2 ∨ n = 3 := by omega
  rcases hn with rfl | rfl | rfl
  · exact ⟨"0", 1, rfl, rfl, ⟨by decide +kernel, fun _ _ => by decide +kernel, fun _ _ => by decide +kernel⟩, q _ ⟨by decide +kernel⟩⟩
  · exact ⟨"0", 2, rfl, rfl, ⟨by decide +kernel, fun _ _ => by decide +kernel, fun _ _ => by decide +kernel⟩, q _ ⟨by decide +kernel⟩⟩
  · exact ⟨"0", 3, rfl, rfl, ⟨by decide +kernel, fun _ _ => by decide +kernel, fun _ _ => by decide +kernel⟩, q _ ⟨by decide +kernel⟩⟩
theorem valF_lt {l : List Nat} (h : l.all dig = true) : valF l < 10 ^ l.length := by
  have key : ∀ (l : List Nat) (n : Nat), l.all dig = true → l.foldl (fun acc c => acc * 10 + (c - 48)) n < (n + 1) * 10 ^ l.length := by
    intro l
    induction l with
    | nil => intro n _; simp
    | cons c r ih =>
      intro n h
      rw [List.all_cons, Bool.and_eq_true] at h
      have h2 := dig_iff.mp h.1
      rw [List.foldl_cons, List.length_cons, Nat.pow_succ]
      have h3 := ih (n * 10 + (c - 48)) h.2
      have h4 : (n * 10 + (c - 48) + 1) * 10 ^ r.length ≤ ((n + 1) * 10) * 10 ^ r.length := Nat.mul_le_mul_right _ (by omega)
      have h5 : (n + 1) * (10 ^ r.length * 10) = ((n + 1) * 10) * 10 ^ r.length := by rw [Nat.mul_comm (10 ^ r.length) 10, Nat.mul_assoc]
      omega
  have := key l 0 h
  rw [Nat.zero_add, Nat.one_mul] at this
  exact this
theorem sm_valF {l : List Nat} (h : l.all dig = true) (hl : l.length ≤ 60) : Sm 200 (valF l : Int) := by
  have h1 := valF_lt h
  have h2 : (10 : Nat) ^ l.length ≤ 10 ^ 60 := Nat.pow_le_pow_right (by decide) hl
  exact sm41 (by omega) (by
    have e : (10 : Nat) ^ 60 = 1000000000000000000000000000000000000000000000000000000000000 := by decide +kernel
    omega)

end

section
open SX
/-! ### numbers' signs -/
def numS (i : Int) : List Nat := if i < 0 then 45 :: TL.numL i.natAbs else TL.numL i.natAbs
theorem num_numS (i : Int) : Str.ofString (toString i) = S (numS i) := by
  cases i with
  | ofNat n =>
    show Str.ofString (toString ((n : Nat) : Int)) = _
    rw [SX.num_S]; unfold numS; rw [if_neg (by show ¬ ((n : Nat) : Int) < 0; omega)]; rfl
  | negSucc n =>
    have e : toString (Int.negSucc n) = "-" ++ toString ((n + 1 : Nat) : Int) := rfl
    unfold numS
    rw [if_pos (Int.negSucc_lt_zero n), e]
    refine TL.ext_tl ?_
    rw [TL.tl_ofString, String.toList_append, List.map_append]
    have h := TL.tl_num (n + 1)
    rw [TL.tl_ofString] at h
    rw [h]; rfl
theorem numS_nn {i : Int} (h : 0 ≤ i) : numS i = TL.numL i.toNat := by
  unfold numS
  rw [if_neg (by omega), show i.natAbs = i.toNat by omega]
theorem valF_numL (n : Nat) : valF (TL.numL n) = n := TL.numL_val n
theorem numL_dig (n : Nat) : (TL.numL n).all dig = true := List.all_eq_true.mpr fun c hc => dig_iff.mpr (TL.numL_digits n c hc)
theorem numL_h (n : Nat) : 1 ≤ n → (TL.numL n).head? ≠ some 48 := by
  induction n using Nat.strongRecOn with
  | _ n ih =>
    intro h
    by_cases h1 : n < 10
    · rw [TL.numL_lt h1]
      show some (48 + n) ≠ some 48
      intro e
      have := Option.some.inj e
      omega
    · rw [TL.numL_step (by omega)]
      have := ih (n / 10) (by omega) (by omega)
      cases hh : TL.numL (n / 10) with
      | nil => exact absurd hh (TL.numL_ne _)
      | cons c r => rw [hh] at this; simpa using this
theorem numL_zero : TL.numL 0 = [48] := TL.numL_lt (by decide)
theorem numL_back : ∀ (k : Nat) (f : List Nat), f.length = k → f ≠ [] → f.all dig = true → (f.head? ≠ some 48 ∨ f = [48]) → TL.numL (valF f) = f := by
  intro k
  induction k with
  | zero => intro f hl hne; exact absurd (List.length_eq_zero_iff.mp hl) hne
  | succ k ih =>
    intro f hl hne hd hh
    rcases List.eq_nil_or_concat f with e | ⟨g, c, e⟩
    · exact absurd e hne
    · have e : f = g ++ [c] := by simpa using e
      subst e
      rw [List.all_append, Bool.and_eq_true] at hd
      have hc := dig_iff.mp (show dig c = true by simpa using hd.2)
      rw [valF_snoc]
      cases g with
      | nil =>
        show TL.numL (0 * 10 + (c - 48)) = [c]
        rw [TL.numL_lt (by omega)]
        congr 1; omega
      | cons x r =>
        have hx : x ≠ 48 := by
          rcases hh with h | h
          · simpa using h
          · have := congrArg List.length h
            simp at this
        have ih := ih (x :: r) (by simp at hl ⊢; omega) (by simp) hd.1 (.inl (by simpa using hx))
        have hv : valF (x :: r) ≠ 0 := fun z => by
          rw [z, numL_zero] at ih
          exact hx (List.cons.inj ih).1.symm
        rw [TL.numL_step (by omega), show (valF (x :: r) * 10 + (c - 48)) / 10 = valF (x :: r) by omega, show (valF (x :: r) * 10 + (c - 48)) % 10 = c - 48 by omega, ih]
        congr 2; omega
theorem figs_of {l : List Nat} (h1 : 1 ≤ l.length) (h2 : l.length ≤ 60) (h3 : l.all dig = true) : figs l = true := by
  unfold figs; rw [decide_eq_true h1, decide_eq_true h2, h3]; rfl
theorem figs_dig {l : List Nat} (h : figs l = true) : 1 ≤ l.length ∧ l.length ≤ 60 ∧ l.all dig = true := by
  unfold figs at h
  rw [Bool.and_eq_true, Bool.and_eq_true, decide_eq_true_eq, decide_eq_true_eq] at h
  exact ⟨h.1.1, h.1.2, h.2⟩
theorem numL_pos (n : Nat) : 1 ≤ (TL.numL n).length := List.length_pos_iff.mpr (TL.numL_ne n)
theorem numL_head45 (n : Nat) : (TL.numL n).head? ≠ some 45 := by
  have h := TL.numL_digits n
  cases hh : TL.numL n with
  | nil => simp
  | cons c r =>
    have := h c (by rw [hh]; exact List.mem_cons_self)
    intro e
    have : c = 45 := by simpa using e
    omega
theorem figs_numL {n : Nat} (h : n < 10 ^ 60) : figs (TL.numL n) = true := figs_of (numL_pos n) (TL.numL_len (by decide) h) (numL_dig n)
theorem goodN_iff {l : List Nat} : goodN l = true ↔ figs (unS l) = true ∧ ((unS l).head? ≠ some 48 ∨ l = [48]) := by
  unfold goodN
  rw [Bool.and_eq_true, Bool.not_eq_true', Bool.and_eq_false_iff, decide_eq_false_iff_not, Bool.not_eq_false', decide_eq_true_eq]
theorem goodN_numS {i : Int} (h : i.natAbs < 10 ^ 60) : goodN (numS i) = true ∧ numN (numS i) = i := by
  unfold numS
  by_cases hi : i < 0
  · rw [if_pos hi]
    have eu : unS (45 :: TL.numL i.natAbs) = TL.numL i.natAbs := rfl
    refine ⟨goodN_iff.mpr ⟨by rw [eu]; exact figs_numL h, .inl (by rw [eu]; exact numL_h _ (by omega))⟩, ?_⟩
    unfold numN
    rw [eu, valF_numL, if_pos (show (45 :: TL.numL i.natAbs).head? = some 45 from rfl)]; omega
  · rw [if_neg hi]
    have eu : unS (TL.numL i.natAbs) = TL.numL i.natAbs := by unfold unS; rw [if_neg (numL_head45 _)]
    refine ⟨goodN_iff.mpr ⟨by rw [eu]; exact figs_numL h, ?_⟩, ?_⟩
    · rw [eu]
      by_cases h0 : i.natAbs = 0
      · rw [h0]; exact .inr numL_zero
      · exact .inl (numL_h _ (by omega))
    · unfold numN
      rw [eu, valF_numL, if_neg (numL_head45 _)]; omega
theorem goodN_inv {l : List Nat} (h : goodN l = true) : l = numS (numN l) := by
  obtain ⟨h1, h2⟩ := goodN_iff.mp h
  obtain ⟨f1, f2, f3⟩ := figs_dig h1
  have hne : unS l ≠ [] := fun e => by rw [e] at f1; simp at f1
  rcases unS_cases l with ⟨e1, e2⟩ | ⟨e1, e2⟩
  · have hh : (unS l).head? ≠ some 48 := by
      rcases h2 with h | h
      · exact h
      · rw [h] at e1; simp at e1
    have hb := numL_back _ (unS l) rfl hne f3 (.inl hh)
    have hv : valF (unS l) ≠ 0 := fun z => by
      rw [z, numL_zero] at hb
      rw [← hb] at hh; exact hh rfl
    unfold numS numN
    rw [if_pos e1, if_pos (by omega), show (-((valF (unS l) : Nat) : Int)).natAbs = valF (unS l) by omega, hb]
    exact e2
  · rw [e2] at f3 hne h2
    have hb := numL_back _ l rfl hne f3 h2
    unfold numS numN
    rw [if_neg e1, e2, if_neg (by omega), Int.natAbs_natCast, hb]
theorem goodN_bd {l : List Nat} (h : goodN l = true) : (numN l).natAbs < 10 ^ 60 := by
  obtain ⟨h1, h2⟩ := goodN_iff.mp h
  obtain ⟨f1, f2, f3⟩ := figs_dig h1
  have hv := valF_lt f3
  have h3 : (10 : Nat) ^ (unS l).length ≤ 10 ^ 60 := Nat.pow_le_pow_right (by decide) f2
  unfold numN
  split <;> omega
/-! ### a month's, a day's number -/
def two (n : Nat) : List Nat := if n < 10 then 48 :: TL.numL n else TL.numL n
theorem numL_two {n : Nat} (h : 10 ≤ n) : 2 ≤ (TL.numL n).length := by
  rw [TL.numL_step h, List.length_append]
  have := numL_pos (n / 10)
  simp; omega
theorem zfill_two (n : Nat) : Txt.zfill (S (TL.numL n)) 2 = S (two n) := by
  unfold two
  by_cases h : n < 10
  · rw [if_pos h, TL.numL_lt h]
    have hn : n = 0 ∨ n = 1 ∨ n = 2 ∨ n = 3 ∨ n = 4 ∨ n = 5 ∨ n = 6 ∨ n = 7 ∨ n = 8 ∨ n = 9 := by omega
    rcases hn with rfl | rfl | rfl | rfl | rfl | rfl | rfl | rfl | rfl | rfl <;> decide +kernel
  · rw [if_neg h]
    unfold Txt.zfill
    rw [if_pos (by rw [S_len]; have := numL_two (show 10 ≤ n by omega); omega)]
def goodP (l : List Nat) : Bool := figs l && decide (2 ≤ l.length) && !(decide (l.head? = some 48) && (decide (2 < l.length) || decide (l = [48, 48])))
theorem goodP_iff {l : List Nat} : goodP l = true ↔ figs l = true ∧ 2 ≤ l.length ∧ (l.head? ≠ some 48 ∨ (l.length ≤ 2 ∧ l ≠ [48, 48])) := by
  unfold goodP
  rw [Bool.and_eq_true, Bool.and_eq_true, Bool.not_eq_true', Bool.and_eq_false_iff, decide_eq_false_iff_not, Bool.or_eq_false_iff, decide_eq_false_iff_not, decide_eq_false_iff_not, decide_eq_true_eq]
  constructor
  · rintro ⟨⟨a, b⟩, c | ⟨c, d⟩⟩
    · exact ⟨a, b, .inl c⟩
    · exact ⟨a, b, .inr ⟨by omega, d⟩⟩
  · rintro ⟨a, b, c | ⟨c, d⟩⟩
    · exact ⟨⟨a, b⟩, .inl c⟩
    · exact ⟨⟨a, b⟩, .inr ⟨by omega, d⟩⟩
theorem goodP_two {n : Nat} (h0 : 1 ≤ n) (h : n < 10 ^ 60) : goodP (two n) = true ∧ valF (two n) = n := by
  unfold two
  by_cases h1 : n < 10
  · rw [if_pos h1, TL.numL_lt h1]
    refine ⟨goodP_iff.mpr ⟨figs_of (by simp) (by simp) (by simp [dig]; omega), by simp, .inr ⟨by simp, fun e => ?_⟩⟩, ?_⟩
    · have := (List.cons.inj (List.cons.inj e).2).1; omega
    · show ((0 * 10 + (48 - 48)) * 10 + (48 + n - 48)) = n; omega
  · rw [if_neg h1]
    exact ⟨goodP_iff.mpr ⟨figs_numL h, numL_two (by omega), .inl (numL_h n (by omega))⟩, valF_numL n⟩
theorem goodP_inv {l : List Nat} (h : goodP l = true) : 1 ≤ valF l ∧ l = two (valF l) ∧ valF l < 10 ^ 60 := by
  obtain ⟨h1, h2, h3⟩ := goodP_iff.mp h
  obtain ⟨f1, f2, f3⟩ := figs_dig h1
  have hv := valF_lt f3
  have h4 : (10 : Nat) ^ l.length ≤ 10 ^ 60 := Nat.pow_le_pow_right (by decide) f2
  have hne : l ≠ [] := fun e => by rw [e] at f1; simp at f1
  by_cases hh : l.head? = some 48
  · obtain ⟨h5, h6⟩ := h3.resolve_left (fun z => z hh)
    match l, h2, h5, hh, f3, h6 with
    | [a, b], _, _, hh, f3, h6 =>
      have ha : a = 48 := by simpa using hh
      subst ha
      have hb := dig_iff.mp (show dig b = true by simp at f3; exact f3.2)
      have hb2 : b ≠ 48 := fun z => h6 (by rw [z])
      have ev : valF [48, b] = b - 48 := by show (0 * 10 + (48 - 48)) * 10 + (b - 48) = b - 48; omega
      refine ⟨by omega, ?_, by omega⟩
      unfold two
      rw [ev, if_pos (by omega), TL.numL_lt (by omega)]
      congr 2; omega
  · have hb := numL_back _ l rfl hne f3 (.inl hh)
    have hv1 : 10 ≤ valF l := by
      by_cases z : valF l < 10
      · rw [TL.numL_lt z] at hb
        rw [← hb] at h2; simp at h2
      · omega
    refine ⟨by omega, ?_, by omega⟩
    unfold two
    rw [if_neg (by omega), hb]
theorem two_dig (n : Nat) : (two n).all dig = true := by
  unfold two
  split
  · rw [List.all_cons, numL_dig]; rfl
  · exact numL_dig n
theorem goodP_not0 {l : List Nat} (h : figs l = true) (h2 : 1 ≤ valF l) (h3 : l = two (valF l)) : goodP l = true := by
  obtain ⟨f1, f2, f3⟩ := figs_dig h
  have hv := valF_lt f3
  have h4 : (10 : Nat) ^ l.length ≤ 10 ^ 60 := Nat.pow_le_pow_right (by decide) f2
  rw [h3]
  exact (goodP_two h2 (by omega)).1
/-! ### a text cut at a sign -/
def splitC (s : Nat) (l : List Nat) : List (List Nat) := TL.spl [s] 0 [] l
theorem pre_one (s c : Nat) (r : List Nat) : TL.pre [s] (c :: r) = decide (c = s) := by
  show ((c :: r).take 1 == [s]) = _
  by_cases h : c = s
  · subst h; simp
  · simp [h]
theorem spl_one (s : Nat) : ∀ (l acc : List Nat), s ∉ acc → (∀ p ∈ TL.spl [s] 0 acc l, s ∉ p) ∧ TL.joinL [s] (TL.spl [s] 0 acc l) = acc ++ l ∧ (TL.spl [s] 0 acc l).length = 1 + l.count s ∧ TL.spl [s] 0 acc l ≠ []
  | [], acc, h => by
    rw [TL.spl_nil]
    exact ⟨fun p hp => by rw [List.mem_singleton.mp hp]; exact h, by show acc = _; rw [List.append_nil], rfl, by simp⟩
  | c :: r, acc, h => by
    by_cases e : c = s
    · subst e
      rw [TL.spl_hit (by rw [pre_one]; exact decide_eq_true rfl)]
      obtain ⟨i1, i2, i3, i4⟩ := spl_one c r [] (by simp)
      have e1 : ([c] : List Nat).length - 1 = 0 := rfl
      rw [e1]
      refine ⟨fun p hp => ?_, ?_, ?_, by simp⟩
      · rcases List.mem_cons.mp hp with rfl | hp
        · exact h
        · exact i1 p hp
      · cases hsp : TL.spl [c] 0 [] r with
        | nil => exact absurd hsp i4
        | cons q qs =>
          rw [hsp] at i2
          show acc ++ ([c] ++ TL.joinL [c] (q :: qs)) = _
          rw [i2]; rfl
      · rw [List.length_cons, i3, List.count_cons_self]; omega
    · rw [TL.spl_miss (by rw [pre_one]; exact decide_eq_false e)]
      obtain ⟨i1, i2, i3, i4⟩ := spl_one s r (acc ++ [c]) (fun hm => by
        rcases List.mem_append.mp hm with h' | h'
        · exact h h'
        · exact e (List.mem_singleton.mp h').symm)
      refine ⟨i1, by rw [i2, List.append_assoc]; rfl, ?_, i4⟩
      rw [i3, List.count_cons_of_ne (fun z => e z)]
theorem splitC_free (s : Nat) (l : List Nat) : ∀ p ∈ splitC s l, s ∉ p := (spl_one s l [] (by simp)).1
theorem splitC_join (s : Nat) (l : List Nat) : TL.joinL [s] (splitC s l) = l := by have := (spl_one s l [] (by simp)).2.1; rwa [List.nil_append] at this
theorem splitC_len (s : Nat) (l : List Nat) : (splitC s l).length = 1 + l.count s := (spl_one s l [] (by simp)).2.2.1
theorem splitC_ne (s : Nat) (l : List Nat) : splitC s l ≠ [] := (spl_one s l [] (by simp)).2.2.2
theorem splitC_of {s : Nat} {ps : List (List Nat)} (h : ps ≠ []) (hf : ∀ p ∈ ps, s ∉ p) : splitC s (TL.joinL [s] ps) = ps := TL.spl_join h hf
theorem split_S {s : Nat} (hs : s < 256) (l : List Nat) : Txt.split (S l) (S [s]) = (splitC s l).map S := by
  have h := TL.split_spl (S l) (S [s]) (by simp) (TL.kind_ok (by simp [S, hs]))
  refine TL.map_tl_inj ?_
  rw [h, List.map_map]
  show TL.spl [s] 0 [] l = (splitC s l).map (TL.tl ∘ S)
  rw [show (TL.tl ∘ S) = id from funext fun a => rfl, List.map_id]; rfl
theorem joinL_mem (s : Nat) : ∀ (ps : List (List Nat)) (p : List Nat), p ∈ ps → p.length ≤ (TL.joinL [s] ps).length
  | [], _, h => by simp at h
  | [q], p, h => by rw [List.mem_singleton.mp h]; exact Nat.le_refl _
  | q :: q2 :: r, p, h => by
    have e : TL.joinL [s] (q :: q2 :: r) = q ++ ([s] ++ TL.joinL [s] (q2 :: r)) := rfl
    rw [e, List.length_append, List.length_append]
    rcases List.mem_cons.mp h with rfl | h
    · omega
    · have := joinL_mem s (q2 :: r) p h; omega
theorem splitC_mem {s : Nat} {l p : List Nat} (h : p ∈ splitC s l) : p.length ≤ l.length := by
  have := joinL_mem s _ p h
  rwa [splitC_join] at this
theorem cnt_count (c : Nat) : ∀ l : List Nat, PyProof.Rows.cnt c l = ((l.count c : Nat) : Int)
  | [] => rfl
  | x :: r => by
    rw [PyProof.Rows.cnt_cons, cnt_count c r, List.count_cons]
    by_cases h : x = c
    · subst h; simp; omega
    · simp [h]
theorem count_S (c : Nat) (l : List Nat) : Txt.count (S l) (S [c]) = ((l.count c : Nat) : Int) := (PyProof.Rows.count_cnt (S l) c).trans (cnt_count c l)
/-! ### a date as a text -/
def dtL (y : Int) (m d : Nat) : List Nat := numS y ++ (47 :: (two m ++ (47 :: two d)))
theorem dig_free {l : List Nat} {s : Nat} (h : l.all dig = true) (hs : dig s = false) : s ∉ l := fun hm => by
  rw [List.all_eq_true.mp h s hm] at hs; cases hs
theorem numS_free (y : Int) {s : Nat} (hs : dig s = false) (h45 : s ≠ 45) : s ∉ numS y := by
  unfold numS
  split
  · intro h
    rcases List.mem_cons.mp h with e | h
    · exact h45 e
    · exact dig_free (numL_dig _) hs h
  · exact dig_free (numL_dig _) hs
theorem dtL_split (y : Int) (m d : Nat) : splitC 47 (dtL y m d) = [numS y, two m, two d] := by
  have e : dtL y m d = TL.joinL [47] [numS y, two m, two d] := rfl
  rw [e]
  refine splitC_of (by simp) fun p hp => ?_
  simp only [List.mem_cons, List.not_mem_nil, or_false] at hp
  rcases hp with rfl | rfl | rfl
  · exact numS_free y (by decide) (by decide)
  · exact dig_free (two_dig m) (by decide)
  · exact dig_free (two_dig d) (by decide)
def goodD (l : List Nat) : Bool := match splitC 47 l with
  | [a, b, c] => goodN a && goodP b && goodP c
  | _ => false
theorem goodD_of {l a b c : List Nat} (h : splitC 47 l = [a, b, c]) : goodD l = (goodN a && goodP b && goodP c) := by unfold goodD; rw [h]
theorem goodD_cases {l : List Nat} (h : goodD l = true) : ∃ a b c, splitC 47 l = [a, b, c] ∧ goodN a = true ∧ goodP b = true ∧ goodP c = true := by
  unfold goodD at h
  split at h
  · rename_i a b c e
    rw [Bool.and_eq_true, Bool.and_eq_true] at h
    exact ⟨a, b, c, e, h.1.1, h.1.2, h.2⟩
  · cases h
/-- what a text that writes a date tells -/
def dateN (l : List Nat) : Int × Int × Int := match splitC 47 l with
  | [a, b, c] => (numN a, (valF b : Int), (valF c : Int))
  | _ => (0, 0, 0)
theorem dateN_of {l a b c : List Nat} (h : splitC 47 l = [a, b, c]) : dateN l = (numN a, (valF b : Int), (valF c : Int)) := by unfold dateN; rw [h]
theorem goodD_dtL {y : Int} {m d : Nat} (hy : y.natAbs < 10 ^ 60) (m1 : 1 ≤ m) (hm : m < 10 ^ 60) (d1 : 1 ≤ d) (hd : d < 10 ^ 60) : goodD (dtL y m d) = true ∧ dateN (dtL y m d) = (y, (m : Int), (d : Int)) := by
  obtain ⟨a1, a2⟩ := goodN_numS hy
  obtain ⟨b1, b2⟩ := goodP_two m1 hm
  obtain ⟨c1, c2⟩ := goodP_two d1 hd
  have e := dtL_split y m d
  exact ⟨by rw [goodD_of e, a1, b1, c1]; rfl, by rw [dateN_of e, a2, b2, c2]⟩
theorem goodD_inv {l : List Nat} (h : goodD l = true) : l = dtL (dateN l).1 (dateN l).2.1.toNat (dateN l).2.2.toNat ∧ 1 ≤ (dateN l).2.1 ∧ 1 ≤ (dateN l).2.2 := by
  obtain ⟨a, b, c, e, ha, hb, hc⟩ := goodD_cases h
  obtain ⟨b1, b2, b3⟩ := goodP_inv hb
  obtain ⟨c1, c2, c3⟩ := goodP_inv hc
  rw [dateN_of e]
  refine ⟨?_, by show (1 : Int) ≤ (valF b : Int); omega, by show (1 : Int) ≤ (valF c : Int); omega⟩
  have hj := splitC_join 47 l
  rw [e] at hj
  rw [← hj]
  show a ++ (47 :: (b ++ (47 :: c))) = numS (numN a) ++ (47 :: (two ((valF b : Nat) : Int).toNat ++ (47 :: two ((valF c : Nat) : Int).toNat)))
  rw [Int.toNat_natCast, Int.toNat_natCast, ← goodN_inv ha, ← b2, ← c2]
theorem numL_lenle {n : Nat} (h : n < 10 ^ 60) : (TL.numL n).length ≤ 60 := TL.numL_len (by decide) h
theorem numS_len {y : Int} (h : y.natAbs < 10 ^ 60) : (numS y).length ≤ 61 := by
  have := numL_lenle h
  unfold numS
  split
  · rw [List.length_cons]; omega
  · omega
theorem two_len {n : Nat} (h : n < 10 ^ 60) : (two n).length ≤ 61 := by
  have := numL_lenle h
  unfold two
  split
  · rw [List.length_cons]; omega
  · omega
theorem dtL_len {y : Int} {m d : Nat} (hy : y.natAbs < 10 ^ 60) (hm : m < 10 ^ 60) (hd : d < 10 ^ 60) : (dtL y m d).length ≤ 185 := by
  have a := numS_len hy
  have b := two_len hm
  have c := two_len hd
  unfold dtL
  simp only [List.length_append, List.length_cons]
  omega
/-! ### steps on texts told sign by sign -/
section
variable {K : PySem.W.Frag} {σ : L2.St} {H H1 : Hp} {Q : VK}
theorem k_strS {i : Int} (h : Sm 400 i) (q : Q (.str (S (numS i))) H) : rStrI [.int i] H Q := ⟨i, rfl, num_log h, by rw [num_numS]; exact q⟩
theorem k_addS {a b : List Nat} (h : a.length + b.length ≤ 10000000) (q : Q (.str (S (a ++ b))) H) : rAddA (.str (S a)) (.str (S b)) H Q :=
  .inr (.inl ⟨S a, S b, rfl, rfl, by rw [S_len, S_len]; exact line7 h, by rw [S_cat]; exact q⟩)
def rZfill : V → List V → Hp → VK → Prop := fun x xs H Q => ∃ (a : Str) (i : Int), x = .str a ∧ xs = [.int i] ∧ PadOk i = true ∧ Q (.str (Txt.zfill a i)) H
theorem mt_zfillV {X : Cx} : MtR X "str.zfill" rZfill := mt_zfill
theorem k_zfill2 {n : Nat} (q : Q (.str (S (two n))) H) : rZfill (.str (S (TL.numL n))) [.int 2] H Q := ⟨_, 2, rfl, rfl, by decide +kernel, by rw [zfill_two]; exact q⟩
def rSplitS : V → List V → Hp → VK → Prop := fun x xs H Q => ∃ a b, x = .str a ∧ xs = [.str b] ∧ (b.length == 0) = false ∧ a.length + 2 ≤ sizeLine ∧ rNewStrs (Txt.split a b) H Q
theorem mt_splitV {X : Cx} : MtR X "str.split" rSplitS := mt_split
theorem k_split {l : List Nat} {z : Str} {s : Nat} (hz : z = S [s]) (hs : s < 256) (hl : l.length ≤ 1000000) (q : ∀ p H', H p = none → Same H H' → H' p = some (.lst (((splitC s l).map S).map V.str)) → Q (.ref p) H') : rSplitS (.str (S l)) [.str z] H Q := by
  subst hz
  refine ⟨S l, S [s], rfl, rfl, by simp [S, Str.length], by rw [S_len]; exact Nat.le_trans (Nat.add_le_add_right hl 2) (by rw [sizeLine_eq]; decide), fun p hp => ?_⟩
  rw [split_S hs]
  exact q p _ hp (same_new hp) upd_same
def rCountS : V → List V → Hp → VK → Prop := fun x xs H Q => ∃ a b, x = .str a ∧ xs = [.str b] ∧ Q (.int (Txt.count a b)) H
theorem mt_countV {X : Cx} : MtR X "str.count" rCountS := mt_count
theorem k_count {l : List Nat} {z : Str} {s : Nat} (hz : z = S [s]) (q : Q (.int ((l.count s : Nat) : Int)) H) : rCountS (.str (S l)) [.str z] H Q := by
  subst hz
  exact ⟨S l, S [s], rfl, rfl, by rw [count_S]; exact q⟩
def rJoinS (K : PySem.W.Frag) : V → List V → Hp → VK → Prop := fun x xs H Q => ∃ a p, ∃ ys : List Str, x = .str a ∧ xs = [.ref p] ∧ (SqL K H p (ys.map V.str) ∨ SqT K H p (ys.map V.str)) ∧ (ys.map (·.length)).sum + ys.length * a.length ≤ 16777216 ∧ Q (.str (Txt.join a ys)) H
theorem kb_joinV {X : Cx} (K : PySem.W.Frag) (hK : X.K = K := by rfl) : MtR X "str.join" (rJoinS K) := hK ▸ mt_join
theorem k_join {a : Str} {p : Addr} {ys : List Str} (h : SqL K H p (ys.map V.str)) (hl : (ys.map (·.length)).sum + ys.length * a.length ≤ 16777216) (q : Q (.str (Txt.join a ys)) H) : rJoinS K (.str a) [.ref p] H Q := ⟨a, p, ys, rfl, rfl, .inl h, hl, q⟩
theorem k_mulT {z : Str} {n : Int} {B : Nat} (ok : MulOk z n) (hs : SL B (Txt.mul z n)) (q : ∀ s, SL B s → Q (.str s) H) : rMulS (.str z) (.int n) H Q := ⟨z, n, rfl, rfl, ok, q _ hs⟩
end

end

/-! ### a caught exception, handed on to a def -/
/-! a def called in the suite that caught p: p's object is pinned while it runs -/
structure FnP (P : Program) (w : World) (K : PySem.W.Frag) (mg : Str → Option Value) (base : Heap) (CX : CXT) (k : Nat) (f : Addr) (fd : FuncData) (ps : List Str) (sp : Addr × Obj → Sp) : Prop where
  len : ∀ p vs H Q E, sp p vs H Q E → vs.length = ps.length
  run : ∀ (A : Around) (outer : List Env) (s : Shared) (H : Hp) (args : Args) (us : List Value) (vs : List V) (Q : VK) (E : XK) (p : Addr × Obj), L2H.RoomH k A → L2H.PinOk outer H s p → Env0 P w K mg base A outer s H → BindsTo s fd args (ps.zip us) → Vals vs us → sp p vs H Q E →
    codeAny (model P w) A (.call (.ref f) args) (CR CX outer P w H s Q E) s
theorem fn_ofP {CX : CXT} {P : Program} {w : World} {K : PySem.W.Frag} {mg : Str → Option Value} {base : Heap} {k : Nat} {f : Addr} {name qual : Str} {params : Arguments} {body : List Stmt} {scope : Scope} {dV kV doc pm cdv ct oc : Value} {an od : Option Addr}
    {osl : Array (Option Value)} {N ps : List Str} {sp : Addr × Obj → Sp} (lk : K.lookup f = some ⟨oc, od, .func (PySem.W.fnOf name qual params body scope dV kV doc pm an cdv ct), osl⟩) (hcd : PySem.W.codeIn K cdv qual = true) (S : FnScope N ps scope)
    (len : ∀ p vs H Q E, sp p vs H Q E → vs.length = ps.length)
    (hbody : ∀ (A : Around) (outer : List Env) (s : Shared) (H : Hp) (vs : List V) (Q : VK) (E : XK) (p : Addr × Obj), L2H.RoomH k (A.deeper (envOfC qual scope s.heap.objs.size f cdv)) → sp p vs H Q E →
      ∃ t, PSs (L2H.cxH CX P w K mg base N qual scope f cdv A outer s H E p) body t ∧ t { nx := fun _ H' => Q .non H', rt := Q } (L2.start N vs) H) :
    FnP P w K mg base CX (k + 1) f (PySem.W.fnOf name qual params body scope dV kV doc pm an cdv ct) ps sp := by
  refine ⟨len, fun A outer s H args us vs Q E p hr hpin e0 hb r hsp => ?_⟩
  have hl := len _ _ _ _ _ hsp
  have KX : K.In s.heap := e0.mod.kin.keeps fun b o e => (e0.bs b o e).1
  have lim : s.heap.NoLimit := e0.mod.nolimit.keeps fun b o e => (e0.bs b o e).1
  have hkind : ∀ y ∈ ps.zip us, scope.names.lookup y.1 = some .local ∨ (scope.names.lookup y.1 = some .cell ∧ ((cellsFrom (s.heap.objs.size + 1) scope.names []).lookup y.1).isSome = true) := fun ⟨n, v⟩ hy => by
    rcases S.par n (List.of_mem_zip hy).1 with q | q
    · exact .inl q
    · exact .inr ⟨q, PySem.W.cellsFrom_some _ _ _ (.inl q)⟩
  refine codeAny_call_function hr.depth (KX _ _ lk) rfl S.co S.gen rfl (PySem.W.codeRec_of KX hcd) (hb _ _ _ _ ?_)
  refine wpAny_newFunctionEnv_cells S.kind hkind fun env he s1 x => ?_
  subst he
  refine ⟨lim.keeps x.toInCall.keep, codeAny_func ?_⟩
  obtain ⟨t, ht, hq⟩ := hbody A outer s H vs Q E p (hr.deeper _) hsp
  have I : Inv (L2H.cxH CX P w K mg base N qual scope f cdv A outer s H E p) [] (L2.start N vs) H s1 := L2H.inv_startH S hpin e0 hl r x
  refine wpAny_mono (ht.run [] s1 (L2.start N vs) H _ I hq) (fun fl s' hs => ?_) fun e s' hs => hs
  have fin : ∀ {σ' : L2.St} {H' : Hp} {v : V} {u : Value}, Inv (L2H.cxH CX P w K mg base N qual scope f cdv A outer s H E p) [] σ' H' s' → RelV v u → Q v H' → CE outer P w H s Q u s' :=
    fun {σ' H' v u} J rv q => ⟨v, H', J.os, J.bare, J.base, J.hok, rv, q⟩
  cases fl with
  | ret u =>
    obtain ⟨v, σ', H', J, rv, q⟩ := hs
    exact fin J rv q
  | next =>
    obtain ⟨σ', H', J, q⟩ := hs
    exact fin (v := V.non) (u := Value.none) J rfl q
  | brk =>
    obtain ⟨_, _, _, q⟩ := hs
    exact False.elim q
  | cont =>
    obtain ⟨_, _, _, q⟩ := hs
    exact False.elim q
theorem Fun.okP {P : Program} {w : World} {K : PySem.W.Frag} {mg : Str → Option Value} {base : Heap} {x qual : Str} {st : Stmt} {f : Addr} {fd : FuncData} {N ps : List Str} {k : Nat} {sp : Addr × Obj → Sp} (F : Fun K x qual st f fd) (S : FnScope N ps (defScope st)) (len : ∀ p vs H Q E, sp p vs H Q E → vs.length = ps.length)
    (hbody : ∀ (cdv : Value) (A : Around) (outer : List Env) (s : Shared) (H : Hp) (vs : List V) (Q : VK) (E : XK) (p : Addr × Obj), L2H.RoomH k (A.deeper (envOfC qual (defScope st) s.heap.objs.size f cdv)) → sp p vs H Q E →
      ∃ t, PSs (L2H.cxH CX0 P w K mg base N qual (defScope st) f cdv A outer s H E p) (defBody st) t ∧ t { nx := fun _ H' => Q .non H', rt := Q } (L2.start N vs) H) : FnP P w K mg base CX0 (k + 1) f fd ps sp := by
  obtain ⟨oc, od, kV, doc, pm, an, cdv, ct, osl, rfl, lk, hcd⟩ := F.ex
  exact fn_ofP lk hcd S len fun A outer s H vs Q E p hr hsp => hbody cdv A outer s H vs Q E p hr hsp
section
variable {X : Cx} {CX : CXT} {k : Nat} {f a : Addr} {fd : FuncData} {ps : List Str} {sp : Addr × Obj → Sp} {x : Str} {p pos : Pos} {e : Expr} {es : List Expr} {t : TA} {oe : Obj} {pn : List (Addr × Obj)}
/-- f(.., err, ..) in an except suite: the exception is pinned while the callee runs -/
def tCallV (a : Addr) (cls : Value) (d : Option Addr) (sp : Addr × Obj → Sp) (t : TA) : TE := fun σ H Q => t σ H fun vs H1 =>
  ∀ oe : Obj, Zc cls d oe → (∃ u, oe.data = .fields u) → sp (a, oe) vs H1 Q (fun _ _ _ => False)
theorem pe_callV {cls : Value} {d : Option Addr} (hz : Zc cls d oe) (hf : ∃ u, oe.data = .fields u) (F : FnP X.prog X.w X.K X.mg X.base CX k f fd ps sp) (hr : Room k X.A) (hg : Gl X x) (hm : X.mg x = some (.ref f)) (hk : PySem.W.keepIn X.K (.ref f) = true) (hb : Binds X.K fd ps [])
    (hx : ∀ (l : List Env) (H : Hp) (s : Shared) (e : Value) (s' : Shared), ¬ CX l H s (fun _ _ _ => False) e s')
    (ha : PA (X.suite a ((a, oe) :: pn)) (e :: es) t) (hdb : (x == ("__debug__" : Str)) = false := by decide) (he : starEach (e :: es) X.env = (false, eval e X.env) :: starEach es X.env := by rfl) (hpl : (backTo pos (starEach es X.env)).any (·.1) = false := by rfl) :
    PE (X.suite a ((a, oe) :: pn)) (.Call (.Name x p) (e :: es) [] pos) (tCallV a cls d sp t) := by
  refine ⟨fun pins s σ H Q I h => ?_⟩
  refine wpAny_Call_Name_kw (ld_glob I hg hm ?_ hdb)
  refine PySem.W.callWith_K (h₀ := X.base) I.ok.mod.kin hk (thn (ha.run pos pins s σ H _ I h) fun us s1 ⟨vs, H1, I1, r, q⟩ => ⟨I1.kIn, ?_⟩) he hpl
  have q := q oe hz hf
  have P1 := I1.pin (a, oe) (List.mem_append_left _ List.mem_cons_self)
  have hpin : L2H.PinOk X.stack H1 s1 (a, oe) := ⟨P1.1, P1.2.1, fun hm => (List.mem_cons.mp (I1.stkSub a hm)).elim P1.2.2.1 P1.2.2.2.1, P1.2.2.2.2⟩
  have hl : us.length = ps.length := by rw [← r.length]; exact F.len _ _ _ _ _ q
  have b := hb s1 us I1.kIn (by rw [List.append_nil]; exact hl)
  rw [List.append_nil] at b
  refine wpAny_call (codeAny_mono (F.run _ X.stack s1 H1 ⟨us, []⟩ us vs Q (fun _ _ _ => False) (a, oe) ⟨hr.dp, hr.un⟩ hpin I1.env0 b r q) fun r s' hq => ?_)
  cases r with
  | error e => exact absurd hq (hx _ _ _ _ _)
  | ok fl =>
    cases fl with
    | ret u => exact I1.after hq
    | next => exact False.elim hq
    | brk => exact False.elim hq
    | cont => exact False.elim hq
/-- where the dict of the exception stands -/
def DOk (H : Hp) (d : Option Addr) : Prop := d = none ∨ ∃ (dd : Addr) (fs : List (Str × V)), d = some dd ∧ H dd = some (.xd fs)
theorem inst_exc {X : Cx} {pins : List (Addr × Obj)} {σ : L2.St} {H : Hp} {s : Shared} {a D : Addr} {d : Option Addr} {oe : Obj} (I : Inv X pins σ H s) (hget : s.heap.get? a = some oe) (hz : Zc (.ref D) d oe) (hf : ∃ vs, oe.data = .fields vs) (hd : DOk H d) :
    ∃ od, PySem.W.InstAt s.heap a oe D od := by
  obtain ⟨vs, hv⟩ := hf
  have hno : PySem.W.notCls oe = true := by unfold PySem.W.notCls; rw [hv] <;> rfl
  rcases hd with rfl | ⟨dd, fs, rfl, ea⟩
  · exact ⟨none, hget, hz.1, hno, by rw [hz.2]; exact trivial⟩
  · have hx : ObjOk X.prog X.w H s.heap dd (.xd fs) := I.hok dd _ ea
    obtain ⟨mA, hns, _⟩ := hx
    obtain ⟨od, ho, _⟩ := lookIn_ns hns
    exact ⟨some od, hget, hz.1, hno, by rw [hz.2]; exact ho⟩
theorem isinst_exc {X : Cx} {pins : List (Addr × Obj)} {σ : L2.St} {H : Hp} {s : Shared} {a D : Addr} {d : Option Addr} {oe : Obj} {cv : Value} {b : Bool} {Q : VK} (I : Inv X pins σ H s) (hget : s.heap.get? a = some oe) (hz : Zc (.ref D) d oe) (hf : ∃ vs, oe.data = .fields vs) (hd : DOk H d) (C : ExcC X.K D)
    (e : PySem.W.kitOne X.K (.ref D) cv = some b) (q : Q (.bl b) H) : wpAny (model X.prog X.w) X.A (call (.builtin "isinstance") [.ref a, cv]) (EP X pins σ Q) X.xe s := by
  obtain ⟨od, J⟩ := inst_exc I hget hz hf hd
  refine PySem.W.kia_one (PySem.W.kitx_exc ?_ C.hg C.hk C.hs C.ha C.hn C.ht C.hm) I.kIn J e (fun z => nomatch z) fun tk => ⟨.bl b, H, I.kept (t' := tk) fun _ _ z => z, rfl, q⟩
  obtain ⟨cd, hc, _⟩ := PySem.W.any_some C.hd
  rw [hc]; rfl
/-- isinstance(e, c), e the caught exception p, in a def that was called in its suite -/
def rIsV (K : PySem.W.Frag) (p : Addr × Obj) : List V → Hp → VK → Prop := fun xs H Q => ∃ (D : Addr) (d : Option Addr) (c : V) (cv : Value) (b : Bool), xs = [.ref p.1, c] ∧ ExcC K D ∧ Zc (.ref D) d p.2 ∧ DOk H d ∧ (∃ vs, p.2.data = .fields vs) ∧ (∀ u, RelV c u → u = cv) ∧ PySem.W.kitOne K (.ref D) cv = some b ∧ Q (.bl b) H
theorem call_isV {X : Cx} {p : Addr × Obj} (hp : X.pn = [p]) : CallR X (.builtin "isinstance") (rIsV X.K p) := by
  intro pins s σ H xs us Q I r h
  obtain ⟨D, d, c, cv, b, rfl, C, hz, hd, hf, hcv, e, q⟩ := h
  cases r with
  | cons rx rr =>
    cases rr with
    | cons rt rr =>
      cases rr
      cases rx
      have ec := hcv _ rt
      subst ec
      exact isinst_exc I (I.pin p (List.mem_append_left _ (by rw [hp]; exact List.mem_cons_self))).1 hz hf hd C e q
/-- isinstance(e, c) in the suite that caught e -/
def rIsC (K : PySem.W.Frag) (a : Addr) (cls : Value) (d : Option Addr) : List V → Hp → VK → Prop := fun xs H Q => ∃ (D : Addr) (c : V) (cv : Value) (b : Bool), cls = .ref D ∧ xs = [.ref a, c] ∧ ExcC K D ∧ DOk H d ∧ (∀ u, RelV c u → u = cv) ∧ PySem.W.kitOne K (.ref D) cv = some b ∧ Q (.bl b) H
theorem call_isC {X : Cx} {a : Addr} {oe : Obj} {pn : List (Addr × Obj)} {cls : Value} {d : Option Addr} (hz : Zc cls d oe) (hf : ∃ vs, oe.data = .fields vs) : CallR (X.suite a ((a, oe) :: pn)) (.builtin "isinstance") (rIsC X.K a cls d) := by
  intro pins s σ H xs us Q I r h
  obtain ⟨D, c, cv, b, rfl, rfl, C, hd, hcv, e, q⟩ := h
  cases r with
  | cons rx rr =>
    cases rr with
    | cons rt rr =>
      cases rr
      cases rx
      have ec := hcv _ rt
      subst ec
      obtain ⟨hget, _⟩ := I.pin (a, oe) (List.mem_append.mpr (.inl List.mem_cons_self))
      exact isinst_exc I hget hz hf hd C e q
end
/-- an error of the class at D, asked of the class at C: an except clause, isinstance -/
theorem exm_of {K : PySem.W.Frag} {D C : Addr} {b : Bool} (h1 : PySem.W.subIn K (.ref C) (.type "BaseException") = some true) (h2 : PySem.W.isClsIn K C = true) (h3 : PySem.W.typeIn K (.ref C) = some (.type "type")) (h4 : PySem.W.subIn K (.ref D) (.ref C) = some b) :
    PySem.W.exmOne K (.ref D) (.ref C) = some b := by
  have e1 : (PySem.W.subIn K (.ref C) (.type "BaseException") == some true) = true := by rw [h1] <;> rfl
  have e2 : ((PySem.W.clsIn K C).isSome && PySem.W.typeIn K (.ref C) == some (.type "type")) = true := by
    have h2' : (PySem.W.clsIn K C).isSome = true := h2
    rw [h2', h3] <;> rfl
  show (if (PySem.W.subIn K (.ref C) (.type "BaseException") == some true) = true then (if ((PySem.W.clsIn K C).isSome && PySem.W.typeIn K (.ref C) == some (.type "type")) = true then PySem.W.subIn K (.ref D) (.ref C) else none) else none) = some b
  rw [if_pos e1, if_pos e2]
  exact h4
theorem kit_of {K : PySem.W.Frag} {D C : Addr} {b : Bool} (h2 : PySem.W.isClsIn K C = true) (h3 : PySem.W.typeIn K (.ref C) = some (.type "type")) (hs : PySem.W.subIn K (.ref C) (.ref C) = some true) (h4 : PySem.W.subIn K (.ref D) (.ref C) = some b) :
    PySem.W.kitOne K (.ref D) (.ref C) = some b := by
  unfold PySem.W.kitOne
  by_cases e : D = C
  · subst e
    rw [hs] at h4
    rw [if_pos (by simp)]
    exact h4
  · rw [if_neg (by simpa using e)]
    have e2 : ((PySem.W.clsIn K C).isSome && PySem.W.typeIn K (.ref C) == some (.type "type")) = true := by
      have h2' : (PySem.W.clsIn K C).isSome = true := h2
      rw [h2', h3] <;> rfl
    show (if ((PySem.W.clsIn K C).isSome && PySem.W.typeIn K (.ref C) == some (.type "type")) = true then PySem.W.subIn K (.ref D) (.ref C) else none) = some b
    rw [if_pos e2]
    exact h4
theorem kit_ve {K : PySem.W.Frag} {D : Addr} {b : Bool} (h : PySem.W.subIn K (.ref D) (.type "ValueError") = some b) : PySem.W.kitOne K (.ref D) (.type "ValueError") = some b := by
  unfold PySem.W.kitOne
  rw [if_neg (by simp)]
  show (if PySem.W.kitMeta "ValueError" = true then PySem.W.subIn K (.ref D) (.type "ValueError") else none) = some b
  rw [if_pos (by decide +kernel)]
  exact h

/-! ### several except clauses, each with a name -/
def wAsM (K : PySem.W.Frag) (Wout : WX) (D : Ends) : List (Value × Nat × (Addr → Value → Option Addr → TS)) → WX
  | [] => Wout
  | (c, i, ts) :: r => fun cls d σ H => ∃ b, PySem.W.exmOne K cls c = some b ∧ (b = true → ∀ a, H a = none → ts a cls d { nx := fun σ' H' => D.nx (σ'.set i none) H', rt := D.rt, bk := fun σ' H' => D.bk (σ'.set i none) H', ct := fun σ' H' => D.ct (σ'.set i none) H' } (σ.set i (some (.ref a))) H) ∧
      (b = false → wAsM K Wout D r cls d σ H)
inductive HasOk (X : Cx) : List ExceptHandler → List (Value × Nat × (Addr → Value → Option Addr → TS)) → Prop
  | nil : HasOk X [] []
  | cons {x n : Str} {c : Value} {i : Nat} {ts : Addr → Value → Option Addr → TS} {b₀ : Stmt} {suite : List Stmt} {np pos' : Pos} {hds : List ExceptHandler} {l : List (Value × Nat × (Addr → Value → Option Addr → TS))}
      (hN : X.N.Nodup) (hi : X.N[i]? = some n) (hln : X.env.kindOf n = some .local) (hc : Names X x c)
      (hsu : ∀ (a : Addr) (oe : Obj) (cls : Value) (d : Option Addr) (pn : List (Addr × Obj)), Zc cls d oe → (∃ vs, oe.data = .fields vs) → PSs (X.suite a ((a, oe) :: pn)) (b₀ :: suite) (ts a cls d)) (r : HasOk X hds l) :
      HasOk X (.ExceptHandler (some (.Name x np)) (some n) (b₀ :: suite) pos' :: hds) ((c, i, ts) :: l)
section
variable {X : Cx} {body : List Stmt} {h₀ : ExceptHandler} {hds : List ExceptHandler} {l : List (Value × Nat × (Addr → Value → Option Addr → TS))} {pos : Pos} {tb : WX → TS} {Wout : WX}
theorem ps_try_asN (hs : X.stack = X.env :: X.outer) (hf : X.env.frame = some X.env.locals) (tk : Takes X Wout)
    (hb : ∀ (W : WX) (pn : List (Addr × Obj)) (xe : Value → Shared → Prop), Takes (X.tr pn xe) W → PassesOwn (model X.prog X.w) X.A X.env xe → PSs (X.tr pn xe) body (tb W))
    (hh : HasOk X (h₀ :: hds) l) : PS X (.Try body (h₀ :: hds) [] [] pos) (fun D σ H => tb (wAsM X.K Wout D l) D σ H) := by
  refine ⟨fun pins s σ H D I h => ?_⟩
  have ok := I.ok
  have hfr : X.A.frames = some (X.env :: X.outer) := by rw [ok.frames, hs]
  refine wpAny_Try_except ?_
  refine wpAny_mono ((hb (wAsM X.K Wout D l) (X.pn ++ pins) (fun e s₁ => wpAny (model X.prog X.w) X.A (noteFrame e X.env) (fun _ s₂ => wpAny (model X.prog X.w) X.A (setFlight e none) (fun _ s₃ =>
    wpAny (model X.prog X.w) X.A (handleBy e X.env (h₀ :: hds)) (SP X pins D) X.xe s₃) X.xe s₂) X.xe s₁) (fun u s' xx => ?_) PassesOwn.looking).run [] s σ H D (I.toTry _) h) (fun f s1 hsp => ?_) (fun e s1 he => he)
  · -- the catch
    obtain ⟨a, B, sI, pins', σ', H', cls, d, rfl, J', nb, up, sky, na, os, ag, w⟩ := xx
    have J : Inv X pins σ' H' sI := J'.ofTry ok
    have sky' : Sky B (X.env :: X.outer) a (Zc cls d) X.env.locals s'.heap := by rw [← hs]; exact sky
    show wpAny (model X.prog X.w) X.A (noteFrame (.ref a) X.env) _ _ _
    refine Sky.land Zc.steady hfr hf sky' fun h3 fl3 up3 => ?_
    have J3 : Inv X pins σ' H' { s' with heap := h3 } := J.landed nb fl3.1 (up.trans up3) os ag
    obtain ⟨oe3, vs3, he3, hz3, hd3⟩ := fl3.there
    have notFr : ∀ {h : Heap} {o : Obj} {vs : Array Value}, h.FunFrames B (X.env :: X.outer) → h.get? a = some o → o.data = .fields vs → a ∉ frs (X.env :: X.outer) := fun {h o vs} ff e dd hm => by
      obtain ⟨_, o', e', hnf⟩ := ff.mem hm
      rw [e] at e'; cases e'
      exact hnf _ dd
    have nfr := notFr fl3.2.2.1 he3 hd3
    have nL : a ≠ X.env.locals := fun z => nfr (List.mem_filterMap.mpr ⟨X.env, List.mem_cons_self, by rw [hf, z]⟩)
    have nF : a ∉ X.fs := fun hm => by
      obtain ⟨e, he, q⟩ := List.mem_filterMap.mp hm
      exact nfr (List.mem_filterMap.mpr ⟨e, List.mem_cons_of_mem _ he, q⟩)
    have S3 := J3.suite he3 hd3 na nL nF
    have go : ∀ {hds' : List ExceptHandler} {l' : List (Value × Nat × (Addr → Value → Option Addr → TS))}, HasOk X hds' l' → wAsM X.K Wout D l' cls d σ' H' →
        wpAny (model X.prog X.w) X.A (handleBy (.ref a) X.env hds') (SP X pins D) X.xe { s' with heap := h3 } := by
      intro hds' l' hk
      induction hk with
      | nil =>
        intro w
        refine wpAny_handleBy_nil ?_
        obtain ⟨k1, k2, k3, oe, vs, T, oT, ts', he, hz, hd, h1, hr⟩ := id fl3
        unfold PySem.passOn
        refine wpAny_bind (wpAny_field he hd h1 ?_)
        rw [if_neg (show ¬ ((Value.ref T == Value.none) = true) from by simp)]
        have fin : wpAny (model X.prog X.w) X.A (setFlight (.ref a) X.env.frame) (fun _ s4 => wpAny (model X.prog X.w) X.A (throw (.ref a) : Sem Flow) (SP X pins D) X.xe s4) X.xe { s' with heap := h3 } := by
          rw [hf]
          refine HandSPX.setFlight_upZ fl3 fun h4 hh4 up4 => wpAny_throw (tk _ _ ?_)
          exact ⟨a, B, sI, pins, σ', H', cls, d, rfl, J, nb, (up.trans up3).trans up4, .inr (.inr (by rw [hs]; exact hh4)), na, os, ag, w⟩
        first
          | exact wpAny_bind (wpAny_pure (wpAny_bind fin))
          | exact wpAny_bind fin
      | @cons x n c i ts b₀ suite np pos' hds2 l2 hN hi hln hc hsu r ih =>
        intro w
        obtain ⟨b, hb1, hyes, hno⟩ := w
        have hloc : Loc X.env.scope n := .inl hln
        refine wpAny_handleBy_cons (codeAny_handlers_test ?_) (by intro q; cases q)
        have LT : PySem.W.Looks (model X.prog X.w) h3 (typeOf (.ref a)) cls := fun A Q E s k q => wpAny_typeOf_ref (k _ _ he3) (by rw [hz3.1]; exact q)
        have LM := PySem.W.exm_one (M := model X.prog X.w) (J3.kIn) LT hb1
        have test : ∀ {Q : Value → Shared → Prop} {E : Value → Shared → Prop}, Q c { s' with heap := h3 } → wpAny (model X.prog X.w) (X.A.mark (some (.ref a))) (eval (.Name x np) X.env) Q E { s' with heap := h3 } := fun {Q E} q => by
          obtain ⟨hg, hdbg, hm | ⟨hm, hv, hnn⟩⟩ := hc
          · exact ld_glob (X := X.suite a ((a, oe3) :: (X.pn ++ pins))) S3 hg hm q hdbg
          · exact ld_blt (X := X.suite a ((a, oe3) :: (X.pn ++ pins))) S3 hg hm hv q hnn hdbg
        refine test (LM.here ?_)
        cases b with
        | true =>
          refine codeAny_handlers_suite_as ?_
          refine HandSPX.lands_againZ fl3 fun h4 fl4 up4 => ?_
          have J4 : Inv X pins σ' H' { s' with heap := h4 } := J.landed nb fl4.1 ((up.trans up3).trans up4) os ag
          obtain ⟨oe4, vs4, he4, hz4, hd4⟩ := fl4.there
          have S4 := J4.suite he4 hd4 na nL nF
          refine store_ok (X := X.suite a ((a, oe4) :: (X.pn ++ pins))) (v := .ref a) S4 hN hi hloc rfl (fun s5 S5 => ?_) (.inr hln)
          refine wpAny_mono ((hsu a oe4 cls d (X.pn ++ pins) hz4 ⟨_, hd4⟩).run [] s5 _ H' _ S5 (hyes rfl a na)) (fun f s6 hsp => ?_) (fun _ _ z => False.elim z)
          have end_ : ∀ {σ6 : L2.St} {H6 : Hp} {Q : Shared → Prop}, Inv (X.suite a ((a, oe4) :: (X.pn ++ pins))) [] σ6 H6 s6 → (∀ s7, Inv X pins (σ6.set i none) H6 s7 → Q s7) →
              wpAny (model X.prog X.w) X.A (do bindName X.env n .none; unbindBehindTheSuite X.env n pos') (fun _ s7 => Q s7) X.xe s6 := fun {σ6 H6 Q} S6 hq => gone_ok (S6.unsuite ok) hN hi hln hq
          cases f with
          | next =>
            obtain ⟨σ6, H6, S6, q6⟩ := hsp
            exact end_ S6 fun s7 J7 => ⟨_, _, J7, q6⟩
          | brk =>
            obtain ⟨σ6, H6, S6, q6⟩ := hsp
            exact end_ S6 fun s7 J7 => ⟨_, _, J7, q6⟩
          | cont =>
            obtain ⟨σ6, H6, S6, q6⟩ := hsp
            exact end_ S6 fun s7 J7 => ⟨_, _, J7, q6⟩
          | ret u =>
            obtain ⟨v6, σ6, H6, S6, r6, q6⟩ := hsp
            exact end_ S6 fun s7 J7 => ⟨_, _, _, J7, r6, q6⟩
        | false =>
          show wpAny _ X.A (handleBy (.ref a) X.env hds2) _ _ _
          exact ih (hno rfl)
    exact go hh w
  · cases f with
    | next =>
      obtain ⟨σ', H', J', q⟩ := hsp
      exact wpAny_execs_nil ⟨σ', H', J'.ofTry ok, q⟩
    | brk =>
      obtain ⟨σ', H', J', q⟩ := hsp
      exact ⟨σ', H', J'.ofTry ok, q⟩
    | cont =>
      obtain ⟨σ', H', J', q⟩ := hsp
      exact ⟨σ', H', J'.ofTry ok, q⟩
    | ret u =>
      obtain ⟨v, σ', H', J', r, q⟩ := hsp
      exact ⟨v, σ', H', J'.ofTry ok, r, q⟩
end
/-! ### C0.__init__(self, ..), C0 an own class whose __init__ is ValueError's -/
section
variable {X : Cx} {e : Expr} {es : List Expr} {ta : TA} {n : Str} {C0 : Addr} {mc : Value} {p1 p2 pos : Pos}
theorem pe_xinit {pl : Sem Bool} (hg : Gl X n) (hm : X.mg n = some (.ref C0)) (r : ClX.CRead X.K C0 mc) (vV : PySem.W.findCls X.K (.ref C0) mc "__init__" = some (.val (.builtin "ValueError.__init__"))) (ha : PA X (e :: es) ta)
    (hc : eval (.Call (.Attribute (.Name n p1) "__init__" p2) (e :: es) [] pos) X.env = (do
      let ov ← eval (.Name n p1) X.env
      standAt p2.atName
      let (f, first) ← holding [ov] (getMethod ov "__init__" pl)
      callWith pos f first (backTo pos (starEach (e :: es) X.env)) (backToKw pos (keywordEach [] X.env))) := by rfl)
    (hd : (n == ("__debug__" : Str)) = false := by decide)
    (he : starEach (e :: es) X.env = (false, eval e X.env) :: starEach es X.env := by rfl) (hpl : (backTo pos (starEach es X.env)).any (·.1) = false := by rfl) :
    PE X (.Call (.Attribute (.Name n p1) "__init__" p2) (e :: es) [] pos) (tVeI X.K ta) := by
  refine ⟨fun pins s σ H Q I h => ?_⟩
  refine PySem.W.methodCall_KW (ld_glob I hg hm ?_ hd) hc
  refine PySem.W.method_cls I.kIn r.ga ?_
  refine PySem.W.cls_value I.kIn r.rd vV (by decide +kernel) ?_
  show wpAny _ _ (callWith pos (Value.builtin "ValueError.__init__") [] (backTo pos (starEach (e :: es) X.env)) []) _ _ _
  refine PyProof.Rows.callWith_method1 (thn (ha.run pos pins _ σ H _ (I.tok _) h) fun us s1 ⟨vs, H1, I1, r1, a, C, ws, ev, hl, T, ea, q⟩ => ?_) he hpl
  subst ev
  cases r1 with
  | @cons _ u0 _ ur ra rw' =>
    obtain rfl : u0 = Value.ref a := ra
    have hlen : ur.length ≤ sizeLine := by
      rw [← Paired.length rw', sizeLine_eq]
      omega
    exact oinit_ok T I1 ea hlen fun s' J => ⟨.non, H1, J, rfl, q⟩
end
/-! ### readings' heads, and what is told of TooLong -/
theorem k_ifSx {c : TT} {t u : TS} {D : Ends} {σ : L2.St} {H : Hp} (h : c σ H fun b H1 => if b = true then t D σ H1 else u D σ H1) : tIfS c t u D σ H := h
theorem k_callSx {sp : Sp} {E : L2.St → XK} {tr : TA} {σ : L2.St} {H : Hp} {Q : VK} (h : tr σ H fun vs H1 => sp vs H1 Q (E σ)) : tCallS sp E tr σ H Q := h
/-- an error of the class at C may lie in the air, that has needed = m -/
def TL (C : Addr) (E : XK) (H : Hp) (m : Int) : Prop := ∀ (d : Addr) (H' : Hp), Same H H' → H' d = some (.xd [("needed", .int m)]) → E (.ref C) (some d) H'
theorem TL.mono {C : Addr} {E : XK} {H H1 : Hp} {m : Int} (t : TL C E H m) (s : Same H H1) : TL C E H1 m := fun d H' s' e => t d H' (s.trans s') e
theorem k_isX {K : PySem.W.Frag} {H : Hp} {Q : VK} {a D : Addr} {d : Option Addr} {c : V} {cv : Value} {b : Bool} (C : ExcC K D) (hd : DOk H d) (hcv : ∀ u, RelV c u → u = cv) (h : PySem.W.kitOne K (.ref D) cv = some b) (q : Q (.bl b) H) : rIsC K a (.ref D) d [.ref a, c] H Q :=
  ⟨D, c, cv, b, rfl, rfl, C, hd, hcv, h, q⟩
theorem k_xf {a C : Addr} {cls : Value} {d : Option Addr} {f : Str} {te : TE} {σ : L2.St} {H : Hp} {Q : VK} (h : te σ H fun x H1 => x = .ref a ∧ cls = .ref C ∧ ∃ (dd : Addr) (fs : List (Str × V)) (v : V), d = some dd ∧ H1 dd = some (.xd fs) ∧ fs.lookup f = some v ∧ Q v H1) : tXf a cls d C f te σ H Q := h
/-- self of an own error, being made -/
theorem tl_made {C a d : Addr} {E : XK} {H H2 : Hp} {m : Int} (t : TL C E H m) (ha : H a = none) (hd : H d = none) (e : H2 = upd (upd (upd H a (exo a C none)) d (exd d [("needed", .int m)])) a (exo a C (some d))) : E (.ref C) (some d) (upd (del H2 a) d (.xd [("needed", .int m)])) := by
  refine t d _ (fun b o h => ?_) upd_same
  have nb : b ≠ d := ne_of_none h hd
  have na : b ≠ a := ne_of_none h ha
  rw [upd_ne nb, del_ne na, e, upd_ne na, upd_ne nb, upd_ne na]
  exact h
/-- C(self, needed) -/
def spTL (C : Addr) : Sp := fun vs H Q _ => ∃ (a : Addr) (m : Int), vs = [.ref a, .int m] ∧ H a = some (exo a C none) ∧ ∀ dx, H dx = none → dx ≠ a → Q .non (upd (upd H dx (exd dx [("needed", .int m)])) a (exo a C (some dx)))
theorem k_mkTL {C : Addr} {H : Hp} {E : XK} {m : Int} (t : TL C E H m) : ([V.int m] : List V).length ≤ 1000 ∧ ∀ a, H a = none → spTL C (.ref a :: ([V.int m] ++ [])) (upd H a (exo a C none))
    (fun v H2 => v = .non ∧ ∃ (d : Addr) (fs : List (Str × V)), H2 a = some (exo a C (some d)) ∧ H2 d = some (exd d fs) ∧ H d = none ∧ E (.ref C) (some d) (upd (del H2 a) d (.xd fs))) (fun _ _ _ => False) := by
  refine ⟨by show 1 ≤ 1000; decide, fun a ha => ⟨a, m, rfl, upd_same, fun dx hd hda => ⟨rfl, dx, [("needed", .int m)], upd_same, ?_, ?_, ?_⟩⟩⟩
  · rw [upd_ne hda, upd_same]
  · rw [upd_ne hda] at hd; exact hd
  · rw [upd_ne hda] at hd
    exact tl_made t ha hd rfl
theorem k_veI {K : PySem.W.Frag} {ta : TA} {σ : L2.St} {H : Hp} {Q : VK} (h : ta σ H fun vs H1 => ∃ (a C : Addr) (ws : List V), vs = .ref a :: ws ∧ ws.length ≤ 1000 ∧ OexC K C ∧ H1 a = some (exo a C none) ∧ Q .non H1) : tVeI K ta σ H Q := h
theorem k_ost {K : PySem.W.Frag} {f : Str} {to te : TE} {D : Ends} {σ : L2.St} {H : Hp} (h : te σ H fun y H1 => to σ H1 fun x H2 => ∃ a C : Addr, x = .ref a ∧ OexC K C ∧ PySem.W.findIn K (.ref C) f = some none ∧
  ((H2 a = some (exo a C none) ∧ ∀ dx, H2 dx = none → dx ≠ a → D.nx σ (upd (upd H2 dx (exd dx [(f, y)])) a (exo a C (some dx)))) ∨
    ∃ (dx : Addr) (fs : List (Str × V)), H2 a = some (exo a C (some dx)) ∧ H2 dx = some (exd dx fs) ∧ fs.length ≤ 900 ∧ D.nx σ (upd H2 dx (exd dx ((f, y) :: fs))))) : tOst K f to te D σ H := h
theorem k_mkO {C : Addr} {sp : Sp} {dvs : List V} {ta : TA} {σ : L2.St} {H : Hp} {Q : XK} (h : ta σ H fun vs H1 => vs.length ≤ 1000 ∧ ∀ a, H1 a = none → sp (.ref a :: (vs ++ dvs)) (upd H1 a (exo a C none))
  (fun v H2 => v = .non ∧ ∃ (d : Addr) (fs : List (Str × V)), H2 a = some (exo a C (some d)) ∧ H2 d = some (exd d fs) ∧ H1 d = none ∧ Q (.ref C) (some d) (upd (del H2 a) d (.xd fs))) (fun _ _ _ => False)) : tMkO C sp dvs ta σ H Q := h

/-! ### the walker: one step, by the head of the reading -/
local macro_rules | `(tactic| walk_at "hp") => `(tactic| first | assumption | (refine' same_t ?h1 ?h2; (case h1 => assumption); (case h2 => walk_at "hp")) | (refine' same_l ?h1 ?h2; (case h1 => assumption); (case h2 => walk_at "hp")) | (refine' same_at ?h1 ?h2; (case h1 => assumption); (case h2 => walk_at "hp")) | fail)
local macro_rules | `(tactic| walk_at "hl") => `(tactic| first | walk_at "hp" | (refine' SqL.of ?h1; (case h1 => walk_at "hp")) | fail)
local macro_rules | `(tactic| walk_at "ht") => `(tactic| first | walk_at "hp" | (refine' SqT.of ?h1; (case h1 => walk_at "hp")) | fail)
local macro_rules | `(tactic| walk_at "sm") => `(tactic| first | assumption | (refine' sm_lit ?h1; (case h1 => decide +kernel)) | exact sm41 (by omega) (by omega) | walk_at "smx" | (refine' sm_mul ?h1 ?h2; (case h1 => walk_at "sm"); (case h2 => walk_at "sm")) | fail)
local macro_rules | `(tactic| walk_at "sd") => `(tactic| first
  | omega
  | decide +kernel
  | ((with_reducible apply Int.emod_nonneg); omega)
  | ((with_reducible refine sm_divx (b := 200) ?_ ?_ (by decide) (by decide)) <;> first | omega | walk_at "sm")
  | ((with_reducible refine sm_div (b := 200) ?_ ?_ (by decide) (by decide)) <;> first | omega | walk_at "sm")
  | walk_at "sdx"
  | ((with_reducible refine' sm_mulx ?h1 ?h2 ?h3); (case h1 => walk_at "sm"); (case h2 => walk_at "sm"); (case h3 => decide +kernel)) | fail)
local macro_rules | `(tactic| walk_at "st") => `(tactic| first
  | (with_reducible apply k_seqA)
  | (with_reducible apply k_seqD)
  | (with_reducible apply k_seqP)
  | ((with_reducible apply k_var); (· rfl))
  | (with_reducible apply k_c)
  | (with_reducible apply k_op)
  | (with_reducible apply k_add)
  | (with_reducible apply k_I0)
  | (with_reducible apply k_asg)
  | (with_reducible apply k_call)
  | (with_reducible apply k_cb)
  | (with_reducible apply k_cons)
  | (with_reducible apply k_nil)
  | (with_reducible apply k_ret)
  | (with_reducible apply k_test)
  | (with_reducible apply k_eq)
  | (with_reducible apply k_ne)
  | (with_reducible apply k_bl)
  | ((with_reducible apply k_I); (· walk_at "sd"))
  | (with_reducible apply k_U)
  | (with_reducible apply k_un)
  | ((with_reducible apply k_ixT); (· walk_at "ht"); (· rfl))
  | ((with_reducible apply k_ixL); (· walk_at "hl"); (· rfl))
  | (with_reducible apply k_tup)
  | ((with_reducible apply k_newtup); (· exact Nat.le_of_ble_eq_true rfl); intro p H' hn hs ht)
  | (with_reducible apply k_lst)
  | ((with_reducible apply k_newlst); (· exact Nat.le_of_ble_eq_true rfl); intro p H' hn hs ht)
  | (with_reducible apply k_B)
  | (with_reducible apply k_and)
  | (with_reducible apply k_or)
  | (with_reducible apply k_not)
  | ((with_reducible apply k_and2); (· rfl); (· rfl))
  | ((with_reducible apply k_or2); (· rfl); (· rfl))
  | ((with_reducible apply k_andn2); (· rfl); (· rfl))
  | (with_reducible apply k_andV)
  | (with_reducible apply k_orV)
  | (with_reducible apply k_notV)
  | (with_reducible apply k_chain)
  | (with_reducible apply k_eqb)
  | (with_reducible apply k_neb)
  | (with_reducible apply k_eqs)
  | (with_reducible apply k_nes)
  | (with_reducible apply k_drop)
  | (with_reducible apply k_next)
  | (with_reducible apply if_t)
  | (with_reducible apply if_f)
  | (with_reducible apply if_nt)
  | (with_reducible apply if_nf)
  | (with_reducible apply k_isi_ii)
  | (with_reducible apply k_isi_ib)
  | (with_reducible apply k_isi_bb)
  | (with_reducible apply k_isi_it)
  | ((with_reducible apply k_isi_tt); (· walk_at "ht"))
  | (with_reducible apply k_abs)
  | ((with_reducible apply k_max2); intro k hk1 hk2 hk3)
  | ((with_reducible apply k_min2); intro k hk1 hk2 hk3)
  | ((with_reducible apply k_lenT); (· walk_at "ht"))
  | ((with_reducible apply k_lenL); (· walk_at "hl"))
  | (with_reducible apply k_intI)
  | (with_reducible apply k_intB)
  | (with_reducible apply k_par)
  | (with_reducible apply k_par2)
  | (with_reducible apply k_ifx)
  | (with_reducible apply k_gname)
  | (with_reducible apply k_asgG)
  | (with_reducible apply k_retN)
  | (with_reducible apply k_lstrg)
  | ((with_reducible apply k_lstrgV); (· omega); intro p H' hn hs ht)
  | (with_reducible apply k_bits)
  | (with_reducible apply k_bitsV)
  | (with_reducible apply k_isN_n)
  | (with_reducible apply k_isN_i)
  | (with_reducible apply k_isN_r)
  | (with_reducible apply k_notN_n)
  | (with_reducible apply k_notN_i)
  | (with_reducible apply k_notN_r)
  | (with_reducible apply k_lc)
  | (with_reducible apply k_itup)
  | (with_reducible apply k_ilst)
  | ((with_reducible apply k_sqt); (· walk_at "ht"))
  | ((with_reducible apply k_sql); (· walk_at "hl"))
  | (with_reducible apply k_irng1)
  | ((with_reducible apply k_rng1); (· first | decide | omega))
  | (with_reducible apply k_irng2L)
  | (with_reducible apply k_rng2L)
  | (with_reducible apply k_irng2)
  | (with_reducible apply k_irng3)
  | ((with_reducible apply k_rng2); (· first | decide | omega))
  | ((with_reducible apply k_gtup); (· walk_at "ht"); (· rfl))
  | (with_reducible apply k_gcons)
  | (with_reducible apply k_gnil)
  | ((with_reducible apply k_notin2); (· walk_at "hl"))
  | ((with_reducible apply k_in2); (· walk_at "hl"))
  | ((with_reducible apply k_in3); (· walk_at "hl"))
  | ((with_reducible apply k_notinL); (· walk_at "hl"))
  | ((with_reducible apply k_inL'); (· walk_at "hl"))
  | ((with_reducible apply k_divmod); (· walk_at "sd"); intro p H' hn hs ht) | fail)
local macro_rules | `(tactic| walk_at "go") => `(tactic| repeat' walk_at "st")
/-- a branch: both ways, those that cannot be shut by omega -/
local macro_rules | `(tactic| walk_at "br") => `(tactic| (first | with_reducible apply if_dec | with_reducible apply if_ndec | with_reducible apply if_b) <;> intro hbr <;> first | (first | exact absurd (by assumption) hbr | exact absurd hbr (by assumption) | (exfalso; omega) | (exfalso; simp only [List.length_cons, List.length_nil] at hbr; omega)) | skip)
/-- an if statement: its test walked, the ways that can be -/
local macro_rules | `(tactic| walk_at "if") => `(tactic| ((first | with_reducible apply k_seqI | with_reducible apply k_if); walk_at "go"; walk_at "br"))
/-- a branch of which omega shuts one way -/
local macro_rules | `(tactic| walk_at "br1") => `(tactic| first
  | (with_reducible apply if_dec; (· (intro hbr; first | exact absurd (by assumption) hbr | exact absurd hbr (by assumption) | (exfalso; omega) | (exfalso; simp only [List.length_cons, List.length_nil] at hbr; omega))); intro hbr)
  | (with_reducible apply if_dec; rotate_left; (· (intro hbr; first | exact absurd (by assumption) hbr | exact absurd hbr (by assumption) | (exfalso; omega) | (exfalso; simp only [List.length_cons, List.length_nil] at hbr; omega))); intro hbr)
  | (with_reducible apply if_ndec; (· (intro hbr; first | exact absurd (by assumption) hbr | exact absurd hbr (by assumption) | (exfalso; omega) | (exfalso; simp only [List.length_cons, List.length_nil] at hbr; omega))); intro hbr)
  | (with_reducible apply if_ndec; rotate_left; (· (intro hbr; first | exact absurd (by assumption) hbr | exact absurd hbr (by assumption) | (exfalso; omega) | (exfalso; simp only [List.length_cons, List.length_nil] at hbr; omega))); intro hbr) | fail)
local macro_rules | `(tactic| walk_at "run") => `(tactic| repeat' (first | walk_at "st" | walk_at "br1" | with_reducible apply k_seqI | with_reducible apply k_if))
local macro_rules | `(tactic| walk_at "all") => `(tactic| repeat' (first | walk_at "st" | walk_at "br1" | walk_at "br" | with_reducible apply k_seqI | with_reducible apply k_if))
local macro_rules | `(tactic| walk_at "st") => `(tactic| first
  | ((with_reducible apply k_eqP); (· walk_at "ht"); (· walk_at "ht"))
  | ((with_reducible apply k_neP); (· walk_at "ht"); (· walk_at "ht")) | fail)
local macro_rules | `(tactic| walk_at "st") => `(tactic| first
  | ((with_reducible apply if_seq); (· rfl))
  | ((with_reducible apply if_nseq); (· rfl))
  | ((with_reducible apply if_sne); (· decide +kernel))
  | ((with_reducible apply if_nsne); (· decide +kernel)) | fail)

local macro_rules | `(tactic| walk_at "smx") => `(tactic| first | exact sm_ofB (by omega) | exact sm_bitsOf (by omega) | exact sm_mask (by omega) | (refine' sm_modp ?h1; (case h1 => walk_at "sm")) | (refine' sm_divp ?h1; (case h1 => walk_at "sm")) | (refine' sm_shl ?h1 ?h2; (case h1 => walk_at "sm"); (case h2 => omega)) | (refine' sm_or ?h1 ?h2; (case h1 => walk_at "sm"); (case h2 => walk_at "sm")) | (refine' sm_xor ?h1 ?h2; (case h1 => walk_at "sm"); (case h2 => walk_at "sm")) | (refine' sm_and ?h1; (case h1 => walk_at "sm")) | fail)
local macro_rules | `(tactic| walk_at "sdx") => `(tactic| first | (with_reducible exact pow_pos_c _) | ((with_reducible refine' cshl ?h1 ?h2 ?h3 ?h4); (case h1 => walk_at "sm"); (case h2 => omega); (case h3 => omega); (case h4 => decide +kernel)) | fail)
local macro_rules | `(tactic| walk_at "st") => `(tactic| first
  | (with_reducible apply k_andm)
  | (with_reducible apply k_andc)
  | (with_reducible apply k_orc)
  | (with_reducible apply k_xorm)
  | (with_reducible apply k_xorc)
  | ((with_reducible apply k_shl1); (· first | omega | exact modbd (by omega) (by omega)))
  | ((with_reducible apply k_shlc); (· exact cshl (by walk_at "sm") (by omega) (by omega) (by decide +kernel)))
  | ((with_reducible apply k_shrc); (· first | omega | exact Int.emod_nonneg _ (by omega))) | fail)
local macro_rules | `(tactic| walk_at "hr") => `(tactic| first | assumption | (refine' RT.mono ?h1 ?h2; (case h2 => assumption); (case h1 => walk_at "hr")) | fail)
local macro_rules | `(tactic| walk_at "lround") => `(tactic| (walk_at "go"))

local macro_rules | `(tactic| walk_at "st") => `(tactic| first
  | (with_reducible apply k_bm)
  | ((with_reducible apply k_bmA); (· walk_at "hl"))
  | ((with_reducible apply k_app); (· walk_at "hp"); (· first | assumption | decide | omega | (simp; done) | (simp; omega)); intro H' hm hh)
  | (with_reducible apply k_sl)
  | (with_reducible apply k_part)
  | (with_reducible apply k_partV)
  | (with_reducible apply k_nopart)
  | ((with_reducible apply k_slV); (· walk_at "hl"); intro p H' hn hs ht)
  | ((with_reducible apply k_lofL); (· walk_at "hl"); intro p H' hn hs ht)
  | (with_reducible apply k_gsub)
  | ((with_reducible apply k_eqE); (· walk_at "hl"); (· walk_at "hl"))
  | ((with_reducible apply k_neE); (· walk_at "hl"); (· walk_at "hl")) | fail)

local macro_rules | `(tactic| walk_at "sl") => `(tactic| first | with_reducible assumption | ((with_reducible apply SL.num); first | assumption | exact sm_mono (sm41 (by omega) (by omega)) (by decide) | walk_at "sm") | ((with_reducible apply SL.app) <;> walk_at "sl") | ((with_reducible apply SL.lit); decide +kernel) | fail)
local macro_rules | `(tactic| walk_at "st") => `(tactic| first
  | ((with_reducible apply k_str); (· first | assumption | exact sm_mono (sm41 (by omega) (by omega)) (by decide) | walk_at "sm"))
  | ((with_reducible apply k_adds); (· walk_at "sl"); (· walk_at "sl"); (· first | decide | omega)) | fail)

local macro_rules | `(tactic| walk_at "st") => `(tactic| first | (with_reducible apply k_callSx) | fail)

local macro_rules | `(tactic| walk_at "sn") => `(tactic| first | assumption | omega | (rw [SX.S_len]; omega) | decide +kernel | fail)
local macro_rules | `(tactic| walk_at "st") => `(tactic| first
  | (with_reducible apply k_slS)
  | (with_reducible apply k_part)
  | (with_reducible apply k_partV)
  | (with_reducible apply k_nopart)
  | ((with_reducible apply k_slSV); (· walk_at "sn"))
  | (with_reducible apply k_sgn)
  | (with_reducible apply k_nsgn)
  | (with_reducible apply k_m1)
  | (with_reducible apply k_m1S)
  | (with_reducible apply k_m0)
  | (with_reducible apply k_m0S)
  | (with_reducible apply k_starts)
  | (with_reducible apply k_istr)
  | (with_reducible apply k_istrV)
  | ((with_reducible apply k_lenS); (· walk_at "sn"))
  | (with_reducible apply k_isi_ss)
  | (with_reducible apply k_isi_is)
  | (with_reducible apply k_isi_ns)
  | (with_reducible apply k_isi_ni)
  | ((with_reducible apply k_isi_noS); (· with_reducible assumption)) | fail)
local macro_rules | `(tactic| walk_at "sl") => `(tactic| first | with_reducible assumption | (with_reducible exact SL.one) | ((with_reducible apply SL.num); first | assumption | exact sm_mono (sm41 (by omega) (by omega)) (by decide) | walk_at "sm") | ((with_reducible apply SL.app) <;> walk_at "sl") | ((with_reducible apply SL.cut); walk_at "sl") | ((with_reducible apply SL.lit); decide +kernel) | fail)

def topS (i : Nat) : Stmt := PySem.Challenge.pw_feastwheel_k71_dates_as_texts.main.body.getD i (.Pass ⟨0, 0, 0, 0⟩)
abbrev s_Lyear : Stmt := topS 15
theorem sc_Lyear : FnScope ["_law_cell", "_law_part_here"] ["_law_cell"] (defScope s_Lyear) := ⟨rfl, rfl, rfl, by decide +kernel, rfl, by decide +kernel, by decide +kernel⟩
abbrev s_date_text : Stmt := topS 11
theorem sc_date_text : FnScope ["date", "year", "month", "day"] ["date"] (defScope s_date_text) := ⟨rfl, rfl, rfl, by decide +kernel, rfl, by decide +kernel, by decide +kernel⟩
abbrev s_Lodd : Stmt := topS 18
theorem sc_Lodd : FnScope ["_law_cell", "_law_some"] ["_law_cell"] (defScope s_Lodd) := ⟨rfl, rfl, rfl, by decide +kernel, rfl, by decide +kernel, by decide +kernel⟩
abbrev s_Lfree : Stmt := topS 19
theorem sc_Lfree : FnScope ["_law_cell", "_law_signs", "_law_text", "_law_rest", "_law_k"] ["_law_cell", "_law_signs"] (defScope s_Lfree) := ⟨rfl, rfl, rfl, by decide +kernel, rfl, by decide +kernel, by decide +kernel⟩
abbrev s_Lspoiled : Stmt := topS 20
theorem sc_Lspoiled : FnScope ["_law_way", "_law_text", "_law_cell", "_law_at", "_law_parts"] ["_law_way", "_law_text", "_law_cell"] (defScope s_Lspoiled) := ⟨rfl, rfl, rfl, by decide +kernel, rfl, by decide +kernel, by decide +kernel⟩
abbrev s_Lcell_at : Stmt := topS 13
theorem sc_Lcell_at : FnScope ["_law_script", "_law_k"] ["_law_script", "_law_k"] (defScope s_Lcell_at) := ⟨rfl, rfl, rfl, by decide +kernel, rfl, by decide +kernel, by decide +kernel⟩
abbrev s_Lpart : Stmt := topS 16
theorem sc_Lpart : FnScope ["_law_cell", "_law_most"] ["_law_cell", "_law_most"] (defScope s_Lpart) := ⟨rfl, rfl, rfl, by decide +kernel, rfl, by decide +kernel, by decide +kernel⟩
abbrev s_Ltwo : Stmt := topS 17
theorem sc_Ltwo : FnScope ["_law_number", "_law_text"] ["_law_number"] (defScope s_Ltwo) := ⟨rfl, rfl, rfl, by decide +kernel, rfl, by decide +kernel, by decide +kernel⟩
abbrev s_are_figures : Stmt := topS 7
theorem sc_are_figures : FnScope ["text", "sign"] ["text"] (defScope s_are_figures) := ⟨rfl, rfl, rfl, by decide +kernel, rfl, by decide +kernel, by decide +kernel⟩
abbrev s_read_number : Stmt := topS 8
theorem sc_read_number : FnScope ["text", "figures"] ["text"] (defScope s_read_number) := ⟨rfl, rfl, rfl, by decide +kernel, rfl, by decide +kernel, by decide +kernel⟩
abbrev s_read_part : Stmt := topS 9
theorem sc_read_part : FnScope ["text"] ["text"] (defScope s_read_part) := ⟨rfl, rfl, rfl, by decide +kernel, rfl, by decide +kernel, by decide +kernel⟩
abbrev s_read_date : Stmt := topS 10
theorem sc_read_date : FnScope ["text", "parts"] ["text"] (defScope s_read_date) := ⟨rfl, rfl, rfl, by decide +kernel, rfl, by decide +kernel, by decide +kernel⟩
abbrev s_Lwhole : Stmt := topS 14
theorem sc_Lwhole : FnScope ["_law_found"] ["_law_found"] (defScope s_Lwhole) := ⟨rfl, rfl, rfl, by decide +kernel, rfl, by decide +kernel, by decide +kernel⟩
abbrev s_Lread : Stmt := topS 23
theorem sc_Lread : FnScope ["_law_handed", "_law_found", "_law_plain", "e", "_law_part_here"] ["_law_handed"] (defScope s_Lread) := ⟨rfl, rfl, rfl, by decide +kernel, rfl, by decide +kernel, by decide +kernel⟩
abbrev s_Lvalue : Stmt := topS 21
theorem sc_Lvalue : FnScope ["_law_text", "_law_sign"] ["_law_text"] (defScope s_Lvalue) := ⟨rfl, rfl, rfl, by decide +kernel, rfl, by decide +kernel, by decide +kernel⟩
abbrev s_Ldue : Stmt := topS 22
theorem sc_Ldue : FnScope ["_law_text", "_law_parts", "_law_sign", "_law_values", "_law_k", "_law_part_here"] ["_law_text"] (defScope s_Ldue) := ⟨rfl, rfl, rfl, by decide +kernel, rfl, by decide +kernel, by decide +kernel⟩
abbrev s_law : Stmt := topS 24
theorem sc_law : FnScope ["_law_script", "_law_year_here", "_law_date", "_law_text", "_law_shown", "_law_handed"] ["_law_script"] (defScope s_law) := ⟨rfl, rfl, rfl, by decide +kernel, rfl, by decide +kernel, by decide +kernel⟩
set_option genSizeOf false in
set_option genSizeOfSpec false in
set_option genInjectivity false in
structure Txt (K : PySem.W.Frag) (mg : Str → Option Value) where
  a_Lyear : Addr
  fd_Lyear : FuncData
  F_Lyear : Fun K "_law_year" "_law_year" s_Lyear a_Lyear fd_Lyear
  g_Lyear : mg "_law_year" = some (.ref a_Lyear)
  b_Lyear : Binds K fd_Lyear ["_law_cell"] []
  a_date_text : Addr
  fd_date_text : FuncData
  F_date_text : Fun K "date_text" "date_text" s_date_text a_date_text fd_date_text
  g_date_text : mg "date_text" = some (.ref a_date_text)
  b_date_text : Binds K fd_date_text ["date"] []
  a_Lodd : Addr
  fd_Lodd : FuncData
  F_Lodd : Fun K "_law_odd" "_law_odd" s_Lodd a_Lodd fd_Lodd
  g_Lodd : mg "_law_odd" = some (.ref a_Lodd)
  b_Lodd : Binds K fd_Lodd ["_law_cell"] []
  a_Lfree : Addr
  fd_Lfree : FuncData
  F_Lfree : Fun K "_law_free" "_law_free" s_Lfree a_Lfree fd_Lfree
  g_Lfree : mg "_law_free" = some (.ref a_Lfree)
  b_Lfree : Binds K fd_Lfree ["_law_cell", "_law_signs"] []
  a_Lspoiled : Addr
  fd_Lspoiled : FuncData
  F_Lspoiled : Fun K "_law_spoiled" "_law_spoiled" s_Lspoiled a_Lspoiled fd_Lspoiled
  g_Lspoiled : mg "_law_spoiled" = some (.ref a_Lspoiled)
  b_Lspoiled : Binds K fd_Lspoiled ["_law_way", "_law_text", "_law_cell"] []
  a_Lcell_at : Addr
  fd_Lcell_at : FuncData
  F_Lcell_at : Fun K "_law_cell_at" "_law_cell_at" s_Lcell_at a_Lcell_at fd_Lcell_at
  g_Lcell_at : mg "_law_cell_at" = some (.ref a_Lcell_at)
  b_Lcell_at : Binds K fd_Lcell_at ["_law_script", "_law_k"] []
  a_Lpart : Addr
  fd_Lpart : FuncData
  F_Lpart : Fun K "_law_part" "_law_part" s_Lpart a_Lpart fd_Lpart
  g_Lpart : mg "_law_part" = some (.ref a_Lpart)
  b_Lpart : Binds K fd_Lpart ["_law_cell", "_law_most"] []
  a_Ltwo : Addr
  fd_Ltwo : FuncData
  F_Ltwo : Fun K "_law_two" "_law_two" s_Ltwo a_Ltwo fd_Ltwo
  g_Ltwo : mg "_law_two" = some (.ref a_Ltwo)
  b_Ltwo : Binds K fd_Ltwo ["_law_number"] []
  a_are_figures : Addr
  fd_are_figures : FuncData
  F_are_figures : Fun K "are_figures" "are_figures" s_are_figures a_are_figures fd_are_figures
  g_are_figures : mg "are_figures" = some (.ref a_are_figures)
  b_are_figures : Binds K fd_are_figures ["text"] []
  a_read_number : Addr
  fd_read_number : FuncData
  F_read_number : Fun K "read_number" "read_number" s_read_number a_read_number fd_read_number
  g_read_number : mg "read_number" = some (.ref a_read_number)
  b_read_number : Binds K fd_read_number ["text"] []
  a_read_part : Addr
  fd_read_part : FuncData
  F_read_part : Fun K "read_part" "read_part" s_read_part a_read_part fd_read_part
  g_read_part : mg "read_part" = some (.ref a_read_part)
  b_read_part : Binds K fd_read_part ["text"] []
  a_read_date : Addr
  fd_read_date : FuncData
  F_read_date : Fun K "read_date" "read_date" s_read_date a_read_date fd_read_date
  g_read_date : mg "read_date" = some (.ref a_read_date)
  b_read_date : Binds K fd_read_date ["text"] []
  a_Lwhole : Addr
  fd_Lwhole : FuncData
  F_Lwhole : Fun K "_law_whole" "_law_whole" s_Lwhole a_Lwhole fd_Lwhole
  g_Lwhole : mg "_law_whole" = some (.ref a_Lwhole)
  b_Lwhole : Binds K fd_Lwhole ["_law_found"] []
  a_Lread : Addr
  fd_Lread : FuncData
  F_Lread : Fun K "_law_read" "_law_read" s_Lread a_Lread fd_Lread
  g_Lread : mg "_law_read" = some (.ref a_Lread)
  b_Lread : Binds K fd_Lread ["_law_handed"] []
  a_Lvalue : Addr
  fd_Lvalue : FuncData
  F_Lvalue : Fun K "_law_value" "_law_value" s_Lvalue a_Lvalue fd_Lvalue
  g_Lvalue : mg "_law_value" = some (.ref a_Lvalue)
  b_Lvalue : Binds K fd_Lvalue ["_law_text"] []
  a_Ldue : Addr
  fd_Ldue : FuncData
  F_Ldue : Fun K "_law_due" "_law_due" s_Ldue a_Ldue fd_Ldue
  g_Ldue : mg "_law_due" = some (.ref a_Ldue)
  b_Ldue : Binds K fd_Ldue ["_law_text"] []
  a_law : Addr
  fd_law : FuncData
  F_law : Fun K "law" "law" s_law a_law fd_law
  g_law : mg "law" = some (.ref a_law)
  b_law : Binds K fd_law ["_law_script"] []
  t_MOST_FIGURES : Tok
  c_MOST_FIGURES : mg "MOST_FIGURES" = some (.int 60 t_MOST_FIGURES)
  t_FIGURES : Tok
  c_FIGURES : mg "FIGURES" = some (.str "0123456789" t_FIGURES)
  n_all : mg "all" = none
  n_bool : mg "bool" = none
  n_int : mg "int" = none
  n_isinstance : mg "isinstance" = none
  n_len : mg "len" = none
  n_range : mg "range" = none
  n_str : mg "str" = none
  n_tuple : mg "tuple" = none
  C_NoText : Addr
  gc_NoText : mg "NoText" = some (.ref C_NoText)
  x_NoText : PySem.W.excIn K C_NoText [.type "ValueError", .type "Exception", .type "BaseException", .type "object"] "ValueError.__new__" = true
  kc_NoText : PySem.W.keepIn K (.ref C_NoText) = true
  bc_NoText : PySem.W.subIn K (.ref C_NoText) (.type "BaseException") = some true
  tc_NoText : PySem.W.typeIn K (.ref C_NoText) = some (.type "type")
  ic_NoText : PySem.W.isClsIn K C_NoText = true
  sc_NoText : PySem.W.subIn K (.ref C_NoText) (.ref C_NoText) = some true
  C_FeastError : Addr
  gc_FeastError : mg "FeastError" = some (.ref C_FeastError)
  kc_FeastError : PySem.W.keepIn K (.ref C_FeastError) = true
  bc_FeastError : PySem.W.subIn K (.ref C_FeastError) (.type "BaseException") = some true
  tc_FeastError : PySem.W.typeIn K (.ref C_FeastError) = some (.type "type")
  ic_FeastError : PySem.W.isClsIn K C_FeastError = true
  sc_FeastError : PySem.W.subIn K (.ref C_FeastError) (.ref C_FeastError) = some true
  C_NoDate : Addr
  gc_NoDate : mg "NoDate" = some (.ref C_NoDate)
  kc_NoDate : PySem.W.keepIn K (.ref C_NoDate) = true
  bc_NoDate : PySem.W.subIn K (.ref C_NoDate) (.type "BaseException") = some true
  tc_NoDate : PySem.W.typeIn K (.ref C_NoDate) = some (.type "type")
  ic_NoDate : PySem.W.isClsIn K C_NoDate = true
  sc_NoDate : PySem.W.subIn K (.ref C_NoDate) (.ref C_NoDate) = some true
  sb_NoText_FeastError : PySem.W.subIn K (.ref C_NoText) (.ref C_FeastError) = some true
  sb_NoText_NoDate : PySem.W.subIn K (.ref C_NoText) (.ref C_NoDate) = some false
  xc_NoText : ExcC K C_NoText
  sv_NoText : PySem.W.subIn K (.ref C_NoText) (.type "ValueError") = some true
section
variable {P : Program} {w : World} {K : PySem.W.Frag} {mg : Str → Option Value} {base : Heap}

/-! ### _law_year -/
def sp_Lyear (K : PySem.W.Frag) : Sp := fun vs H Q _ => ∃ c : Int, vs = [.int c] ∧ Sm 1048576 c ∧ ∀ y H', Same H H' → y.natAbs < 10 ^ 60 → Q (.int y) H'
theorem ok_Lyear (T : Txt K mg) : FnOk P w K mg base CX0 1 T.a_Lyear T.fd_Lyear ["_law_cell"] (sp_Lyear K) := by
  refine T.F_Lyear.ok sc_Lyear (fun vs H Q E h => ?_) (fun cdv A outer s H vs Q E hr h => ?_)
  · obtain ⟨_, rfl, _⟩ := h; rfl
  · obtain ⟨c, rfl, sc, q⟩ := h
    have hu := hr.units
    refine ⟨_, (pss_cons (ps_set (i := 1) sc_Lyear.nd rfl (Or.inl rfl) (pe_op op_mod (pe_op op_fdivW (pv 0) pe_int) (pe_ix (kb_ix K) (pe_lst (pa_cons pe_int (pa_cons (pe_powc (n := 1000000000000000000000000000000000000000000000000000000000000) (by decide +kernel)) pa_nil))) (pe_op op_mod (pv 0) pe_int) (fun _ _ => rfl))))
        (pss_one (ps_ret (pe_ix (kb_ix K) (pe_lst (pa_cons (pv 1) (pa_cons (pe_un un_neg (pv 1)) pa_nil))) (pe_op op_mod (pe_op op_fdivW (pv 0) pe_int) pe_int) (fun _ _ => rfl))))), ?_⟩
    walk_at "go"
    rename_i p1 H1 hn1 s1 t1
    obtain ⟨_, ⟨w, rfl, w0, w1⟩, hw⟩ := atI_any (P := fun v => ∃ z, v = .int z ∧ 1 ≤ z ∧ z ≤ 1000000000000000000000000000000000000000000000000000000000000) (l := [.int 10000, .int 1000000000000000000000000000000000000000000000000000000000000]) (i := c % 2) (by omega) (by show c % 2 < 2; omega) (by
      intro z hz
      simp only [List.mem_cons, List.not_mem_nil, or_false] at hz
      rcases hz with rfl | rfl <;> exact ⟨_, rfl, by decide, by decide⟩)
    refine k_ixL (SqL.of t1) hw ?_
    have m0 := Int.emod_nonneg (c / 4) (show w ≠ 0 by omega)
    have m1 := Int.emod_lt_of_pos (c / 4) (show 0 < w by omega)
    walk_at "go"
    generalize c / 4 % w = m at *
    rename_i p2 H2 hn2 s2 t2
    obtain ⟨_, ⟨z, rfl, hz⟩, e⟩ := atI_any (P := fun v => ∃ z, v = .int z ∧ z.natAbs < 10 ^ 60) (l := [.int m, .int (-m)]) (i := c / 2 % 2) (by omega) (by show c / 2 % 2 < 2; omega) (by
      intro z hz
      have e60 : (10 : Nat) ^ 60 = 1000000000000000000000000000000000000000000000000000000000000 := by decide +kernel
      simp only [List.mem_cons, List.not_mem_nil, or_false] at hz
      rcases hz with rfl | rfl <;> exact ⟨_, rfl, by rw [e60]; omega⟩)
    refine k_ixL (SqL.of t2) e ?_
    exact q _ _ (s1.trans s2) hz
theorem k_Lyear {K : PySem.W.Frag} {H : Hp} {Q : VK} {E : XK} {c : Int} (sc : Sm 1048576 c) (q : ∀ y H', Same H H' → y.natAbs < 10 ^ 60 → Q (.int y) H') : sp_Lyear K [.int c] H Q E := ⟨c, rfl, sc, q⟩

/-! ### date_text -/
def sp_date_text (K : PySem.W.Frag) : Sp := fun vs H Q _ => ∃ (p : Addr) (y : Int) (m d : Nat), vs = [.ref p] ∧ SqT K H p [.int y, .int (m : Int), .int (d : Int)] ∧ Sm 400 y ∧ Sm 400 (m : Int) ∧ Sm 400 (d : Int) ∧ Q (.str (SX.S (dtL y m d))) H
theorem ok_date_text (T : Txt K mg) : FnOk P w K mg base CX0 1 T.a_date_text T.fd_date_text ["date"] (sp_date_text K) := by
  refine T.F_date_text.ok sc_date_text (fun vs H Q E h => ?_) (fun cdv A outer s H vs Q E hr h => ?_)
  · obtain ⟨_, _, _, _, rfl, _⟩ := h; rfl
  · obtain ⟨p, y, m, d, rfl, hp, sy, sm, sd, q⟩ := h
    have hu := hr.units
    have l1 := (SL.num sy).h
    have l2 := (SL.num sm).h
    have l3 := (SL.num sd).h
    rw [num_numS, SX.S_len] at l1 l2 l3
    rw [numS_nn (by omega), Int.toNat_natCast] at l2 l3
    have tw : ∀ n, (two n).length ≤ 1 + (TL.numL n).length := fun n => by unfold two; split <;> simp <;> omega
    have l4 := tw m
    have l5 := tw d
    refine ⟨_, (pss_cons (ps_asg (pv 0) (pg_tup rfl (pgs_cons (pg_name (i := 1) sc_date_text.nd rfl (Or.inl rfl)) (pgs_cons (pg_name (i := 2) sc_date_text.nd rfl (Or.inl rfl)) (pgs_cons (pg_name (i := 3) sc_date_text.nd rfl (Or.inl rfl)) pgs_nil)))))
        (pss_one (ps_ret (pe_op op_addA (pe_op op_addA (pe_op op_addA (pe_op op_addA (pe_callTy cb_str (by rfl) T.n_str (by decide +kernel) (pa_cons (pv 1) pa_nil)) pe_str) (pe_m1 PySem.F.slot_str_zfill PySem.F.type_str_zfill mt_zfillV (pe_callTy cb_str (by rfl) T.n_str (by decide +kernel) (pa_cons (pv 2) pa_nil)) pe_int)) pe_str) (pe_m1 PySem.F.slot_str_zfill PySem.F.type_str_zfill mt_zfillV (pe_callTy cb_str (by rfl) T.n_str (by decide +kernel) (pa_cons (pv 3) pa_nil)) pe_int))))), ?_⟩
    have b1 : SL 130 (SX.S (two m)) := ⟨by rw [SX.S_len]; omega⟩
    have b2 : SL 130 (SX.S (two d)) := ⟨by rw [SX.S_len]; omega⟩
    walk_at "go"
    rw [num_numS (m : Int), numS_nn (show (0 : Int) ≤ (m : Int) by omega), Int.toNat_natCast]
    refine k_zfill2 ?_
    walk_at "go"
    rw [num_numS (d : Int), numS_nn (show (0 : Int) ≤ (d : Int) by omega), Int.toNat_natCast]
    refine k_zfill2 ?_
    walk_at "go"
    have e : (Str.ofString (toString y) ++ ("/" : Str) ++ SX.S (two m) ++ ("/" : Str) ++ SX.S (two d)) = SX.S (dtL y m d) := by
      rw [num_numS, lit_slash, SX.S_cat, SX.S_cat, SX.S_cat, SX.S_cat]
      unfold dtL; simp
    rw [e]
    exact q
theorem k_date_text {K : PySem.W.Frag} {H : Hp} {Q : VK} {E : XK} {p : Addr} {y : Int} {m d : Nat} (hp : SqT K H p [.int y, .int (m : Int), .int (d : Int)]) (sy : Sm 400 y) (sm : Sm 400 (m : Int)) (sd : Sm 400 (d : Int)) (q : Q (.str (SX.S (dtL y m d))) H) : sp_date_text K [.ref p] H Q E := ⟨p, y, m, d, rfl, hp, sy, sm, sd, q⟩

/-! ### _law_odd -/
def sp_Lodd (K : PySem.W.Frag) : Sp := fun vs H Q _ => ∃ c : Int, vs = [.int c] ∧ ∀ s H', Same H H' → SL 30 s → Q (.str s) H'
theorem ok_Lodd (T : Txt K mg) : FnOk P w K mg base CX0 1 T.a_Lodd T.fd_Lodd ["_law_cell"] (sp_Lodd K) := by
  refine T.F_Lodd.ok sc_Lodd (fun vs H Q E h => ?_) (fun cdv A outer s H vs Q E hr h => ?_)
  · obtain ⟨_, rfl, _⟩ := h; rfl
  · obtain ⟨c, rfl, q⟩ := h
    have hu := hr.units
    refine ⟨_, (pss_cons (ps_set (i := 1) sc_Lodd.nd rfl (Or.inl rfl) (pe_lst (pa_cons pe_str (pa_cons pe_str (pa_cons pe_str (pa_cons pe_str (pa_cons pe_str (pa_cons pe_str (pa_cons pe_str (pa_cons pe_str (pa_cons pe_str (pa_cons pe_str (pa_cons pe_str pa_nil)))))))))))))
        (pss_cons (ps_set (i := 1) sc_Lodd.nd rfl (Or.inl rfl) (pe_op op_addA (pv 1) (pe_lst (pa_cons pe_str (pa_cons pe_str (pa_cons pe_str (pa_cons pe_str (pa_cons pe_str (pa_cons pe_str (pa_cons pe_str pa_nil))))))))))
        (pss_one (ps_ret (pe_ix (kb_ix K) (pv 1) (pe_op op_mod (pv 0) pe_int) (fun _ _ => rfl)))))), ?_⟩
    walk_at "go"
    rename_i p1 H1 hn1 s1 t1 p2 H2 hn2 s2 t2
    refine k_cat (s2 _ _ t1) t2 (by decide) fun p3 H3 hn3 s3 t3 => ?_
    walk_at "go"
    obtain ⟨s, hs, e⟩ := atI_str (l := [.str "", .str "/", .str "//", .str "1/01", .str "1/01/01/01", .str "1/1/01", .str "1/01/1", .str "1/00/01", .str "1/01/00", .str "01/01/01", .str "-0/01/01"] ++ [.str "1/-1/01", .str "+1/01/01", .str " 1/01/01", .str "1/01/01 ", .str "1/001/01", .str "1/01/010", .str "1//01"]) (i := c % 18) (by decide +kernel) (by omega) (by show c % 18 < 18; omega)
    refine k_ixL (SqL.of t3) e ?_
    exact q _ _ ((s1.trans s2).trans s3) hs
theorem k_Lodd {K : PySem.W.Frag} {H : Hp} {Q : VK} {E : XK} {c : Int} (q : ∀ s H', Same H H' → SL 30 s → Q (.str s) H') : sp_Lodd K [.int c] H Q E := ⟨c, rfl, q⟩

/-! ### _law_free -/
def sp_Lfree (K : PySem.W.Frag) : Sp := fun vs H Q _ => ∃ (c : Int) (l : List Nat), vs = [.int c, .str (SX.S l)] ∧ 1 ≤ l.length ∧ l.length ≤ 100 ∧ ∀ s, SL 100 s → Q (.str s) H
theorem ok_Lfree (T : Txt K mg) : FnOk P w K mg base CX0 1 T.a_Lfree T.fd_Lfree ["_law_cell", "_law_signs"] (sp_Lfree K) := by
  refine T.F_Lfree.ok sc_Lfree (fun vs H Q E h => ?_) (fun cdv A outer s H vs Q E hr h => ?_)
  · obtain ⟨_, _, rfl, _⟩ := h; rfl
  · obtain ⟨c, l, rfl, l0, l1, q⟩ := h
    have hu := hr.units
    refine ⟨_, (pss_cons (ps_set (i := 2) sc_Lfree.nd rfl (Or.inl rfl) pe_str)
        (pss_cons (ps_set (i := 3) sc_Lfree.nd rfl (Or.inl rfl) (pe_op op_fdivW (pv 0) pe_int))
        (pss_cons (ps_for PassesOwn.never rfl (pi_range1 (by rfl) T.n_range (pa_cons (pe_op op_mod (pv 0) pe_int) pa_nil)) (pg_name (i := 4) sc_Lfree.nd rfl (Or.inl rfl)) (pss_cons (ps_set (i := 2) sc_Lfree.nd rfl (Or.inl rfl) (pe_op op_addA (pv 2) (pe_ix (kb_ix K) (pv 1) (pe_op op_mod (pv 3) (pe_callB (kb_len K) (by rfl) T.n_len (by decide +kernel) (pa_cons (pv 1) pa_nil))) (fun _ _ => rfl))))
        (pss_one (ps_set (i := 3) sc_Lfree.nd rfl (Or.inl rfl) (pe_op op_fdivW (pv 3) (pe_callB (kb_len K) (by rfl) T.n_len (by decide +kernel) (pa_cons (pv 1) pa_nil)))))))
        (pss_one (ps_ret (pv 2)))))), ?_⟩
    have n0 := Int.emod_nonneg c (show (64 : Int) ≠ 0 by decide)
    have n1 := Int.emod_lt_of_pos c (show (0 : Int) < 64 by decide)
    walk_at "go"
    with_reducible apply k_seqF
    with_reducible apply k_for
    walk_at "go"
    refine for_range (fun i σ' H' => ∃ (s : Str) (n : Int) (v : Option V), σ' = [some (.int c), some (.str (SX.S l)), some (.str s), some (.int n), v] ∧ H = H' ∧ SL i s) ⟨_, _, _, rfl, rfl, ⟨by decide⟩⟩ (fun i σ' H' hi hW => ?_) (fun σ' H' hW => ?_)
    · obtain ⟨s, n, v, rfl, rfl, hs⟩ := hW
      walk_at "go"
      rw [SX.S_len]
      have m0 := Int.emod_nonneg n (show (l.length : Int) ≠ 0 by omega)
      have m1 := Int.emod_lt_of_pos n (show 0 < (l.length : Int) by omega)
      obtain ⟨x, _, e⟩ := atI_nats m0 m1
      walk_at "go"
      refine k_ixS (by omega) e ?_
      walk_at "go"
      rw [SX.S_len]
      walk_at "go"
      exact ⟨_, _, _, rfl, rfl, hs.app SL.one⟩
    · obtain ⟨s, n, v, rfl, rfl, hs⟩ := hW
      walk_at "go"
      exact q _ (hs.mono (by omega))
theorem k_Lfree {K : PySem.W.Frag} {H : Hp} {Q : VK} {E : XK} {c : Int} {l : List Nat} (l0 : 1 ≤ l.length) (l1 : l.length ≤ 100) (q : ∀ s, SL 100 s → Q (.str s) H) : sp_Lfree K [.int c, .str (SX.S l)] H Q E := ⟨c, l, rfl, l0, l1, q⟩

/-! ### _law_spoiled -/
theorem text_of {K : PySem.W.Frag} {H : Hp} {s : Str} {n : Nat} (h : SL n s) (hn : n ≤ 100000) : NoStr K H (.str s) ∨ ∃ l : List Nat, V.str s = .str (SX.S l) ∧ l.length ≤ 100000 := by
  obtain ⟨l, rfl⟩ := str_S s
  have := h.h
  rw [SX.S_len] at this
  exact .inr ⟨l, rfl, by omega⟩
theorem str3 {l : List V} (h : ∀ v ∈ l, ∃ s, v = .str s ∧ SL 200 s) : ∃ ys : List Str, l = ys.map V.str ∧ (ys.map (·.length)).sum ≤ ys.length * 200 := by
  induction l with
  | nil => exact ⟨[], rfl, by simp⟩
  | cons v r ih =>
    obtain ⟨s, rfl, hs⟩ := h v List.mem_cons_self
    obtain ⟨ys, e, hy⟩ := ih fun v hv => h v (List.mem_cons_of_mem _ hv)
    refine ⟨s :: ys, by rw [e]; rfl, ?_⟩
    have := hs.h
    rw [List.map_cons, List.sum_cons, List.length_cons, Nat.add_mul]
    omega
theorem join_len (z : Str) : ∀ ys : List Str, (Str.join z ys).length ≤ (ys.map (·.length)).sum + ys.length * z.length
  | [] => by show (0 : Nat) ≤ _; omega
  | [x] => by show x.length ≤ _; simp
  | x :: y :: r => by
    have ih := join_len z (y :: r)
    have e : Str.join z (x :: y :: r) = x ++ z ++ Str.join z (y :: r) := rfl
    rw [e, Str.length_append, Str.length_append, List.map_cons, List.sum_cons, List.length_cons (a := x), Nat.add_mul]
    omega
def sp_Lspoiled (K : PySem.W.Frag) : Sp := fun vs H Q _ => ∃ (w c : Int) (y : Int) (m d : Nat), vs = [.int w, .str (SX.S (dtL y m d)), .int c] ∧ Sm 1048576 c ∧ y.natAbs < 10 ^ 60 ∧ 1 ≤ m ∧ m < 10 ^ 60 ∧ 1 ≤ d ∧ d < 10 ^ 60 ∧ ∀ v H', Same H H' → (NoStr K H' v ∨ ∃ l : List Nat, v = .str (SX.S l) ∧ l.length ≤ 100000) → Q v H'
theorem ok_Lspoiled (T : Txt K mg) : FnOk P w K mg base CX0 2 T.a_Lspoiled T.fd_Lspoiled ["_law_way", "_law_text", "_law_cell"] (sp_Lspoiled K) := by
  refine T.F_Lspoiled.ok sc_Lspoiled (fun vs H Q E h => ?_) (fun cdv A outer s H vs Q E hr h => ?_)
  · obtain ⟨_, _, _, _, _, rfl, _⟩ := h; rfl
  · obtain ⟨w, c, y, m, d, rfl, sc, hy, m1, hm, d1, hd, q⟩ := h
    have hu := hr.units
    have hl := dtL_len hy hm hd
    have hsp := dtL_split y m d
    have hla := numS_len hy
    have hlb := two_len hm
    have hlc := two_len hd
    have hlp : 1 ≤ (dtL y m d).length := by unfold dtL; simp only [List.length_append, List.length_cons]; omega
    generalize numS y = a at *
    generalize two m = b at *
    generalize two d = e at *
    generalize dtL y m d = l at *
    have hl7 : (SX.S l).length ≤ 10000000 := by rw [SX.S_len]; omega
    have sl1 : SL 185 (SX.S l) := ⟨by rw [SX.S_len]; exact hl⟩
    refine ⟨_, (pss_cons (ps_if (pt_cmpR (kb_eq K (hu := hu)) (pv 0) pe_int (nomark _)) (pss_cons (ps_set (i := 3) sc_Lspoiled.nd rfl (Or.inl rfl) (pe_op op_mod (pv 2) (pe_op op_addA (pe_callB (kb_len K) (by rfl) T.n_len (by decide +kernel) (pa_cons (pv 1) pa_nil)) pe_int)))
        (pss_one (ps_ret (pe_op op_addA (pe_op op_addA (pe_slice sl_str (pv 1) po_none (po_some (pv 3))) (pe_ix (kb_ix K) pe_str (pe_op op_mod (pe_op op_fdivW (pv 2) pe_int) pe_int) (fun _ _ => rfl))) (pe_slice sl_str (pv 1) (po_some (pv 3)) po_none))))) pss_nil)
        (pss_cons (ps_if (pt_cmpR (kb_eq K (hu := hu)) (pv 0) pe_int (nomark _)) (pss_cons (ps_set (i := 3) sc_Lspoiled.nd rfl (Or.inl rfl) (pe_op op_mod (pv 2) (pe_callB (kb_len K) (by rfl) T.n_len (by decide +kernel) (pa_cons (pv 1) pa_nil))))
        (pss_one (ps_ret (pe_op op_addA (pe_slice sl_str (pv 1) po_none (po_some (pv 3))) (pe_slice sl_str (pv 1) (po_some (pe_op op_addA (pv 3) pe_int)) po_none))))) pss_nil)
        (pss_cons (ps_if (pt_cmpR (kb_eq K (hu := hu)) (pv 0) pe_int (nomark _)) (pss_one (ps_ret (pe_call (ok_Lodd T) (hr.mono (by decide)) (by rfl) T.g_Lodd T.F_Lodd.kp T.b_Lodd .nil pass0 (pa_cons (pv 2) pa_nil)))) pss_nil)
        (pss_cons (ps_if (pt_cmpR (kb_eq K (hu := hu)) (pv 0) pe_int (nomark _)) (pss_cons (ps_set (i := 4) sc_Lspoiled.nd rfl (Or.inl rfl) (pe_m1 PySem.F.slot_str_split PySem.F.type_str_split mt_splitV (pv 1) pe_str))
        (pss_cons (ps_asg (pe_ix (kb_ix K) (pe_lst (pa_cons (pe_op op_addA pe_str (pe_ix (kb_ix K) (pv 4) (pe_op op_mod (pv 2) pe_int) (fun _ _ => rfl))) (pa_cons (pe_op op_mulS pe_str pe_int) (pa_cons pe_str (pa_cons (pe_op op_addA pe_str (pe_ix (kb_ix K) (pv 4) (pe_op op_mod (pv 2) pe_int) (fun _ _ => rfl))) pa_nil))))) (pe_op op_mod (pe_op op_fdivW (pv 2) pe_int) pe_int) (fun _ _ => rfl)) (pg_sub (pv 4) (pe_op op_mod (pv 2) pe_int) set_list))
        (pss_one (ps_ret (pe_m1 PySem.F.slot_str_join PySem.F.type_str_join (kb_joinV K) pe_str (pv 4)))))) pss_nil)
        (pss_cons (ps_if (pt_cmpR (kb_eq K (hu := hu)) (pv 0) pe_int (nomark _)) (pss_one (ps_ret (pe_ix (kb_ix K) (pe_lst (pa_cons pe_non (pa_cons (pe_tup (pa_cons pe_str (pa_cons pe_str (pa_cons pe_str pa_nil)))) (pa_cons pe_int pa_nil)))) (pe_op op_mod (pv 2) pe_int) (fun _ _ => rfl)))) pss_nil)
        (pss_cons (ps_if (pt_cmpR (kb_eq K (hu := hu)) (pv 0) pe_int (nomark _)) (pss_one (ps_ret (pe_call (ok_Lfree T) (hr.mono (by decide)) (by rfl) T.g_Lfree T.F_Lfree.kp T.b_Lfree .nil pass0 (pa_cons (pe_op op_fdivW (pv 2) pe_int) (pa_cons (pe_ix (kb_ix K) (pe_lst (pa_cons pe_str (pa_cons pe_str (pa_cons pe_str pa_nil)))) (pe_op op_mod (pv 2) pe_int) (fun _ _ => rfl)) pa_nil))))) pss_nil)
        (pss_one (ps_ret (pv 1))))))))), ?_⟩
    with_reducible apply k_seqI
    walk_at "go"
    refine if_dec (fun h => ?_) (fun h => ?_)
    · walk_at "go"
      rw [SX.S_len]
      have m0 := Int.emod_nonneg c (show ((l.length : Nat) : Int) + 1 ≠ 0 by omega)
      have m1 := Int.emod_lt_of_pos c (show 0 < ((l.length : Nat) : Int) + 1 by omega)
      walk_at "go"
      obtain ⟨x, _, e⟩ := atI_nats (l := ("0123456789-+ /.a" : Str).cps.toList) (i := c / 7 % 16) (by omega) (by rw [show ("0123456789-+ /.a" : Str).cps.toList.length = 16 by decide +kernel]; omega)
      refine k_ixS (l := ("0123456789-+ /.a" : Str).cps.toList) (by decide +kernel) e ?_
      walk_at "go"
      exact q _ _ (Same.refl _) (text_of ((sl1.cut.app SL.one).app sl1.cut) (by decide))
    walk_at "go"
    with_reducible apply k_seqI
    walk_at "go"
    refine if_dec (fun h => ?_) (fun h => ?_)
    · walk_at "go"
      rw [SX.S_len]
      have m0 := Int.emod_nonneg c (show ((l.length : Nat) : Int) ≠ 0 by omega)
      have m1 := Int.emod_lt_of_pos c (show 0 < ((l.length : Nat) : Int) by omega)
      walk_at "go"
      exact q _ _ (Same.refl _) (text_of (sl1.cut.app sl1.cut) (by decide))
    walk_at "go"
    with_reducible apply k_seqI
    walk_at "go"
    refine if_dec (fun h => ?_) (fun h => ?_)
    · walk_at "go"
      refine k_Lodd fun s H1 s1 sl => ?_
      exact q _ _ s1 (text_of sl (by decide))
    walk_at "go"
    with_reducible apply k_seqI
    walk_at "go"
    refine if_dec (fun h => ?_) (fun h => ?_)
    · walk_at "go"
      refine k_split (s := 47) lit_slash (by decide) (by omega) fun p1 H1 hp1 s1 t1 => ?_
      rw [hsp] at t1
      have t1 : H1 p1 = some (.lst [.str (SX.S a), .str (SX.S b), .str (SX.S e)]) := t1
      have hP : ∀ v ∈ [V.str (SX.S a), .str (SX.S b), .str (SX.S e)], ∃ s, v = .str s ∧ SL 100 s := by
        intro z hz
        simp only [List.mem_cons, List.not_mem_nil, or_false] at hz
        rcases hz with rfl | rfl | rfl
        · exact ⟨_, rfl, ⟨by rw [SX.S_len]; omega⟩⟩
        · exact ⟨_, rfl, ⟨by rw [SX.S_len]; omega⟩⟩
        · exact ⟨_, rfl, ⟨by rw [SX.S_len]; omega⟩⟩
      obtain ⟨_, ⟨x, rfl, hx⟩, ex⟩ := atI_any (P := fun v => ∃ s, v = .str s ∧ SL 100 s) (l := [.str (SX.S a), .str (SX.S b), .str (SX.S e)]) (i := c % 3) (by omega) (by show c % 3 < 3; omega) hP
      walk_at "go"
      refine k_ixL (SqL.of t1) ex ?_
      walk_at "go"
      refine k_mulT (B := 61) ⟨by decide +kernel, fun _ _ => by decide +kernel, fun _ _ => by decide +kernel⟩ ⟨by decide +kernel⟩ fun o ho => ?_
      walk_at "go"
      refine k_ixL (SqL.of t1) ex ?_
      walk_at "go"
      rename_i p2 H2 hn2 s2 t2
      obtain ⟨_, ⟨x2, rfl, hx2⟩, ex2⟩ := atI_any (P := fun v => ∃ s, v = .str s ∧ SL 130 s) (i := c / 3 % 4) (by omega) (show c / 3 % 4 < (([V.str (("0" : Str) ++ x), V.str o, V.str ("00" : Str), V.str (("-" : Str) ++ x)].length : Nat) : Int) by show c / 3 % 4 < 4; omega) (by
        intro z hz
        simp only [List.mem_cons, List.not_mem_nil, or_false] at hz
        rcases hz with rfl | rfl | rfl | rfl
        · exact ⟨_, rfl, ((SL.lit (by decide +kernel)).app hx).mono (by decide)⟩
        · exact ⟨_, rfl, ho.mono (by decide)⟩
        · exact ⟨_, rfl, (SL.lit (by decide +kernel)).mono (by decide)⟩
        · exact ⟨_, rfl, ((SL.lit (by decide +kernel)).app hx).mono (by decide)⟩)
      refine k_ixL (SqL.of t2) ex2 ?_
      have t1' := s2 _ _ t1
      have hj : ixN ([V.str (SX.S a), .str (SX.S b), .str (SX.S e)].length) (c % 3) = some (c % 3).toNat := by unfold ixN; rw [if_pos (by omega), if_pos (by show c % 3 < 3; omega)]
      walk_at "go"
      refine k_setV t1' hj fun H3 m3 t3 => ?_
      obtain ⟨ys, ey, hys⟩ := str3 (l := [V.str (SX.S a), .str (SX.S b), .str (SX.S e)].set (c % 3).toNat (.str x2)) fun v hv => by
        rcases List.mem_or_eq_of_mem_set hv with h | h
        · obtain ⟨s, rfl, hs⟩ := hP v h; exact ⟨s, rfl, hs.mono (by decide)⟩
        · exact ⟨x2, h, hx2.mono (by decide)⟩
      have hyl : ys.length = 3 := by
        have := congrArg List.length ey
        rw [List.length_set, List.length_map] at this; simpa using this.symm
      rw [ey] at t3
      walk_at "go"
      refine k_join (SqL.of t3) ?_ ?_
      · rw [hyl] at hys ⊢
        have : ("/" : Str).length = 1 := by decide +kernel
        rw [this]; omega
      · have hjl := join_len ("/" : Str) ys
        have e1 : ("/" : Str).length = 1 := by decide +kernel
        rw [hyl] at hys hjl
        rw [e1] at hjl
        have h0 : H p1 = none := hp1
        exact q _ _ (m3.same (s1.trans s2) h0) (text_of (n := 1000) ⟨by rw [show Txt.join ("/" : Str) ys = Str.join ("/" : Str) ys from TL.join_eq _ _]; omega⟩ (by decide))
    walk_at "go"
    with_reducible apply k_seqI
    walk_at "go"
    refine if_dec (fun h => ?_) (fun h => ?_)
    · walk_at "go"
      rename_i p1 H1 hn1 s1 t1 p2 H2 hn2 s2 t2
      obtain ⟨z, hz, e⟩ := atI_any (P := fun v => NoStr K H2 v) (l := [.non, .ref p1, .int 10101]) (i := c % 3) (by omega) (by show c % 3 < 3; omega) (by
        intro z hz
        simp only [List.mem_cons, List.not_mem_nil, or_false] at hz
        rcases hz with rfl | rfl | rfl
        · exact .inl rfl
        · exact .inr (.inr (.inl ⟨_, _, rfl, SqT.of (s2 _ _ t1)⟩))
        · exact .inr (.inl ⟨_, rfl⟩))
      refine k_ixL (SqL.of t2) e ?_
      exact q _ _ (s1.trans s2) (.inl hz)
    walk_at "go"
    with_reducible apply k_seqI
    walk_at "go"
    refine if_dec (fun h => ?_) (fun h => ?_)
    · walk_at "go"
      rename_i p1 H5 hn5 e6 t5
      obtain ⟨_, ⟨l, rfl, l0, l1⟩, a1⟩ := atI_any (P := fun v => ∃ l : List Nat, v = .str (SX.S l) ∧ 1 ≤ l.length ∧ l.length ≤ 100) (l := [.str "0123456789/", .str "0123456789-/", .str "01/-+ "]) (i := c % 3) (by omega) (by show c % 3 < 3; omega) (by
        intro z hz
        simp only [List.mem_cons, List.not_mem_nil, or_false] at hz
        rcases hz with rfl | rfl | rfl
        · exact ⟨("0123456789/" : Str).cps.toList, rfl, by decide +kernel, by decide +kernel⟩
        · exact ⟨("0123456789-/" : Str).cps.toList, rfl, by decide +kernel, by decide +kernel⟩
        · exact ⟨("01/-+ " : Str).cps.toList, rfl, by decide +kernel, by decide +kernel⟩)
      refine k_ixL (SqL.of t5) a1 ?_
      walk_at "go"
      refine k_Lfree l0 l1 fun s sl => ?_
      exact q _ _ e6 (text_of sl (by decide))
    · walk_at "go"
      exact q _ _ (Same.refl _) (text_of sl1 (by decide))
theorem k_Lspoiled {K : PySem.W.Frag} {H : Hp} {Q : VK} {E : XK} {w c : Int} {y : Int} {m d : Nat} (sc : Sm 1048576 c) (hy : y.natAbs < 10 ^ 60) (m1 : 1 ≤ m) (hm : m < 10 ^ 60) (d1 : 1 ≤ d) (hd : d < 10 ^ 60) (q : ∀ v H', Same H H' → (NoStr K H' v ∨ ∃ l : List Nat, v = .str (SX.S l) ∧ l.length ≤ 100000) → Q v H') : sp_Lspoiled K [.int w, .str (SX.S (dtL y m d)), .int c] H Q E := ⟨w, c, y, m, d, rfl, sc, hy, m1, hm, d1, hd, q⟩

/-! ### _law_cell_at -/
/-- a cell of the script; nought behind its end -/
def sp_Lcell_at (K : PySem.W.Frag) : Sp := fun vs H Q _ => ∃ (a : Addr) (ns : List Int) (k : Int), vs = [.ref a, .int k] ∧ SqL K H a (ns.map V.int) ∧ 0 ≤ k ∧ Q (.int (ns.getD k.toNat 0)) H
theorem ok_Lcell_at (T : Txt K mg) : FnOk P w K mg base CX0 1 T.a_Lcell_at T.fd_Lcell_at ["_law_script", "_law_k"] (sp_Lcell_at K) := by
  refine T.F_Lcell_at.ok sc_Lcell_at (fun vs H Q E h => ?_) (fun cdv A outer s H vs Q E hr h => ?_)
  · obtain ⟨_, _, _, rfl, _⟩ := h; rfl
  · obtain ⟨a, ns, k, rfl, hS, h0, q⟩ := h
    refine ⟨_, (pss_cons (ps_if (pt_cmpR op_lt (pv 1) (pe_callB (kb_len K) (by rfl) T.n_len (by decide +kernel) (pa_cons (pv 0) pa_nil)) (nomark _)) (pss_one (ps_ret (pe_ix (kb_ix K) (pv 0) (pv 1) (fun _ _ => rfl)))) pss_nil)
        (pss_one (ps_ret pe_int))), ?_⟩
    apply k_seqI; walk_at "go"
    refine if_dec (fun hk => ?_) (fun hk => ?_)
    · walk_at "go"
      rw [List.length_map] at hk
      have e : ((ns.map V.int)[k.toNat]?) = some (V.int (ns.getD k.toNat 0)) := by
        rw [List.getElem?_map, List.getElem?_eq_getElem (show k.toNat < ns.length by omega), List.getD_eq_getElem?_getD, List.getElem?_eq_getElem (show k.toNat < ns.length by omega)]
        rfl
      exact k_ixL hS (at_of (show k = ((k.toNat : Nat) : Int) by omega) e) q
    · walk_at "go"
      rw [List.length_map] at hk
      have e : ns.getD k.toNat 0 = 0 := by
        rw [List.getD_eq_getElem?_getD, List.getElem?_eq_none (by omega)]; rfl
      rw [e] at q
      exact q
theorem sm_getD {ns : List Int} {n : Nat} (hb : ∀ z ∈ ns, Builtin.Int.intBits z ≤ n) (k : Nat) : Sm n (ns.getD k 0) := by
  rw [List.getD_eq_getElem?_getD]
  by_cases h : k < ns.length
  · rw [List.getElem?_eq_getElem h]; exact sm_bits (hb _ (List.getElem_mem h))
  · rw [List.getElem?_eq_none (by omega)]; exact ⟨Nat.pow_pos (by decide)⟩
theorem k_cell {H : Hp} {Q : VK} {E : XK} {a : Addr} {ns : List Int} {k : Int} (hb : ∀ z ∈ ns, Builtin.Int.intBits z ≤ 1048576) (hS : SqL K H a (ns.map V.int)) (h0 : 0 ≤ k)
    (q : ∀ c, c = ns.getD k.toNat 0 → Sm 1048576 c → Q (.int c) H) : sp_Lcell_at K [.ref a, .int k] H Q E := ⟨a, ns, k, rfl, hS, h0, q _ rfl (sm_getD hb _)⟩
local macro_rules | `(tactic| walk_at "st") => `(tactic| first | ((with_reducible apply k_cell); (· assumption); (· walk_at "hp"); (· first | decide | omega); intro c hc hm) | fail)

/-! ### _law_part -/
def sp_Lpart (K : PySem.W.Frag) : Sp := fun vs H Q _ => ∃ c m : Int, vs = [.int c, .int m] ∧ 1 ≤ m ∧ m ≤ 1000 ∧ ∀ n : Nat, 1 ≤ n → n < 10 ^ 60 → Q (.int (n : Int)) H
theorem ok_Lpart (T : Txt K mg) : FnOk P w K mg base CX0 1 T.a_Lpart T.fd_Lpart ["_law_cell", "_law_most"] (sp_Lpart K) := by
  refine T.F_Lpart.ok sc_Lpart (fun vs H Q E h => ?_) (fun cdv A outer s H vs Q E hr h => ?_)
  · obtain ⟨_, _, rfl, _⟩ := h; rfl
  · obtain ⟨c, m, rfl, m0, m1, q⟩ := h
    have hu := hr.units
    have e60 : (10 : Nat) ^ 60 = 1000000000000000000000000000000000000000000000000000000000000 := by decide +kernel
    have q : ∀ z : Int, 1 ≤ z → z < 1000000000000000000000000000000000000000000000000000000000000 → Q (.int z) H := fun z h1 h2 => by
      have := q z.toNat (by omega) (by rw [e60]; omega)
      rw [show ((z.toNat : Nat) : Int) = z by omega] at this
      exact this
    refine ⟨_, (pss_cons (ps_if (pt_cmpR (kb_eq K (hu := hu)) (pe_op op_mod (pv 0) pe_int) pe_int (nomark _)) (pss_one (ps_ret (pe_op op_addA pe_int (pe_op op_mod (pe_op op_fdivW (pv 0) pe_int) pe_int)))) pss_nil)
        (pss_cons (ps_if (pt_cmpR (kb_eq K (hu := hu)) (pe_op op_mod (pv 0) pe_int) pe_int (nomark _)) (pss_one (ps_ret (pe_op op_addA pe_int (pe_op op_mod (pe_op op_fdivW (pv 0) pe_int) (pe_op op_sub (pe_powc (n := 1000000000000000000000000000000000000000000000000000000000000) (by decide +kernel)) pe_int))))) pss_nil)
        (pss_one (ps_ret (pe_op op_addA pe_int (pe_op op_mod (pe_op op_fdivW (pv 0) pe_int) (pv 1))))))), ?_⟩
    have n0 := Int.emod_nonneg (c / 6) (show m ≠ 0 by omega)
    have n1 := Int.emod_lt_of_pos (c / 6) (show 0 < m by omega)
    with_reducible apply k_seqI
    walk_at "go"
    refine if_dec (fun h => ?_) (fun h => ?_)
    · walk_at "go"
      exact q _ (by omega) (by omega)
    walk_at "go"
    with_reducible apply k_seqI
    walk_at "go"
    refine if_dec (fun h => ?_) (fun h => ?_)
    · walk_at "go"
      exact q _ (by omega) (by omega)
    walk_at "go"
    exact q _ (by omega) (by omega)
theorem k_Lpart {K : PySem.W.Frag} {H : Hp} {Q : VK} {E : XK} {c m : Int} (m0 : 1 ≤ m) (m1 : m ≤ 1000) (q : ∀ n : Nat, 1 ≤ n → n < 10 ^ 60 → Q (.int (n : Int)) H) : sp_Lpart K [.int c, .int m] H Q E := ⟨c, m, rfl, m0, m1, q⟩

/-! ### _law_two -/
theorem lit_0s : ("0" : Str) = SX.S [48] := by decide +kernel
def sp_Ltwo (K : PySem.W.Frag) : Sp := fun vs H Q _ => ∃ n : Nat, vs = [.int (n : Int)] ∧ n < 10 ^ 60 ∧ Q (.str (SX.S (two n))) H
theorem ok_Ltwo (T : Txt K mg) : FnOk P w K mg base CX0 1 T.a_Ltwo T.fd_Ltwo ["_law_number"] (sp_Ltwo K) := by
  refine T.F_Ltwo.ok sc_Ltwo (fun vs H Q E h => ?_) (fun cdv A outer s H vs Q E hr h => ?_)
  · obtain ⟨_, rfl, _⟩ := h; rfl
  · obtain ⟨n, rfl, hn, q⟩ := h
    have hu := hr.units
    have hl := numL_lenle hn
    have sn : Sm 400 (n : Int) := ⟨by rw [Int.natAbs_natCast]; exact Nat.lt_trans hn (by decide +kernel)⟩
    refine ⟨_, (pss_cons (ps_set (i := 1) sc_Ltwo.nd rfl (Or.inl rfl) (pe_callTy cb_str (by rfl) T.n_str (by decide +kernel) (pa_cons (pv 0) pa_nil)))
        (pss_cons (ps_if (pt_cmpR op_lt (pe_callB (kb_len K) (by rfl) T.n_len (by decide +kernel) (pa_cons (pv 1) pa_nil)) pe_int (nomark _)) (pss_one (ps_ret (pe_op op_addA pe_str (pv 1)))) pss_nil)
        (pss_one (ps_ret (pv 1))))), ?_⟩
    walk_at "go"
    rw [num_numS (n : Int), numS_nn (show (0 : Int) ≤ (n : Int) by omega), Int.toNat_natCast]
    have hl7 : (SX.S (TL.numL n)).length ≤ 10000000 := by rw [SX.S_len]; omega
    walk_at "go"
    with_reducible apply k_seqI
    walk_at "go"
    rw [SX.S_len]
    refine if_dec (fun h => ?_) (fun h => ?_)
    · have h10 : n < 10 := by
        by_cases z : n < 10
        · exact z
        · have := numL_two (show 10 ≤ n by omega); omega
      walk_at "go"
      rw [lit_0s]
      refine k_addS (by simp; omega) ?_
      unfold two at q
      rw [if_pos h10] at q
      exact q
    · have h10 : ¬ n < 10 := fun z => by rw [TL.numL_lt z] at h; simp at h
      walk_at "go"
      unfold two at q
      rw [if_neg h10] at q
      exact q
theorem k_Ltwo {K : PySem.W.Frag} {H : Hp} {Q : VK} {E : XK} {n : Nat} (hn : n < 10 ^ 60) (q : Q (.str (SX.S (two n))) H) : sp_Ltwo K [.int (n : Int)] H Q E := ⟨n, rfl, hn, q⟩

/-! ### are_figures -/
def sp_are_figures (K : PySem.W.Frag) : Sp := fun vs H Q _ => ∃ l : List Nat, vs = [.str (SX.S l)] ∧ l.length ≤ 1000000 ∧ ∀ H', Same H H' → Q (.bl (figs l)) H'
theorem ok_are_figures (T : Txt K mg) : FnOk P w K mg base CX0 1 T.a_are_figures T.fd_are_figures ["text"] (sp_are_figures K) := by
  refine T.F_are_figures.ok sc_are_figures (fun vs H Q E h => ?_) (fun cdv A outer s H vs Q E hr h => ?_)
  · obtain ⟨_, rfl, _⟩ := h; rfl
  · obtain ⟨l, rfl, hl, q⟩ := h
    have hu := hr.units
    have hl7 : (SX.S l).length ≤ 10000000 := by rw [SX.S_len]; omega
    have ef : ∀ b : Bool, b = figs l → ∀ H', Same H H' → Q (.bl b) H' := fun b e H' s => by rw [e]; exact q H' s
    clear q
    refine ⟨_, (pss_cons (ps_if (PW.pt (pw_or (pt_cmpR op_lt (pe_callB (kb_len K) (by rfl) T.n_len (by decide +kernel) (pa_cons (pv 0) pa_nil)) pe_int (nomark _)) (pw_or1 (pt_cmpR op_gt (pe_callB (kb_len K) (by rfl) T.n_len (by decide +kernel) (pa_cons (pv 0) pa_nil)) (pe_glob (v := (.int 60)) rfl T.c_MOST_FIGURES ⟨_, rfl⟩) (nomark _))))) (pss_one (ps_ret pe_bl)) pss_nil)
        (pss_one (ps_ret (pe_callB (kb_all K (hc := rfl)) (by rfl) T.n_all (by decide +kernel) (pa_cons (pe_lc (own := [("sign", 1)]) (g := gName 1) (tt := tYes) rfl sc_are_figures.nd (pi_str (pv 0)) (blkOk_by (N := ["text", "sign"]) (sc := defScope s_are_figures) (by decide +kernel)) (fun _ _ _ _ _ => pg_name (i := 1) sc_are_figures.nd rfl (Or.inl rfl)) (fun _ _ _ _ _ => pts_nil) (fun _ _ _ _ _ => (pe_cmpR kb_sgn (pv 1) (pe_glob (v := (.str "0123456789")) rfl T.c_FIGURES ⟨_, rfl⟩) (by rfl)))) pa_nil))))), ?_⟩
    with_reducible apply k_seqI
    refine or_split (¬ (1 ≤ l.length ∧ l.length ≤ 60)) (fun hb => ?_) (fun hg => ?_) fun R' h1 h2 => ?_
    · walk_at "go"
      refine ef _ ?_ _ (Same.refl _)
      unfold figs
      by_cases g1 : 1 ≤ l.length
      · rw [decide_eq_true g1, decide_eq_false (show ¬ l.length ≤ 60 by omega)]; rfl
      · rw [decide_eq_false g1]; rfl
    · obtain ⟨g1, g2⟩ := Classical.not_not.mp hg
      walk_at "go"
      refine k_lcs ((l.map dig).map V.bl) (by simp) (by omega) (fun i c v H2 R hc hv s2 hR => ?_) fun D H2 hD s2 t2 => ?_
      · rw [List.getElem?_map, List.getElem?_map, hc] at hv
        cases hv
        walk_at "go"
        rw [fig_mem]
        exact hR _ (Same.refl _)
      · walk_at "go"
        refine k_all (SqL.of t2) (ef _ ?_ _ s2)
        unfold figs
        rw [decide_eq_true g1, decide_eq_true g2, List.all_map]; rfl
    · walk_at "go"
      rw [SX.S_len]
      refine if_dec (fun h => h1 fun g => by omega) (fun h => ?_)
      walk_at "go"
      rw [SX.S_len]
      exact dec_two (R := fun b => R' b H) (fun h => h1 fun g => by omega) (fun h' => h2 fun g => g ⟨by omega, by omega⟩)
theorem k_are_figures {K : PySem.W.Frag} {H : Hp} {Q : VK} {E : XK} {l : List Nat} (hl : l.length ≤ 1000000) (q : ∀ H', Same H H' → Q (.bl (figs l)) H') : sp_are_figures K [.str (SX.S l)] H Q E := ⟨l, rfl, hl, q⟩

/-! ### read_number -/
def sp_read_number (K : PySem.W.Frag) (T : Txt K mg) : Sp := fun vs H Q E => ∃ v, vs = [v] ∧ ((NoStr K H v ∧ ∀ H', Same H H' → E (.ref T.C_NoText) none H') ∨ ∃ l, v = .str (SX.S l) ∧ l.length ≤ 1000000 ∧ (goodN l = true → ∀ H', Same H H' → Q (.int (numN l)) H') ∧ (goodN l = false → ∀ H', Same H H' → E (.ref T.C_NoText) none H'))
theorem ok_read_number (T : Txt K mg) : FnOk P w K mg base (L2.CX P w) 2 T.a_read_number T.fd_read_number ["text"] (sp_read_number K T) := by
  refine T.F_read_number.okX sc_read_number (fun vs H Q E h => ?_) (fun cdv A outer s H vs Q E hr h => ?_)
  · obtain ⟨_, rfl, _⟩ := h; rfl
  · obtain ⟨v, rfl, h⟩ := h
    have hu := hr.units
    refine ⟨_, (pss_cons (ps_if (pt_not (pt_val (pe_callB (kb_isi K) (by rfl) T.n_isinstance (by decide +kernel) (pa_cons (pv 0) (pa_cons (pe_bltn (v := .ty "str") (by rfl) T.n_str (by decide +kernel) rfl) pa_nil))))) (pss_one (ps_raise rfl (takes_of rfl rfl rfl rfl) (pmk_own PySem.F.excBase_ValueError T.x_NoText T.gc_NoText T.kc_NoText (raises_own T.bc_NoText T.tc_NoText) rfl))) pss_nil)
        (pss_cons (ps_set (i := 1) sc_read_number.nd rfl (Or.inl rfl) (pv 0))
        (pss_cons (ps_if (pt_val (pe_m1 PySem.F.slot_str_startswith PySem.F.type_str_startswith mt_starts (pv 0) pe_str)) (pss_one (ps_set (i := 1) sc_read_number.nd rfl (Or.inl rfl) (pe_slice sl_str (pv 0) (po_some pe_int) po_none))) pss_nil)
        (pss_cons (ps_if (pt_not (pt_val (pe_call (ok_are_figures T) (hr.mono (by decide)) (by rfl) T.g_are_figures T.F_are_figures.kp T.b_are_figures .nil pass0 (pa_cons (pv 1) pa_nil)))) (pss_one (ps_raise rfl (takes_of rfl rfl rfl rfl) (pmk_own PySem.F.excBase_ValueError T.x_NoText T.gc_NoText T.kc_NoText (raises_own T.bc_NoText T.tc_NoText) rfl))) pss_nil)
        (pss_cons (ps_if (PW.pt (pw_and (pt_cmpR (kb_eq K (hu := hu)) (pe_ix (kb_ix K) (pv 1) pe_int (fun _ _ => rfl)) pe_str (nomark _)) (pw_and1 (pt_cmpR (kb_ne K (hu := hu)) (pv 0) pe_str (nomark _))))) (pss_one (ps_raise rfl (takes_of rfl rfl rfl rfl) (pmk_own PySem.F.excBase_ValueError T.x_NoText T.gc_NoText T.kc_NoText (raises_own T.bc_NoText T.tc_NoText) rfl))) pss_nil)
        (PSs.nox (pss_one (ps_ret (pe_callTy cb_intT (by rfl) T.n_int (by decide +kernel) (pa_cons (pv 0) pa_nil)))))))))), ?_⟩
    rcases h with ⟨hn, q⟩ | ⟨l, rfl, hl, q1, q0⟩
    · with_reducible apply k_seqI
      walk_at "go"
      exact q _ (Same.refl _)
    · have hl7 : (SX.S l).length ≤ 10000000 := by rw [SX.S_len]; omega
      with_reducible apply k_seqI
      walk_at "go"
      with_reducible refine k_cutI (fun σ' H' => H = H' ∧ σ' = [some (.str (SX.S l)), some (.str (SX.S (unS l)))]) (fun N hN => ?_) ?_
      · walk_at "go"
        rw [starts_minus]
        refine if_dec (fun h => ?_) (fun h => ?_)
        · walk_at "go"
          refine hN _ _ ⟨rfl, ?_⟩
          have e : cutS (SX.S l) (some 1) none = SX.S (unS l) := by
            unfold unS
            rw [if_pos h, ← List.drop_one]
            exact cut_from l 1
          rw [← e]; rfl
        · walk_at "go"
          refine hN _ _ ⟨rfl, ?_⟩
          have e : unS l = l := by unfold unS; rw [if_neg h]
          rw [e]; rfl
      rintro σ1 _ ⟨rfl, rfl⟩
      have hul : (unS l).length ≤ 1000000 := by
        rcases unS_cases l with ⟨_, e⟩ | ⟨_, e⟩
        · have : l.length = (45 :: unS l).length := congrArg List.length e
          rw [List.length_cons] at this; omega
        · rw [e]; exact hl
      with_reducible apply k_seqI
      walk_at "go"
      refine k_are_figures hul fun H1 s1 => ?_
      walk_at "go"
      cases hf : figs (unS l) with
      | false =>
        walk_at "run"
        exact q0 (by unfold goodN; rw [hf]; rfl) _ s1
      | true =>
        obtain ⟨f1, f2, f3⟩ := figs_all hf
        have hg : ∀ b : Bool, b = (decide ((unS l).head? = some 48) && !decide (l = [48])) → goodN l = !b := fun b e => by unfold goodN; rw [hf, e]; rfl
        have hh : (unS l).head? = some ((unS l).headD 0) := by cases h : unS l with
          | nil => rw [h] at f1; simp at f1
          | cons c r => rfl
        walk_at "go"
        with_reducible apply k_seqI
        refine and_split ((unS l).head? = some 48 ∧ l ≠ [48]) (fun h => ?_) (fun h => ?_) fun R' h1 h2 => ?_
        · walk_at "go"
          exact q0 (by rw [hg true (by rw [decide_eq_true h.1, decide_eq_false h.2]; rfl)]; rfl) _ s1
        · walk_at "go"
          obtain ⟨i1, i2⟩ := int_good hf
          refine k_intT i1 i2 ?_
          walk_at "go"
          refine q1 ?_ _ s1
          rw [hg false ?_]; · rfl
          by_cases a1 : (unS l).head? = some 48
          · have a2 : l = [48] := Classical.not_not.mp fun z => h ⟨a1, z⟩
            rw [decide_eq_true a2, Bool.not_true, Bool.and_false]
          · rw [decide_eq_false a1]; rfl
        · walk_at "go"
          refine k_ixS (i := 0) (by omega) (head_of (c := 0) f1) ?_
          walk_at "go"
          rw [lit_0, dec_S]
          refine if_dec (fun a1 => ?_) (fun a1 => h2 fun z => a1 (by have := z.1; rw [hh] at this; rw [Option.some.inj this]))
          walk_at "go"
          rw [dec_S]
          exact dec_twoN (R := fun b => R' b H1) (fun a2 => h2 fun z => z.2 a2) (fun a2 => h1 ⟨by rw [hh, (List.cons.inj a1).1], a2⟩)
theorem k_read_number {T : Txt K mg} {H : Hp} {Q : VK} {E : XK} {l : List Nat} (hl : l.length ≤ 1000000) (q1 : goodN l = true → ∀ H', Same H H' → Q (.int (numN l)) H') (q0 : goodN l = false → ∀ H', Same H H' → E (.ref T.C_NoText) none H') : sp_read_number K T [.str (SX.S l)] H Q E := ⟨_, rfl, .inr ⟨l, rfl, hl, q1, q0⟩⟩
theorem k_read_number0 {T : Txt K mg} {H : Hp} {Q : VK} {E : XK} {v : V} (hn : NoStr K H v) (q0 : ∀ H', Same H H' → E (.ref T.C_NoText) none H') : sp_read_number K T [v] H Q E := ⟨_, rfl, .inl ⟨hn, q0⟩⟩

/-! ### read_part -/
def sp_read_part (K : PySem.W.Frag) (T : Txt K mg) : Sp := fun vs H Q E => ∃ l, vs = [.str (SX.S l)] ∧ l.length ≤ 1000000 ∧ (goodP l = true → ∀ H', Same H H' → Q (.int (valF l : Nat)) H') ∧ (goodP l = false → ∀ H', Same H H' → E (.ref T.C_NoText) none H')
theorem ok_read_part (T : Txt K mg) : FnOk P w K mg base (L2.CX P w) 2 T.a_read_part T.fd_read_part ["text"] (sp_read_part K T) := by
  refine T.F_read_part.okX sc_read_part (fun vs H Q E h => ?_) (fun cdv A outer s H vs Q E hr h => ?_)
  · obtain ⟨_, rfl, _⟩ := h; rfl
  · obtain ⟨l, rfl, hl, q1, q0⟩ := h
    have hu := hr.units
    have hl7 : (SX.S l).length ≤ 10000000 := by rw [SX.S_len]; omega
    have q0 : ¬ (goodP l = true) → ∀ H', Same H H' → E (.ref T.C_NoText) none H' := fun h => q0 (by simpa using h)
    refine ⟨_, (pss_cons (ps_if (PW.pt (pw_or (pt_not (pt_val (pe_call (ok_are_figures T) (hr.mono (by decide)) (by rfl) T.g_are_figures T.F_are_figures.kp T.b_are_figures .nil pass0 (pa_cons (pv 0) pa_nil)))) (pw_or1 (pt_cmpR op_lt (pe_callB (kb_len K) (by rfl) T.n_len (by decide +kernel) (pa_cons (pv 0) pa_nil)) pe_int (nomark _))))) (pss_one (ps_raise rfl (takes_of rfl rfl rfl rfl) (pmk_own PySem.F.excBase_ValueError T.x_NoText T.gc_NoText T.kc_NoText (raises_own T.bc_NoText T.tc_NoText) rfl))) pss_nil)
        (pss_cons (ps_if (PW.pt (pw_and (pt_cmpR (kb_eq K (hu := hu)) (pe_ix (kb_ix K) (pv 0) pe_int (fun _ _ => rfl)) pe_str (nomark _)) (pw_and1 (PW.pt (pw_or (pt_cmpR op_gt (pe_callB (kb_len K) (by rfl) T.n_len (by decide +kernel) (pa_cons (pv 0) pa_nil)) pe_int (nomark _)) (pw_or1 (pt_cmpR (kb_eq K (hu := hu)) (pv 0) pe_str (nomark _)))))))) (pss_one (ps_raise rfl (takes_of rfl rfl rfl rfl) (pmk_own PySem.F.excBase_ValueError T.x_NoText T.gc_NoText T.kc_NoText (raises_own T.bc_NoText T.tc_NoText) rfl))) pss_nil)
        (PSs.nox (pss_one (ps_ret (pe_callTy cb_intT (by rfl) T.n_int (by decide +kernel) (pa_cons (pv 0) pa_nil))))))), ?_⟩
    with_reducible apply k_seqI
    refine or_splitH (¬ (figs l = true ∧ 2 ≤ l.length)) (fun H' => Same H H') (fun H1 s1 hb => ?_) (fun H1 s1 hg => ?_) fun R' h1 h2 => ?_
    · walk_at "go"
      exact q0 (fun g => hb ⟨(goodP_iff.mp g).1, (goodP_iff.mp g).2.1⟩) _ s1
    · obtain ⟨hf, h2l⟩ := Classical.not_not.mp hg
      obtain ⟨f1, f2, f3⟩ := figs_dig hf
      have hh : l.head? = some (l.headD 0) := by cases h : l with
        | nil => rw [h] at f1; simp at f1
        | cons c r => rfl
      walk_at "go"
      with_reducible apply k_seqI
      refine and_split (l.head? = some 48 ∧ ¬ (l.length ≤ 2 ∧ l ≠ [48, 48])) (fun h => ?_) (fun h => ?_) fun R' h1 h2 => ?_
      · walk_at "go"
        exact q0 (fun g => by
          rcases (goodP_iff.mp g).2.2 with z | z
          · exact z h.1
          · exact h.2 z) _ s1
      · have hgood : goodP l = true := goodP_iff.mpr ⟨hf, h2l, by
          by_cases z : l.head? = some 48
          · exact .inr (Classical.not_not.mp fun z2 => h ⟨z, z2⟩)
          · exact .inl z⟩
        walk_at "go"
        refine k_intT (n := (valF l : Nat)) (intText_digits (x := SX.S l) (fun c hc => dig_iff.mp (List.all_eq_true.mp f3 c hc)) (fun e => by rw [show (SX.S l).cps.toList = l from rfl] at e; rw [e] at f1; simp at f1) (by rw [SX.S_len]; omega)) (by rw [SX.S_len]; omega) ?_
        exact q1 hgood _ s1
      · walk_at "go"
        refine k_ixS (i := 0) (by omega) (head_of (c := 0) f1) ?_
        walk_at "go"
        rw [lit_0, dec_S]
        refine if_dec (fun a1 => ?_) (fun a1 => h2 fun z => a1 (by have := z.1; rw [hh] at this; rw [Option.some.inj this]))
        have a1 : l.head? = some 48 := by rw [hh, (List.cons.inj a1).1]
        refine or_split (¬ (l.length ≤ 2 ∧ l ≠ [48, 48])) (fun hb => h1 ⟨a1, hb⟩) (fun hg => h2 fun z => hg z.2) fun R2 g1 g2 => ?_
        walk_at "go"
        rw [SX.S_len]
        refine if_dec (fun h => g1 fun z => by omega) (fun h => ?_)
        walk_at "go"
        rw [lit_00, dec_S]
        exact dec_two (R := fun b => R2 b H1) (fun h => g1 fun z => z.2 h) (fun h' => g2 fun z => z ⟨by omega, h'⟩)
    · walk_at "go"
      refine k_are_figures hl fun H1 s1 => ?_
      walk_at "go"
      cases hf : figs l with
      | false => exact h1 _ s1 fun z => by rw [hf] at z; exact absurd z.1 (by decide)
      | true =>
        walk_at "go"
        rw [SX.S_len]
        exact dec_two (R := fun b => R' b H1) (fun h => h1 _ s1 fun z => by omega) (fun h' => h2 _ s1 fun g => g ⟨hf, by omega⟩)
theorem k_read_part {T : Txt K mg} {H : Hp} {Q : VK} {E : XK} {l : List Nat} (hl : l.length ≤ 1000000) (q1 : goodP l = true → ∀ H', Same H H' → Q (.int (valF l : Nat)) H') (q0 : goodP l = false → ∀ H', Same H H' → E (.ref T.C_NoText) none H') : sp_read_part K T [.str (SX.S l)] H Q E := ⟨l, rfl, hl, q1, q0⟩

/-! ### read_date -/
def sp_read_date (K : PySem.W.Frag) (T : Txt K mg) : Sp := fun vs H Q E => ∃ v, vs = [v] ∧ ((NoStr K H v ∧ ∀ H', Same H H' → E (.ref T.C_NoText) none H') ∨ ∃ l, v = .str (SX.S l) ∧ l.length ≤ 1000000 ∧
  (goodD l = true → ∀ p H', Same H H' → H p = none → H' p = some (.tup [.int (dateN l).1, .int (dateN l).2.1, .int (dateN l).2.2]) → Q (.ref p) H') ∧ (goodD l = false → ∀ H', Same H H' → E (.ref T.C_NoText) none H'))
theorem ok_read_date (T : Txt K mg) : FnOk P w K mg base (L2.CX P w) 3 T.a_read_date T.fd_read_date ["text"] (sp_read_date K T) := by
  refine T.F_read_date.okX sc_read_date (fun vs H Q E h => ?_) (fun cdv A outer s H vs Q E hr h => ?_)
  · obtain ⟨_, rfl, _⟩ := h; rfl
  · obtain ⟨v, rfl, h⟩ := h
    have hu := hr.units
    refine ⟨_, (pss_cons (ps_if (pt_not (pt_val (pe_callB (kb_isi K) (by rfl) T.n_isinstance (by decide +kernel) (pa_cons (pv 0) (pa_cons (pe_bltn (v := .ty "str") (by rfl) T.n_str (by decide +kernel) rfl) pa_nil))))) (pss_one (ps_raise rfl (takes_of rfl rfl rfl rfl) (pmk_own PySem.F.excBase_ValueError T.x_NoText T.gc_NoText T.kc_NoText (raises_own T.bc_NoText T.tc_NoText) rfl))) pss_nil)
        (pss_cons (ps_set (i := 1) sc_read_date.nd rfl (Or.inl rfl) (pe_m1 PySem.F.slot_str_split PySem.F.type_str_split mt_splitV (pv 0) pe_str))
        (pss_cons (ps_if (pt_cmpR (kb_ne K (hu := hu)) (pe_callB (kb_len K) (by rfl) T.n_len (by decide +kernel) (pa_cons (pv 1) pa_nil)) pe_int (nomark _)) (pss_one (ps_raise rfl (takes_of rfl rfl rfl rfl) (pmk_own PySem.F.excBase_ValueError T.x_NoText T.gc_NoText T.kc_NoText (raises_own T.bc_NoText T.tc_NoText) rfl))) pss_nil)
        (pss_one (ps_ret (pe_tup (pa_cons (pe_callS (ok_read_number T) (hr.mono (by decide)) (by rfl) T.g_read_number T.F_read_number.kp T.b_read_number (fun σ => passAt (takes_of rfl rfl rfl rfl) σ) (pa_cons (pe_ix (kb_ix K) (pv 1) pe_int (fun _ _ => rfl)) pa_nil)) (pa_cons (pe_callS (ok_read_part T) (hr.mono (by decide)) (by rfl) T.g_read_part T.F_read_part.kp T.b_read_part (fun σ => passAt (takes_of rfl rfl rfl rfl) σ) (pa_cons (pe_ix (kb_ix K) (pv 1) pe_int (fun _ _ => rfl)) pa_nil)) (pa_cons (pe_callS (ok_read_part T) (hr.mono (by decide)) (by rfl) T.g_read_part T.F_read_part.kp T.b_read_part (fun σ => passAt (takes_of rfl rfl rfl rfl) σ) (pa_cons (pe_ix (kb_ix K) (pv 1) pe_int (fun _ _ => rfl)) pa_nil)) pa_nil))))))))), ?_⟩
    rcases h with ⟨hn, q⟩ | ⟨l, rfl, hl, q1, q0⟩
    · with_reducible apply k_seqI
      walk_at "go"
      exact q _ (Same.refl _)
    · have hl7 : (SX.S l).length ≤ 10000000 := by rw [SX.S_len]; omega
      have q0 : ¬ (goodD l = true) → ∀ H', Same H H' → E (.ref T.C_NoText) none H' := fun h => q0 (by simpa using h)
      walk_at "run"
      refine k_split (s := 47) lit_slash (by decide) hl fun p H1 hp s1 t1 => ?_
      walk_at "go"
      with_reducible apply k_seqI
      walk_at "go"
      rw [List.length_map, List.length_map]
      refine if_ndec (fun h => ?_) (fun h => ?_)
      · refine q0 (fun g => ?_) _ s1
        obtain ⟨a, b, c, e, _⟩ := goodD_cases g
        rw [e] at h; exact h rfl
      · obtain ⟨a, b, c, e⟩ : ∃ a b c, splitC 47 l = [a, b, c] := by
          match hsp : splitC 47 l, h with
          | [a, b, c], _ => exact ⟨a, b, c, rfl⟩
          | [], h => simp at h
          | [_], h => simp at h
          | [_, _], h => simp at h
          | _ :: _ :: _ :: _ :: r, h => simp at h; omega
        have mem : ∀ x ∈ [a, b, c], x.length ≤ 1000000 := fun x hx => by
          rw [← e] at hx
          have := splitC_mem hx; omega
        have ha := mem a (by simp)
        have hb := mem b (by simp)
        have hc := mem c (by simp)
        have t1' : H1 p = some (.lst [.str (SX.S a), .str (SX.S b), .str (SX.S c)]) := by rw [t1, e]; rfl
        have ed := goodD_of e
        walk_at "go"
        refine k_read_number ha (fun ga H2 s2 => ?_) (fun ga H2 s2 => q0 (by rw [ed, ga]; simp) _ (s1.trans s2))
        have t2 := s2 _ _ t1'
        walk_at "go"
        refine k_read_part hb (fun gb H3 s3 => ?_) (fun gb H3 s3 => q0 (by rw [ed, gb]; simp) _ ((s1.trans s2).trans s3))
        have t3 := s3 _ _ t2
        walk_at "go"
        refine k_read_part hc (fun gc H4 s4 => ?_) (fun gc H4 s4 => q0 (by rw [ed, gc]; simp) _ (((s1.trans s2).trans s3).trans s4))
        have s14 := ((s1.trans s2).trans s3).trans s4
        walk_at "go"
        rename_i p5 H5 hn5 s5 t5
        refine q1 (by rw [ed, ga, gb, gc]; rfl) p5 H5 (s14.trans s5) ?_ (by rw [dateN_of e]; exact t5)
        cases hh : H p5 with
        | none => rfl
        | some o => rw [s14 _ _ hh] at hn5; cases hn5
theorem k_read_date {T : Txt K mg} {H : Hp} {Q : VK} {E : XK} {l : List Nat} (hl : l.length ≤ 1000000) (q1 : goodD l = true → ∀ p H', Same H H' → H p = none → H' p = some (.tup [.int (dateN l).1, .int (dateN l).2.1, .int (dateN l).2.2]) → Q (.ref p) H') (q0 : goodD l = false → ∀ H', Same H H' → E (.ref T.C_NoText) none H') : sp_read_date K T [.str (SX.S l)] H Q E := ⟨_, rfl, .inr ⟨l, rfl, hl, q1, q0⟩⟩
theorem k_read_date0 {T : Txt K mg} {H : Hp} {Q : VK} {E : XK} {v : V} (hn : NoStr K H v) (q0 : ∀ H', Same H H' → E (.ref T.C_NoText) none H') : sp_read_date K T [v] H Q E := ⟨_, rfl, .inl ⟨hn, q0⟩⟩

/-! ### _law_whole -/
def sp_Lwhole (K : PySem.W.Frag) : Sp := fun vs H Q _ => ∃ i, vs = [.int i] ∧ Q (.bl true) H
theorem ok_Lwhole (T : Txt K mg) : FnOk P w K mg base CX0 1 T.a_Lwhole T.fd_Lwhole ["_law_found"] (sp_Lwhole K) := by
  refine T.F_Lwhole.ok sc_Lwhole (fun vs H Q E h => ?_) (fun cdv A outer s H vs Q E hr h => ?_)
  · obtain ⟨_, rfl, _⟩ := h; rfl
  · obtain ⟨i, rfl, q⟩ := h
    refine ⟨_, (pss_one (ps_ret (pe_and (pe_callB (kb_isi K) (by rfl) T.n_isinstance (by decide +kernel) (pa_cons (pv 0) (pa_cons (pe_bltn (v := .ty "int") (by rfl) T.n_int (by decide +kernel) rfl) pa_nil))) (pe_one (pe_not (pe_callB (kb_isi K) (by rfl) T.n_isinstance (by decide +kernel) (pa_cons (pv 0) (pa_cons (pe_bltn (v := .ty "bool") (by rfl) T.n_bool (by decide +kernel) rfl) pa_nil)))))))), ?_⟩
    walk_at "go"
    exact q
theorem k_whole {H : Hp} {Q : VK} {E : XK} {i : Int} (q : Q (.bl true) H) : sp_Lwhole K [.int i] H Q E := ⟨i, rfl, q⟩
local macro_rules | `(tactic| walk_at "st") => `(tactic| first | (with_reducible apply k_whole) | fail)

/-! ### _law_read -/
def sp_Lread (K : PySem.W.Frag) : Sp := fun vs H Q _ => ∃ v, vs = [v] ∧ ((NoStr K H v ∧ ∀ H', Same H H' → Q .non H') ∨ ∃ l, v = .str (SX.S l) ∧ l.length ≤ 1000000 ∧
  (goodD l = true → ∀ p H', Same H H' → H' p = some (.tup [.int (dateN l).1, .int (dateN l).2.1, .int (dateN l).2.2]) → Q (.ref p) H') ∧ (¬ goodD l = true → ∀ H', Same H H' → Q .non H'))
theorem k_wholeL {K : PySem.W.Frag} {σ : L2.St} {H : Hp} {Q : VK} {j : Nat} {i : Int} (hj : j < σ.length) (q : Q (.bl true) H) : tCall (sp_Lwhole K) [] E0 (tCons (tVar j) tNil) (σ.set j (some (.int i))) H Q :=
  k_call (k_cons (k_var (v := .int i) (by rw [List.getElem?_set_self hj]) (k_nil (k_whole q))))
theorem ok_Lread (T : Txt K mg) : FnOk P w K mg base CX0 4 T.a_Lread T.fd_Lread ["_law_handed"] (sp_Lread K) := by
  refine T.F_Lread.ok sc_Lread (fun vs H Q E h => ?_) (fun cdv A outer s H vs Q E hr h => ?_)
  · obtain ⟨_, rfl, _⟩ := h; rfl
  · obtain ⟨v, rfl, h⟩ := h
    have hu := hr.units
    refine ⟨_, (pss_cons (ps_set (i := 1) sc_Lread.nd rfl (Or.inl rfl) pe_non)
        (pss_cons (ps_set (i := 2) sc_Lread.nd rfl (Or.inl rfl) pe_bl)
        (pss_cons (ps_try_as (i := 3) rfl rfl sc_Lread.nd rfl rfl ⟨rfl, by decide, .inl T.gc_NoText⟩ takes0 (fun W pn xe tk _ => (pss_one (ps_set (i := 1) sc_Lread.nd rfl (Or.inl rfl) (pe_callS (ok_read_date T) (hr.mono (by decide)) (by rfl) T.g_read_date T.F_read_date.kp T.b_read_date (fun σ => passAt tk σ) (pa_cons (pv 0) pa_nil))))) (fun a oe cls d pn hz hf => (pss_one (ps_set (i := 2) sc_Lread.nd rfl (Or.inl rfl) (pe_and (pe_callB (call_isC hz hf) (by rfl) T.n_isinstance (by decide +kernel) (pa_cons (pv 3) (pa_cons (pe_glob (v := .ref T.C_FeastError) rfl T.gc_FeastError rfl) pa_nil))) (pe_one (pe_not (pe_callB (call_isC hz hf) (by rfl) T.n_isinstance (by decide +kernel) (pa_cons (pv 3) (pa_cons (pe_glob (v := .ref T.C_NoDate) rfl T.gc_NoDate rfl) pa_nil))))))))))
        (pss_cons (ps_if (pt_val (pv 2)) (pss_one (ps_ret pe_non)) pss_nil)
        (pss_cons (ps_if (PW.pt (pw_or (pt_not (pt_val (pe_callB (kb_isi K) (by rfl) T.n_isinstance (by decide +kernel) (pa_cons (pv 1) (pa_cons (pe_bltn (v := .ty "tuple") (by rfl) T.n_tuple (by decide +kernel) rfl) pa_nil))))) (pw_or1 (pt_not (pt_val (pe_callB (kb_all K (hc := rfl)) (by rfl) T.n_all (by decide +kernel) (pa_cons (pe_lc (own := [("_law_part_here", 4)]) (g := gName 4) (tt := tYes) rfl sc_Lread.nd (pi_tup (pv 1)) (blkOk_by (N := ["_law_handed", "_law_found", "_law_plain", "e", "_law_part_here"]) (sc := defScope s_Lread) (by decide +kernel)) (fun _ _ _ _ _ => pg_name (i := 4) sc_Lread.nd rfl (Or.inl rfl)) (fun _ _ _ _ _ => pts_nil) (fun _ _ _ _ _ => (pe_call (ok_Lwhole T) (hr.mono (by decide)) (by rfl) T.g_Lwhole T.F_Lwhole.kp T.b_Lwhole .nil pass0 (pa_cons (pv 4) pa_nil)))) pa_nil))))))) (pss_one (ps_ret pe_str)) pss_nil)
        (pss_one (ps_ret (pv 1)))))))), ?_⟩
    rcases h with ⟨hn, q⟩ | ⟨l, rfl, hl, q1, q0⟩
    · walk_at "go"
      with_reducible apply k_seq
      show tAsg _ _ _ _ _
      walk_at "go"
      refine k_read_date0 hn fun H2 e2 => ?_
      refine ⟨true, exm_of T.bc_NoText T.ic_NoText T.tc_NoText T.sc_NoText, fun _ a0 _ => ?_, fun q => Bool.noConfusion q⟩
      walk_at "go"
      refine k_isX T.xc_NoText (.inl rfl) (fun _ h => h) (kit_of T.ic_FeastError T.tc_FeastError T.sc_FeastError T.sb_NoText_FeastError) ?_
      walk_at "go"
      refine k_isX T.xc_NoText (.inl rfl) (fun _ h => h) (kit_of T.ic_NoDate T.tc_NoDate T.sc_NoDate T.sb_NoText_NoDate) ?_
      walk_at "run"
      exact q _ e2
    · walk_at "go"
      with_reducible apply k_seq
      show tAsg _ _ _ _ _
      walk_at "go"
      refine k_read_date hl (fun g p H2 s2 hp t2 => ?_) (fun g H2 e2 => ?_)
      · walk_at "run"
        refine k_lct (xs := [.int (dateN l).1, .int (dateN l).2.1, .int (dateN l).2.2]) (SqT.of t2) [.bl true, .bl true, .bl true] rfl (by simp) (fun i x v H4 R hx hv s4 hR => ?_) fun D H4 hD s4 t4 => ?_
        · match i, hx, hv with
          | 0, hx, hv => cases hx; cases hv; exact k_wholeL (by simp [L2.start]) (hR _ (Same.refl _))
          | 1, hx, hv => cases hx; cases hv; exact k_wholeL (by simp [L2.start]) (hR _ (Same.refl _))
          | 2, hx, hv => cases hx; cases hv; exact k_wholeL (by simp [L2.start]) (hR _ (Same.refl _))
          | n + 3, hx, _ => simp at hx
        walk_at "go"
        refine k_all (l := [true, true, true]) (SqL.of t4) ?_
        rw [show ([true, true, true].all id) = true from rfl]
        walk_at "run"
        exact q1 g p H4 (s2.trans s4) (s4 _ _ t2)
      · refine ⟨true, exm_of T.bc_NoText T.ic_NoText T.tc_NoText T.sc_NoText, fun _ a0 _ => ?_, fun q => Bool.noConfusion q⟩
        walk_at "go"
        refine k_isX T.xc_NoText (.inl rfl) (fun _ h => h) (kit_of T.ic_FeastError T.tc_FeastError T.sc_FeastError T.sb_NoText_FeastError) ?_
        walk_at "go"
        refine k_isX T.xc_NoText (.inl rfl) (fun _ h => h) (kit_of T.ic_NoDate T.tc_NoDate T.sc_NoDate T.sb_NoText_NoDate) ?_
        walk_at "run"
        exact q0 (by rw [g]; decide) _ e2
theorem k_Lread {K : PySem.W.Frag} {H : Hp} {Q : VK} {E : XK} {l : List Nat} (hl : l.length ≤ 1000000) (q1 : goodD l = true → ∀ p H', Same H H' → H' p = some (.tup [.int (dateN l).1, .int (dateN l).2.1, .int (dateN l).2.2]) → Q (.ref p) H') (q0 : ¬ goodD l = true → ∀ H', Same H H' → Q .non H') : sp_Lread K [.str (SX.S l)] H Q E := ⟨_, rfl, .inr ⟨l, rfl, hl, q1, q0⟩⟩
theorem k_Lread0 {K : PySem.W.Frag} {H : Hp} {Q : VK} {E : XK} {v : V} (hn : NoStr K H v) (q0 : ∀ H', Same H H' → Q .non H') : sp_Lread K [v] H Q E := ⟨_, rfl, .inl ⟨hn, q0⟩⟩

/-! ### _law_value -/
def sp_Lvalue (K : PySem.W.Frag) : Sp := fun vs H Q _ => ∃ l : List Nat, vs = [.str (SX.S l)] ∧ l.length ≤ 1000000 ∧ (figs l = true → Q (.int (valF l : Nat)) H) ∧ (¬ figs l = true → Q .non H)
theorem ok_Lvalue (T : Txt K mg) : FnOk P w K mg base CX0 1 T.a_Lvalue T.fd_Lvalue ["_law_text"] (sp_Lvalue K) := by
  refine T.F_Lvalue.ok sc_Lvalue (fun vs H Q E h => ?_) (fun cdv A outer s H vs Q E hr h => ?_)
  · obtain ⟨_, rfl, _⟩ := h; rfl
  · obtain ⟨l, rfl, hl, q1, q0⟩ := h
    have hu := hr.units
    have hl7 : (SX.S l).length ≤ 10000000 := by rw [SX.S_len]; omega
    refine ⟨_, (pss_cons (ps_if (PW.pt (pw_or (pt_cmpR op_lt (pe_callB (kb_len K) (by rfl) T.n_len (by decide +kernel) (pa_cons (pv 0) pa_nil)) pe_int (nomark _)) (pw_or1 (pt_cmpR op_gt (pe_callB (kb_len K) (by rfl) T.n_len (by decide +kernel) (pa_cons (pv 0) pa_nil)) pe_int (nomark _))))) (pss_one (ps_ret pe_non)) pss_nil)
        (pss_cons (ps_for PassesOwn.never rfl (pi_str (pv 0)) (pg_name (i := 1) sc_Lvalue.nd rfl (Or.inl rfl)) (pss_one (ps_if (pt_cmpR kb_nsgn (pv 1) pe_str (by rfl)) (pss_one (ps_ret pe_non)) pss_nil)))
        (pss_one (ps_ret (pe_callTy cb_intT (by rfl) T.n_int (by decide +kernel) (pa_cons (pv 0) pa_nil)))))), ?_⟩
    with_reducible apply k_seqI
    refine or_split (¬ (1 ≤ l.length ∧ l.length ≤ 60)) (fun hb => ?_) (fun hg => ?_) fun R' h1 h2 => ?_
    · walk_at "go"
      refine q0 fun z => hb ?_
      obtain ⟨a, b, _⟩ := figs_dig z
      exact ⟨a, b⟩
    · obtain ⟨g1, g2⟩ := Classical.not_not.mp hg
      walk_at "go"
      with_reducible apply k_seqF
      with_reducible apply k_for
      walk_at "go"
      refine for_str (fun i σ' H' => ∃ v1 : Option V, σ' = [some (.str (SX.S l)), v1] ∧ H = H' ∧ ∀ j c, j < i → l[j]? = some c → dig c = true) ⟨_, rfl, rfl, fun j c h => by omega⟩ (fun i c σ' H' hc hW => ?_) (fun σ' H' hW => ?_)
      · obtain ⟨v1, rfl, rfl, hd⟩ := hW
        walk_at "go"
        with_reducible apply k_if
        walk_at "go"
        rw [fig_mem]
        cases hdc : dig c with
        | false =>
          walk_at "run"
          refine q0 fun z => ?_
          rw [List.all_eq_true.mp (figs_dig z).2.2 c (List.mem_of_getElem? hc)] at hdc
          cases hdc
        | true =>
          walk_at "run"
          refine ⟨_, rfl, rfl, fun j x hj hx => ?_⟩
          by_cases e : j = i
          · subst e; rw [hc] at hx; cases hx; exact hdc
          · exact hd j x (by omega) hx
      · obtain ⟨v1, rfl, rfl, hd⟩ := hW
        have hall : l.all dig = true := by
          rw [List.all_eq_true]
          intro c hc
          obtain ⟨j, hj⟩ := List.mem_iff_getElem?.mp hc
          exact hd j c (List.getElem?_eq_some_iff.mp hj).1 hj
        walk_at "go"
        refine k_intT (n := (valF l : Nat)) (intText_digits (x := SX.S l) (fun c hc => dig_iff.mp (List.all_eq_true.mp hall c hc)) (fun e => by rw [show (SX.S l).cps.toList = l from rfl] at e; rw [e] at g1; simp at g1) (by rw [SX.S_len]; omega)) (by rw [SX.S_len]; omega) ?_
        exact q1 (figs_of g1 g2 hall)
    · walk_at "go"
      rw [SX.S_len]
      refine if_dec (fun h => h1 fun g => by omega) (fun h => ?_)
      walk_at "go"
      rw [SX.S_len]
      exact dec_two (R := fun b => R' b H) (fun h => h1 fun g => by omega) (fun h' => h2 fun g => g ⟨by omega, by omega⟩)
def valO (l : List Nat) : V := if figs l = true then .int (valF l : Nat) else .non
theorem k_Lvalue {K : PySem.W.Frag} {H : Hp} {Q : VK} {E : XK} {l : List Nat} (hl : l.length ≤ 1000000) (q : Q (valO l) H) : sp_Lvalue K [.str (SX.S l)] H Q E := ⟨l, rfl, hl, fun h => by unfold valO at q; rw [if_pos h] at q; exact q, fun h => by unfold valO at q; rw [if_neg h] at q; exact q⟩

/-! ### _law_due -/
theorem cut1_minus (l : List Nat) : decide (cutS (SX.S l) none (some 1) = ("-" : Str)) = decide (l.head? = some 45) := by
  rw [show (some (1 : Int)) = some ((1 : Nat) : Int) from rfl, cut_to, lit_minus, dec_S]
  cases l with
  | nil => rfl
  | cons c r => simp
theorem inNon3 (a b c : List Nat) : inV .non [valO a, valO b, valO c] = !(figs a && figs b && figs c) ∧ [valO a, valO b, valO c].all flatV = true := by
  unfold valO
  cases ha : figs a <;> cases hb : figs b <;> cases hc : figs c <;> exact ⟨rfl, rfl⟩
theorem k_inNon {K : PySem.W.Frag} {H : Hp} {Q : VK} {p : Addr} {a b c : List Nat} (h : SqL K H p [valO a, valO b, valO c]) (q : Q (.bl (!(figs a && figs b && figs c))) H) : rIn K false .non (.ref p) H Q :=
  ⟨p, _, rfl, .inl h, rfl, (inNon3 a b c).2, by rw [(inNon3 a b c).1]; exact q⟩
theorem valO_t {l : List Nat} (h : figs l = true) : valO l = .int (valF l : Nat) := by unfold valO; rw [if_pos h]
/-- the first part, its sign taken away -/
theorem goodN_due {l : List Nat} : goodN l = true ↔ figs (unS l) = true ∧ unS l = TL.numL (valF (unS l)) ∧ ¬ (l.head? = some 45 ∧ valF (unS l) = 0) := by
  constructor
  · intro h
    obtain ⟨h1, h2⟩ := goodN_iff.mp h
    obtain ⟨f1, f2, f3⟩ := figs_dig h1
    have hne : unS l ≠ [] := fun e => by rw [e] at f1; simp at f1
    have h2' : (unS l).head? ≠ some 48 ∨ unS l = [48] := by
      rcases h2 with h | h
      · exact .inl h
      · exact .inr (by rw [h]; rfl)
    have hb := numL_back _ (unS l) rfl hne f3 h2'
    refine ⟨h1, hb.symm, fun z => ?_⟩
    rw [z.2, numL_zero] at hb
    rcases h2 with h | h
    · rw [← hb] at h; exact h rfl
    · rw [h] at z; have := z.1; simp at this
  · rintro ⟨h1, h2, h3⟩
    refine goodN_iff.mpr ⟨h1, ?_⟩
    by_cases z : valF (unS l) = 0
    · refine .inr ?_
      rcases unS_cases l with ⟨e1, e2⟩ | ⟨e1, e2⟩
      · exact absurd ⟨e1, z⟩ h3
      · rw [e2] at h2 z; rw [h2, z, numL_zero]
    · refine .inl ?_
      rw [h2]
      exact numL_h _ (by omega)
def sp_Ldue (K : PySem.W.Frag) : Sp := fun vs H Q _ => ∃ v, vs = [v] ∧ ((NoStr K H v ∧ ∀ H', Same H H' → Q .non H') ∨ ∃ l, v = .str (SX.S l) ∧ l.length ≤ 1000000 ∧
  (goodD l = true → ∀ p H', Same H H' → H' p = some (.tup [.int (dateN l).1, .int (dateN l).2.1, .int (dateN l).2.2]) → Q (.ref p) H') ∧ (¬ goodD l = true → ∀ H', Same H H' → Q .non H'))
theorem ok_Ldue (T : Txt K mg) : FnOk P w K mg base CX0 2 T.a_Ldue T.fd_Ldue ["_law_text"] (sp_Ldue K) := by
  refine T.F_Ldue.ok sc_Ldue (fun vs H Q E h => ?_) (fun cdv A outer s H vs Q E hr h => ?_)
  · obtain ⟨_, rfl, _⟩ := h; rfl
  · obtain ⟨v, rfl, h⟩ := h
    have hu := hr.units
    refine ⟨_, (pss_cons (ps_if (PW.pt (pw_or (pt_not (pt_val (pe_callB (kb_isi K) (by rfl) T.n_isinstance (by decide +kernel) (pa_cons (pv 0) (pa_cons (pe_bltn (v := .ty "str") (by rfl) T.n_str (by decide +kernel) rfl) pa_nil))))) (pw_or1 (pt_cmpR (kb_ne K (hu := hu)) (pe_m1 PySem.F.slot_str_count PySem.F.type_str_count mt_countV (pv 0) pe_str) pe_int (nomark _))))) (pss_one (ps_ret pe_non)) pss_nil)
        (pss_cons (ps_set (i := 1) sc_Ldue.nd rfl (Or.inl rfl) (pe_m1 PySem.F.slot_str_split PySem.F.type_str_split mt_splitV (pv 0) pe_str))
        (pss_cons (ps_set (i := 2) sc_Ldue.nd rfl (Or.inl rfl) pe_int)
        (pss_cons (ps_if (pt_cmpR (kb_eq K (hu := hu)) (pe_slice sl_str (pe_ix (kb_ix K) (pv 1) pe_int (fun _ _ => rfl)) po_none (po_some pe_int)) pe_str (nomark _)) (pss_cons (ps_set (i := 2) sc_Ldue.nd rfl (Or.inl rfl) (pe_un un_neg pe_int))
        (pss_one (ps_asg (pe_slice sl_str (pe_ix (kb_ix K) (pv 1) pe_int (fun _ _ => rfl)) (po_some pe_int) po_none) (pg_sub (pv 1) pe_int set_list)))) pss_nil)
        (pss_cons (ps_setLc (i := 3) (own := [("_law_part_here", 5)]) (g := gName 5) (tt := tYes) rfl sc_Ldue.nd rfl rfl (sw_true rfl rfl rfl (by decide +kernel)) (pi_list (pv 1)) (blkOk_by (N := ["_law_text", "_law_parts", "_law_sign", "_law_values", "_law_k", "_law_part_here"]) (sc := defScope s_Ldue) (by decide +kernel)) (fun _ _ _ _ _ => pg_name (i := 5) sc_Ldue.nd rfl (Or.inl rfl)) (fun _ _ _ _ _ => pts_nil) (fun _ _ _ _ _ => (pe_call (ok_Lvalue T) (hr.mono (by decide)) (by rfl) T.g_Lvalue T.F_Lvalue.kp T.b_Lvalue .nil pass0 (pa_cons (pv 5) pa_nil))))
        (pss_cons (ps_if (PW.pt (pw_or (pt_cmpR (kb_in K) pe_non (pv 3) (by rfl)) (pw_or (pt_cmpR (kb_ne K (hu := hu)) (pe_ix (kb_ix K) (pv 1) pe_int (fun _ _ => rfl)) (pe_callTy cb_str (by rfl) T.n_str (by decide +kernel) (pa_cons (pe_ix (kb_ix K) (pv 3) pe_int (fun _ _ => rfl)) pa_nil)) (nomark _)) (pw_or1 (PW.pt (pw_and (pt_cmpR (kb_eq K (hu := hu)) (pv 2) (pe_un un_neg pe_int) (nomark _)) (pw_and1 (pt_cmpR (kb_eq K (hu := hu)) (pe_ix (kb_ix K) (pv 3) pe_int (fun _ _ => rfl)) pe_int (nomark _))))))))) (pss_one (ps_ret pe_non)) pss_nil)
        (pss_cons (ps_for PassesOwn.never rfl (pi_list (pe_lst (pa_cons pe_int (pa_cons pe_int pa_nil)))) (pg_name (i := 4) sc_Ldue.nd rfl (Or.inl rfl)) (pss_one (ps_if (PW.pt (pw_or (pt_cmpR op_lt (pe_ix (kb_ix K) (pv 3) (pv 4) (fun _ _ => rfl)) pe_int (nomark _)) (pw_or1 (pt_cmpR (kb_ne K (hu := hu)) (pe_ix (kb_ix K) (pv 1) (pv 4) (fun _ _ => rfl)) (pe_call (ok_Ltwo T) (hr.mono (by decide)) (by rfl) T.g_Ltwo T.F_Ltwo.kp T.b_Ltwo .nil pass0 (pa_cons (pe_ix (kb_ix K) (pv 3) (pv 4) (fun _ _ => rfl)) pa_nil)) (nomark _))))) (pss_one (ps_ret pe_non)) pss_nil)))
        (pss_one (ps_ret (pe_tup (pa_cons (pe_op op_mulX (pv 2) (pe_ix (kb_ix K) (pv 3) pe_int (fun _ _ => rfl))) (pa_cons (pe_ix (kb_ix K) (pv 3) pe_int (fun _ _ => rfl)) (pa_cons (pe_ix (kb_ix K) (pv 3) pe_int (fun _ _ => rfl)) pa_nil))))))))))))), ?_⟩
    rcases h with ⟨hn, q⟩ | ⟨l, rfl, hl, q1, q0⟩
    · with_reducible apply k_seqI
      walk_at "go"
      exact q _ (Same.refl _)
    · have hl7 : (SX.S l).length ≤ 10000000 := by rw [SX.S_len]; omega
      with_reducible apply k_seqI
      refine or_split (l.count 47 ≠ 2) (fun hb => ?_) (fun hg => ?_) fun R' h1 h2 => ?_
      · walk_at "go"
        refine q0 (fun g => ?_) _ (Same.refl _)
        obtain ⟨a, b, c, e, _⟩ := goodD_cases g
        have := splitC_len 47 l
        rw [e] at this; simp at this; omega
      · have hc2 : l.count 47 = 2 := Classical.not_not.mp hg
        obtain ⟨a, b, c, e⟩ : ∃ a b c, splitC 47 l = [a, b, c] := by
          have := splitC_len 47 l
          rw [hc2] at this
          match hsp : splitC 47 l, this with
          | [a, b, c], _ => exact ⟨a, b, c, rfl⟩
          | [], h => simp at h
          | [_], h => simp at h
          | [_, _], h => simp at h
          | _ :: _ :: _ :: _ :: r, h => first | (simp at h; done) | (simp at h; omega)
        have mem : ∀ x ∈ [a, b, c], x.length ≤ 1000000 := fun x hx => by
          rw [← e] at hx
          have := splitC_mem hx; omega
        have ha := mem a (by simp)
        have hb := mem b (by simp)
        have hc := mem c (by simp)
        have ed := goodD_of e
        have ha7 : (SX.S a).length ≤ 10000000 := by rw [SX.S_len]; omega
        walk_at "go"
        refine k_split (s := 47) lit_slash (by decide) hl fun p H1 hp s1 t1 => ?_
        have t1' : H1 p = some (.lst [.str (SX.S a), .str (SX.S b), .str (SX.S c)]) := by rw [t1, e]; rfl
        walk_at "go"
        have hu2 : (unS a).length ≤ 1000000 := by
          rcases unS_cases a with ⟨_, e⟩ | ⟨_, e⟩
          · have : a.length = (45 :: unS a).length := congrArg List.length e
            rw [List.length_cons] at this; omega
          · rw [e]; exact ha
        with_reducible refine k_cutI (fun σ' H' => ∃ sg : Int, Same H H' ∧ σ' = [some (.str (SX.S l)), some (.ref p), some (.int sg), none, none, none] ∧ H' p = some (.lst [.str (SX.S (unS a)), .str (SX.S b), .str (SX.S c)]) ∧ (a.head? = some 45 → sg = -1) ∧ (a.head? ≠ some 45 → sg = 1)) (fun N hN => ?_) ?_
        · walk_at "go"
          rw [cut1_minus]
          refine if_dec (fun h => ?_) (fun h => ?_)
          · walk_at "go"
            refine k_setV (j := 0) t1' rfl fun H2 m2 t2 => ?_
            have eu : cutS (SX.S a) (some 1) none = SX.S (unS a) := by
              unfold unS
              rw [if_pos h, ← List.drop_one]
              exact cut_from a 1
            refine hN _ _ ⟨-1, m2.same s1 hp, rfl, ?_, fun _ => rfl, fun z => absurd h z⟩
            rw [t2, eu]; rfl
          · walk_at "go"
            refine hN _ _ ⟨1, s1, rfl, ?_, fun z => absurd z h, fun _ => rfl⟩
            have eu : unS a = a := by unfold unS; rw [if_neg h]
            rw [eu]; exact t1'
        rintro _ H2 ⟨sg, s2, rfl, t2, sg1, sg2⟩
        walk_at "go"
        refine k_lcl (xs := [.str (SX.S (unS a)), .str (SX.S b), .str (SX.S c)]) (SqL.of t2) [valO (unS a), valO b, valO c] rfl (by simp) (fun i x v H4 R hx hv s4 hR => ?_) fun D H4 hD s4 t4 => ?_
        · match i, hx, hv with
          | 0, hx, hv =>
            cases hx; cases hv
            walk_at "go"
            exact k_Lvalue hu2 (hR _ (Same.refl _))
          | 1, hx, hv =>
            cases hx; cases hv
            walk_at "go"
            exact k_Lvalue hb (hR _ (Same.refl _))
          | 2, hx, hv =>
            cases hx; cases hv
            walk_at "go"
            exact k_Lvalue hc (hR _ (Same.refl _))
          | n + 3, hx, _ => simp at hx
        have t2' := s4 _ _ t2
        have s24 := s2.trans s4
        walk_at "go"
        with_reducible apply k_seqI
        by_cases hf : (figs (unS a) && figs b && figs c) = true
        · obtain ⟨⟨fa, fb⟩, fc⟩ : (figs (unS a) = true ∧ figs b = true) ∧ figs c = true := by rw [Bool.and_eq_true, Bool.and_eq_true] at hf; exact hf
          obtain ⟨a1, a2, a3⟩ := figs_dig fa
          obtain ⟨b1, b2, b3⟩ := figs_dig fb
          obtain ⟨c1, c2, c3⟩ := figs_dig fc
          have va := sm_valF a3 a2
          have va4 : Sm 400 ((valF (unS a) : Nat) : Int) := sm_mono va (by decide)
          have vb := valF_lt b3
          have vc := valF_lt c3
          have p60 : ∀ {n : Nat}, n ≤ 60 → (10 : Nat) ^ n ≤ 10 ^ 60 := fun h => Nat.pow_le_pow_right (by decide) h
          have pb := p60 b2
          have pc := p60 c2
          have t4' : H4 D = some (.lst [.int ((valF (unS a) : Nat) : Int), .int ((valF b : Nat) : Int), .int ((valF c : Nat) : Int)]) := by rw [t4, valO_t fa, valO_t fb, valO_t fc]
          refine or_split (¬ goodN a = true) (fun h => ?_) (fun h => ?_) fun R' h1 h2 => ?_
          · walk_at "go"
            exact q0 (fun g => h (by rw [ed, Bool.and_eq_true, Bool.and_eq_true] at g; exact g.1.1)) _ s24
          · have ga := Classical.not_not.mp h
            walk_at "go"
            with_reducible apply k_seqF
            with_reducible apply k_for
            walk_at "go"
            rename_i p5 H5 hn5 s5 t5
            have t5a := s5 _ _ t4'
            have t5b := s5 _ _ t2'
            have fin : ∀ {v : V} {H' : Hp}, Same H5 H' → (v = .int 1 ∨ v = .int 2) → True := fun _ _ => trivial
            have step : ∀ (σ4 : Option V) (x : List Nat) (k : Int) (N : Ends) (H' : Hp), Same H5 H' → (k = 1 ∧ x = b ∨ k = 2 ∧ x = c) → (goodP x = true → ∀ H2, Same H5 H2 → N.nx [some (.str (SX.S l)), some (.ref p), some (.int sg), some (.ref D), some (.int k), none] H2) → (¬ goodP x = true → ∀ H2, Same H5 H2 → N.rt .non H2) →
                tIfS (tOr (tTest (tOp (rI0 fun i j => V.bl (decide (i < j))) (tOp (rIx K) (tVar 3) (tVar 4)) (tC (V.int 1)))) (tTest (tOp (rNeA K) (tOp (rIx K) (tVar 1) (tVar 4)) (tCall (sp_Ltwo K) [] E0 (tCons (tOp (rIx K) (tVar 3) (tVar 4)) tNil))))) (tRet (tC V.non)) tNext N [some (.str (SX.S l)), some (.ref p), some (.int sg), some (.ref D), some (.int k), none] H' := by
              intro σ4 x k N H' sH hk hx1 hx0
              have hfx : figs x = true := by rcases hk with ⟨_, rfl⟩ | ⟨_, rfl⟩ <;> assumption
              have hvx : valF x < 10 ^ 60 := by rcases hk with ⟨_, rfl⟩ | ⟨_, rfl⟩ <;> omega
              have i1 : atI [V.int ((valF (unS a) : Nat) : Int), .int ((valF b : Nat) : Int), .int ((valF c : Nat) : Int)] k = some (.int ((valF x : Nat) : Int)) := by rcases hk with ⟨rfl, rfl⟩ | ⟨rfl, rfl⟩ <;> rfl
              have i2 : atI [V.str (SX.S (unS a)), .str (SX.S b), .str (SX.S c)] k = some (.str (SX.S x)) := by rcases hk with ⟨rfl, rfl⟩ | ⟨rfl, rfl⟩ <;> rfl
              have tA := sH _ _ t5a
              have tB := sH _ _ t5b
              with_reducible apply k_if
              refine or_split (¬ goodP x = true) (fun h => ?_) (fun h => ?_) fun R2 g1 g2 => ?_
              · walk_at "go"
                exact hx0 h _ sH
              · walk_at "go"
                exact hx1 (Classical.not_not.mp h) _ sH
              · walk_at "go"
                refine k_ixL (SqL.of tA) i1 ?_
                walk_at "go"
                refine if_dec (fun h => g1 fun z => ?_) (fun h => ?_)
                · have := (goodP_inv z).1; omega
                walk_at "go"
                refine k_ixL (SqL.of tB) i2 ?_
                walk_at "go"
                refine k_ixL (SqL.of tA) i1 ?_
                walk_at "go"
                refine k_Ltwo hvx ?_
                walk_at "go"
                rw [dec_S]
                exact dec_twoN (R := fun b => R2 b H') (fun e2 => g2 fun z => z (goodP_not0 hfx (by omega) e2)) (fun e2 => g1 fun z => e2 (goodP_inv z).2.1)
            refine for_list (xs := [.int 1, .int 2]) (fun i σ' H' => ∃ v4 : Option V, σ' = [some (.str (SX.S l)), some (.ref p), some (.int sg), some (.ref D), v4, none] ∧ Same H5 H' ∧ (1 ≤ i → goodP b = true) ∧ (2 ≤ i → goodP c = true)) ⟨none, rfl, Same.refl _, fun h => by omega, fun h => by omega⟩ (fun i σ' H' _ hW => ?_) (fun i x σ' H' hx hW => ?_) (fun σ' H' hW => ?_)
            · obtain ⟨_, _, sH, _⟩ := hW
              exact same_l sH (SqL.of t5)
            · obtain ⟨v4, rfl, sH, k1, k2⟩ := hW
              match i, hx with
              | 0, hx =>
                cases hx
                walk_at "go"
                refine step none b 1 _ _ sH (.inl ⟨rfl, rfl⟩) (fun g H2 s2 => ⟨_, rfl, s2, fun _ => g, fun h => by omega⟩) (fun g H2 s2 => q0 (fun z => g (by rw [ed, Bool.and_eq_true, Bool.and_eq_true] at z; exact z.1.2)) _ ((s24.trans s5).trans s2))
              | 1, hx =>
                cases hx
                walk_at "go"
                refine step none c 2 _ _ sH (.inr ⟨rfl, rfl⟩) (fun g H2 s2 => ⟨_, rfl, s2, fun _ => k1 (by omega), fun _ => g⟩) (fun g H2 s2 => q0 (fun z => g (by rw [ed, Bool.and_eq_true, Bool.and_eq_true] at z; exact z.2)) _ ((s24.trans s5).trans s2))
              | n + 2, hx => simp at hx
            · obtain ⟨v4, rfl, sH, k1, k2⟩ := hW
              have gb := k1 (by decide)
              have gc := k2 (by decide)
              have tA := sH _ _ t5a
              have hg : goodD l = true := by rw [ed, ga, gb, gc]; rfl
              have ssg : Sm 10 sg := by
                by_cases z : a.head? = some 45
                · rw [sg1 z]; exact ⟨by decide⟩
                · rw [sg2 z]; exact ⟨by decide⟩
              walk_at "go"
              rename_i p6 H6 hn6 s6 t6
              refine q1 hg p6 H6 (((s24.trans s5).trans sH).trans s6) ?_
              rw [dateN_of e, t6]
              have : sg * ((valF (unS a) : Nat) : Int) = numN a := by
                unfold numN
                by_cases z : a.head? = some 45
                · rw [if_pos z, sg1 z]; omega
                · rw [if_neg z, sg2 z]; omega
              rw [this]
          · have hgd := goodN_due (l := a)
            walk_at "go"
            refine k_inNon (SqL.of t4) ?_
            rw [hf]
            walk_at "go"
            rw [num_numS, numS_nn (show (0 : Int) ≤ ((valF (unS a) : Nat) : Int) by omega), Int.toNat_natCast, dec_S]
            refine if_ndec (fun h => h1 fun z => h (hgd.mp z).2.1) (fun h => ?_)
            walk_at "go"
            refine if_dec (fun h3 => ?_) (fun h3 => ?_)
            · have h45 : a.head? = some 45 := by
                by_cases z : a.head? = some 45
                · exact z
                · rw [sg2 z] at h3; exact absurd h3 (by decide)
              walk_at "go"
              exact dec_two (R := fun b => R' b H4) (fun e2 => h1 fun z => (hgd.mp z).2.2 ⟨h45, by omega⟩) (fun e2 => h2 fun z => z (hgd.mpr ⟨fa, h, fun y => e2 (by omega)⟩))
            · have h45 : ¬ a.head? = some 45 := fun z => h3 (sg1 z)
              walk_at "go"
              exact h2 fun z => z (hgd.mpr ⟨fa, h, fun y => h45 y.1⟩)
        · have hng : ¬ goodD l = true := fun g => by
            rw [ed, Bool.and_eq_true, Bool.and_eq_true] at g
            exact hf (by rw [(goodN_iff.mp g.1.1).1, (goodP_iff.mp g.1.2).1, (goodP_iff.mp g.2).1]; rfl)
          walk_at "go"
          refine k_inNon (SqL.of t4) ?_
          rw [show (figs (unS a) && figs b && figs c) = false by simpa using hf]
          walk_at "run"
          exact q0 hng _ s24
      · walk_at "go"
        refine k_count lit_slash ?_
        walk_at "go"
        exact dec_twoN (R := fun b => R' b H) (fun h => h2 fun z => z (by omega)) (fun h => h1 (by omega))
theorem k_Ldue {K : PySem.W.Frag} {H : Hp} {Q : VK} {E : XK} {l : List Nat} (hl : l.length ≤ 1000000) (q1 : goodD l = true → ∀ p H', Same H H' → H' p = some (.tup [.int (dateN l).1, .int (dateN l).2.1, .int (dateN l).2.2]) → Q (.ref p) H') (q0 : ¬ goodD l = true → ∀ H', Same H H' → Q .non H') : sp_Ldue K [.str (SX.S l)] H Q E := ⟨_, rfl, .inr ⟨l, rfl, hl, q1, q0⟩⟩
theorem k_Ldue0 {K : PySem.W.Frag} {H : Hp} {Q : VK} {E : XK} {v : V} (hn : NoStr K H v) (q0 : ∀ H', Same H H' → Q .non H') : sp_Ldue K [v] H Q E := ⟨_, rfl, .inl ⟨hn, q0⟩⟩

/-! ### law -/
def sp_law (K : PySem.W.Frag) : Sp := fun vs H Q _ => ∃ (a : Addr) (ns : List Int), vs = [.ref a] ∧ SqL K H a (ns.map V.int) ∧ ns.length ≤ 63 ∧ (∀ z ∈ ns, Builtin.Int.intBits z ≤ 1048576) ∧ ∀ H', Q (.bl true) H'
set_option pp.maxSteps 400 in
theorem eq_t3 {K : PySem.W.Frag} {H : Hp} {Q : VK} {p q : Addr} {a b c : Int} (h1 : SqT K H p [.int a, .int b, .int c]) (h2 : SqT K H q [.int a, .int b, .int c]) (r : Q (.bl true) H) : rEqA K (.ref p) (.ref q) H Q := k_eqT (l := [a, b, c]) (m := [a, b, c]) h1 h2 (by rw [decide_eq_true rfl]; exact r)
theorem ne_t3 {K : PySem.W.Frag} {H : Hp} {Q : VK} {p q : Addr} {a b c : Int} (h1 : SqT K H p [.int a, .int b, .int c]) (h2 : SqT K H q [.int a, .int b, .int c]) (r : Q (.bl false) H) : rNeA K (.ref p) (.ref q) H Q := k_neT (l := [a, b, c]) (m := [a, b, c]) h1 h2 (by rw [decide_eq_true rfl]; exact r)
theorem eq_nn {K : PySem.W.Frag} {H : Hp} {Q : VK} (r : Q (.bl true) H) : rEqA K .non .non H Q := .inl ⟨rfl, r⟩
theorem ok_law (T : Txt K mg) : FnOk P w K mg base CX0 5 T.a_law T.fd_law ["_law_script"] (sp_law K) := by
  refine T.F_law.ok sc_law (fun vs H Q E h => ?_) (fun cdv A outer s H vs Q E hr h => ?_)
  · obtain ⟨_, _, rfl, _⟩ := h; rfl
  · obtain ⟨a, ns, rfl, hS, hl, hb, q⟩ := h
    have hu := hr.units
    refine ⟨_, (pss_cons (ps_set (i := 1) sc_law.nd rfl (Or.inl rfl) (pe_call (ok_Lyear T) (hr.mono (by decide)) (by rfl) T.g_Lyear T.F_Lyear.kp T.b_Lyear .nil pass0 (pa_cons (pe_call (ok_Lcell_at T) (hr.mono (by decide)) (by rfl) T.g_Lcell_at T.F_Lcell_at.kp T.b_Lcell_at .nil pass0 (pa_cons (pv 0) (pa_cons pe_int pa_nil))) pa_nil)))
        (pss_cons (ps_set (i := 2) sc_law.nd rfl (Or.inl rfl) (pe_tup (pa_cons (pv 1) (pa_cons (pe_call (ok_Lpart T) (hr.mono (by decide)) (by rfl) T.g_Lpart T.F_Lpart.kp T.b_Lpart .nil pass0 (pa_cons (pe_call (ok_Lcell_at T) (hr.mono (by decide)) (by rfl) T.g_Lcell_at T.F_Lcell_at.kp T.b_Lcell_at .nil pass0 (pa_cons (pv 0) (pa_cons pe_int pa_nil))) (pa_cons pe_int pa_nil))) (pa_cons (pe_call (ok_Lpart T) (hr.mono (by decide)) (by rfl) T.g_Lpart T.F_Lpart.kp T.b_Lpart .nil pass0 (pa_cons (pe_call (ok_Lcell_at T) (hr.mono (by decide)) (by rfl) T.g_Lcell_at T.F_Lcell_at.kp T.b_Lcell_at .nil pass0 (pa_cons (pv 0) (pa_cons pe_int pa_nil))) (pa_cons pe_int pa_nil))) pa_nil)))))
        (pss_cons (ps_set (i := 3) sc_law.nd rfl (Or.inl rfl) (pe_op op_addA (pe_op op_addA (pe_op op_addA (pe_op op_addA (pe_callTy cb_str (by rfl) T.n_str (by decide +kernel) (pa_cons (pv 1) pa_nil)) pe_str) (pe_call (ok_Ltwo T) (hr.mono (by decide)) (by rfl) T.g_Ltwo T.F_Ltwo.kp T.b_Ltwo .nil pass0 (pa_cons (pe_ix (kb_ix K) (pv 2) pe_int (fun _ _ => rfl)) pa_nil))) pe_str) (pe_call (ok_Ltwo T) (hr.mono (by decide)) (by rfl) T.g_Ltwo T.F_Ltwo.kp T.b_Ltwo .nil pass0 (pa_cons (pe_ix (kb_ix K) (pv 2) pe_int (fun _ _ => rfl)) pa_nil))))
        (pss_cons (ps_set (i := 4) sc_law.nd rfl (Or.inl rfl) (pe_call (ok_date_text T) (hr.mono (by decide)) (by rfl) T.g_date_text T.F_date_text.kp T.b_date_text .nil pass0 (pa_cons (pv 2) pa_nil)))
        (pss_cons (ps_if (PW.pt (pw_or (pt_not (pt_val (pe_callB (kb_isi K) (by rfl) T.n_isinstance (by decide +kernel) (pa_cons (pv 4) (pa_cons (pe_bltn (v := .ty "str") (by rfl) T.n_str (by decide +kernel) rfl) pa_nil))))) (pw_or (pt_cmpR (kb_ne K (hu := hu)) (pv 4) (pv 3) (nomark _)) (pw_or1 (pt_cmpR (kb_ne K (hu := hu)) (pe_call (ok_Lread T) (hr.mono (by decide)) (by rfl) T.g_Lread T.F_Lread.kp T.b_Lread .nil pass0 (pa_cons (pv 3) pa_nil)) (pv 2) (nomark _)))))) (pss_one (ps_ret pe_bl)) pss_nil)
        (pss_cons (ps_set (i := 5) sc_law.nd rfl (Or.inl rfl) (pe_call (ok_Lspoiled T) (hr.mono (by decide)) (by rfl) T.g_Lspoiled T.F_Lspoiled.kp T.b_Lspoiled .nil pass0 (pa_cons (pe_op op_mod (pe_call (ok_Lcell_at T) (hr.mono (by decide)) (by rfl) T.g_Lcell_at T.F_Lcell_at.kp T.b_Lcell_at .nil pass0 (pa_cons (pv 0) (pa_cons pe_int pa_nil))) pe_int) (pa_cons (pv 3) (pa_cons (pe_call (ok_Lcell_at T) (hr.mono (by decide)) (by rfl) T.g_Lcell_at T.F_Lcell_at.kp T.b_Lcell_at .nil pass0 (pa_cons (pv 0) (pa_cons pe_int pa_nil))) pa_nil)))))
        (pss_one (ps_ret (pe_cmpR (kb_eq K (hu := hu)) (pe_call (ok_Lread T) (hr.mono (by decide)) (by rfl) T.g_Lread T.F_Lread.kp T.b_Lread .nil pass0 (pa_cons (pv 5) pa_nil)) (pe_call (ok_Ldue T) (hr.mono (by decide)) (by rfl) T.g_Ldue T.F_Ldue.kp T.b_Ldue .nil pass0 (pa_cons (pv 5) pa_nil)) (nomark _)))))))))), ?_⟩
    walk_at "go"
    rename_i c1 _ sc1
    refine k_Lyear sc1 fun y H1 s1 hy => ?_
    have hS1 := same_l s1 hS
    walk_at "go"
    refine k_Lpart (by decide) (by decide) fun m m1 hm => ?_
    walk_at "go"
    refine k_Lpart (by decide) (by decide) fun d d1 hd => ?_
    walk_at "go"
    rename_i p2 H2 hn2 s2 t2
    have hS2 := same_l s2 hS1
    have e60 : ∀ {n : Nat}, n < 10 ^ 60 → Sm 400 (n : Int) := fun {n} h => ⟨by rw [Int.natAbs_natCast]; exact Nat.lt_trans h (by decide +kernel)⟩
    have sy : Sm 400 y := ⟨Nat.lt_trans hy (by decide +kernel)⟩
    have sm := e60 hm
    have sd := e60 hd
    have hl1 := numS_len hy
    have hl2 := two_len hm
    have hl3 := two_len hd
    have b1 : SL 130 (SX.S (two m)) := ⟨by rw [SX.S_len]; omega⟩
    have b2 : SL 130 (SX.S (two d)) := ⟨by rw [SX.S_len]; omega⟩
    walk_at "go"
    refine k_Ltwo hm ?_
    walk_at "go"
    refine k_Ltwo hd ?_
    walk_at "go"
    have e : (Str.ofString (toString y) ++ ("/" : Str) ++ SX.S (two m) ++ ("/" : Str) ++ SX.S (two d)) = SX.S (dtL y m d) := by
      rw [num_numS, lit_slash, SX.S_cat, SX.S_cat, SX.S_cat, SX.S_cat]
      unfold dtL; simp
    rw [e]
    have hlen := dtL_len hy hm hd
    obtain ⟨g1, g2⟩ := goodD_dtL hy m1 hm d1 hd
    refine k_date_text (SqT.of t2) sy sm sd ?_
    walk_at "go"
    with_reducible apply k_seqI
    refine or_splitH False (fun H' => Same H2 H') (fun H' _ h => h.elim) (fun H3 s3 _ => ?_) fun R' h1 h2 => ?_
    · have hS3 := same_l s3 hS2
      walk_at "go"
      rename_i c4 _ sc4 _ _ _
      refine k_Lspoiled (by assumption) hy m1 hm d1 hd fun v H4 s4 hv => ?_
      walk_at "go"
      rcases hv with hn | ⟨l, rfl, hl⟩
      · refine k_Lread0 hn fun H5 s5 => ?_
        walk_at "go"
        refine k_Ldue0 (hn.same s5) fun H6 s6 => ?_
        exact eq_nn (q _)
      · by_cases g : goodD l = true
        · refine k_Lread (by omega) (fun _ p5 H5 s5 t5 => ?_) (fun h => absurd g h)
          walk_at "go"
          refine k_Ldue (by omega) (fun _ p6 H6 s6 t6 => ?_) (fun h => absurd g h)
          exact eq_t3 (SqT.of (s6 _ _ t5)) (SqT.of t6) (q _)
        · refine k_Lread (by omega) (fun h => absurd h g) (fun _ H5 s5 => ?_)
          walk_at "go"
          refine k_Ldue (by omega) (fun h => absurd h g) (fun _ H6 s6 => ?_)
          exact eq_nn (q _)
    · walk_at "go"
      refine k_Lread (by omega) (fun _ p5 H5 s5 t5 => ?_) (fun h => absurd g1 h)
      rw [g2] at t5
      walk_at "go"
      refine ne_t3 (SqT.of t5) (SqT.of (s5 _ _ t2)) ?_
      walk_at "go"
      exact h2 _ s5 (by simp)

end
theorem all_mk {l : PySem.W.OpenLaw} {w : World} {K : PySem.W.Frag} {h : Heap} {mg : Str → Option Value} {fa : Addr} (X : K.In h) (G : h.Ns mainGlobals mg) (hfa : mg "law" = some (.ref fa))
    {f_Lyear : Addr} {od_Lyear an_Lyear : Option Addr} {sl_Lyear : Array (Option Value)} {oc_Lyear kV_Lyear dc_Lyear pm_Lyear cd_Lyear ct_Lyear : Value}
    {f_date_text : Addr} {od_date_text an_date_text : Option Addr} {sl_date_text : Array (Option Value)} {oc_date_text kV_date_text dc_date_text pm_date_text cd_date_text ct_date_text : Value}
    {f_Lodd : Addr} {od_Lodd an_Lodd : Option Addr} {sl_Lodd : Array (Option Value)} {oc_Lodd kV_Lodd dc_Lodd pm_Lodd cd_Lodd ct_Lodd : Value}
    {f_Lfree : Addr} {od_Lfree an_Lfree : Option Addr} {sl_Lfree : Array (Option Value)} {oc_Lfree kV_Lfree dc_Lfree pm_Lfree cd_Lfree ct_Lfree : Value}
    {f_Lspoiled : Addr} {od_Lspoiled an_Lspoiled : Option Addr} {sl_Lspoiled : Array (Option Value)} {oc_Lspoiled kV_Lspoiled dc_Lspoiled pm_Lspoiled cd_Lspoiled ct_Lspoiled : Value}
    {f_Lcell_at : Addr} {od_Lcell_at an_Lcell_at : Option Addr} {sl_Lcell_at : Array (Option Value)} {oc_Lcell_at kV_Lcell_at dc_Lcell_at pm_Lcell_at cd_Lcell_at ct_Lcell_at : Value}
    {f_Lpart : Addr} {od_Lpart an_Lpart : Option Addr} {sl_Lpart : Array (Option Value)} {oc_Lpart kV_Lpart dc_Lpart pm_Lpart cd_Lpart ct_Lpart : Value}
    {f_Ltwo : Addr} {od_Ltwo an_Ltwo : Option Addr} {sl_Ltwo : Array (Option Value)} {oc_Ltwo kV_Ltwo dc_Ltwo pm_Ltwo cd_Ltwo ct_Ltwo : Value}
    {f_are_figures : Addr} {od_are_figures an_are_figures : Option Addr} {sl_are_figures : Array (Option Value)} {oc_are_figures kV_are_figures dc_are_figures pm_are_figures cd_are_figures ct_are_figures : Value}
    {f_read_number : Addr} {od_read_number an_read_number : Option Addr} {sl_read_number : Array (Option Value)} {oc_read_number kV_read_number dc_read_number pm_read_number cd_read_number ct_read_number : Value}
    {f_read_part : Addr} {od_read_part an_read_part : Option Addr} {sl_read_part : Array (Option Value)} {oc_read_part kV_read_part dc_read_part pm_read_part cd_read_part ct_read_part : Value}
    {f_read_date : Addr} {od_read_date an_read_date : Option Addr} {sl_read_date : Array (Option Value)} {oc_read_date kV_read_date dc_read_date pm_read_date cd_read_date ct_read_date : Value}
    {f_Lwhole : Addr} {od_Lwhole an_Lwhole : Option Addr} {sl_Lwhole : Array (Option Value)} {oc_Lwhole kV_Lwhole dc_Lwhole pm_Lwhole cd_Lwhole ct_Lwhole : Value}
    {f_Lread : Addr} {od_Lread an_Lread : Option Addr} {sl_Lread : Array (Option Value)} {oc_Lread kV_Lread dc_Lread pm_Lread cd_Lread ct_Lread : Value}
    {f_Lvalue : Addr} {od_Lvalue an_Lvalue : Option Addr} {sl_Lvalue : Array (Option Value)} {oc_Lvalue kV_Lvalue dc_Lvalue pm_Lvalue cd_Lvalue ct_Lvalue : Value}
    {f_Ldue : Addr} {od_Ldue an_Ldue : Option Addr} {sl_Ldue : Array (Option Value)} {oc_Ldue kV_Ldue dc_Ldue pm_Ldue cd_Ldue ct_Ldue : Value}
    {f_law : Addr} {od_law an_law : Option Addr} {sl_law : Array (Option Value)} {oc_law kV_law dc_law pm_law cd_law ct_law : Value}
    {t_MOST_FIGURES : Tok}
    {t_FIGURES : Tok}
    {C_NoText : Addr}
    {C_FeastError : Addr}
    {C_NoDate : Addr}
    (gc_NoText : PySem.W.nsIn K mainGlobals "NoText" = some (some (.ref C_NoText)))
    (gc_FeastError : PySem.W.nsIn K mainGlobals "FeastError" = some (some (.ref C_FeastError)))
    (gc_NoDate : PySem.W.nsIn K mainGlobals "NoDate" = some (some (.ref C_NoDate)))
    (a_Lyear : PySem.W.nsIn K mainGlobals "_law_year" = some (some (.ref f_Lyear)))
    (a_date_text : PySem.W.nsIn K mainGlobals "date_text" = some (some (.ref f_date_text)))
    (a_Lodd : PySem.W.nsIn K mainGlobals "_law_odd" = some (some (.ref f_Lodd)))
    (a_Lfree : PySem.W.nsIn K mainGlobals "_law_free" = some (some (.ref f_Lfree)))
    (a_Lspoiled : PySem.W.nsIn K mainGlobals "_law_spoiled" = some (some (.ref f_Lspoiled)))
    (a_Lcell_at : PySem.W.nsIn K mainGlobals "_law_cell_at" = some (some (.ref f_Lcell_at)))
    (a_Lpart : PySem.W.nsIn K mainGlobals "_law_part" = some (some (.ref f_Lpart)))
    (a_Ltwo : PySem.W.nsIn K mainGlobals "_law_two" = some (some (.ref f_Ltwo)))
    (a_are_figures : PySem.W.nsIn K mainGlobals "are_figures" = some (some (.ref f_are_figures)))
    (a_read_number : PySem.W.nsIn K mainGlobals "read_number" = some (some (.ref f_read_number)))
    (a_read_part : PySem.W.nsIn K mainGlobals "read_part" = some (some (.ref f_read_part)))
    (a_read_date : PySem.W.nsIn K mainGlobals "read_date" = some (some (.ref f_read_date)))
    (a_Lwhole : PySem.W.nsIn K mainGlobals "_law_whole" = some (some (.ref f_Lwhole)))
    (a_Lread : PySem.W.nsIn K mainGlobals "_law_read" = some (some (.ref f_Lread)))
    (a_Lvalue : PySem.W.nsIn K mainGlobals "_law_value" = some (some (.ref f_Lvalue)))
    (a_Ldue : PySem.W.nsIn K mainGlobals "_law_due" = some (some (.ref f_Ldue)))
    (a_law : PySem.W.nsIn K mainGlobals "law" = some (some (.ref f_law)))
    (l_Lyear : K.lookup f_Lyear = some ⟨oc_Lyear, od_Lyear, .func (PySem.W.fnOf "_law_year" "_law_year" (defArgs s_Lyear) (defBody s_Lyear) (defScope s_Lyear) .none kV_Lyear dc_Lyear pm_Lyear an_Lyear cd_Lyear ct_Lyear), sl_Lyear⟩)
    (l_date_text : K.lookup f_date_text = some ⟨oc_date_text, od_date_text, .func (PySem.W.fnOf "date_text" "date_text" (defArgs s_date_text) (defBody s_date_text) (defScope s_date_text) .none kV_date_text dc_date_text pm_date_text an_date_text cd_date_text ct_date_text), sl_date_text⟩)
    (l_Lodd : K.lookup f_Lodd = some ⟨oc_Lodd, od_Lodd, .func (PySem.W.fnOf "_law_odd" "_law_odd" (defArgs s_Lodd) (defBody s_Lodd) (defScope s_Lodd) .none kV_Lodd dc_Lodd pm_Lodd an_Lodd cd_Lodd ct_Lodd), sl_Lodd⟩)
    (l_Lfree : K.lookup f_Lfree = some ⟨oc_Lfree, od_Lfree, .func (PySem.W.fnOf "_law_free" "_law_free" (defArgs s_Lfree) (defBody s_Lfree) (defScope s_Lfree) .none kV_Lfree dc_Lfree pm_Lfree an_Lfree cd_Lfree ct_Lfree), sl_Lfree⟩)
    (l_Lspoiled : K.lookup f_Lspoiled = some ⟨oc_Lspoiled, od_Lspoiled, .func (PySem.W.fnOf "_law_spoiled" "_law_spoiled" (defArgs s_Lspoiled) (defBody s_Lspoiled) (defScope s_Lspoiled) .none kV_Lspoiled dc_Lspoiled pm_Lspoiled an_Lspoiled cd_Lspoiled ct_Lspoiled), sl_Lspoiled⟩)
    (l_Lcell_at : K.lookup f_Lcell_at = some ⟨oc_Lcell_at, od_Lcell_at, .func (PySem.W.fnOf "_law_cell_at" "_law_cell_at" (defArgs s_Lcell_at) (defBody s_Lcell_at) (defScope s_Lcell_at) .none kV_Lcell_at dc_Lcell_at pm_Lcell_at an_Lcell_at cd_Lcell_at ct_Lcell_at), sl_Lcell_at⟩)
    (l_Lpart : K.lookup f_Lpart = some ⟨oc_Lpart, od_Lpart, .func (PySem.W.fnOf "_law_part" "_law_part" (defArgs s_Lpart) (defBody s_Lpart) (defScope s_Lpart) .none kV_Lpart dc_Lpart pm_Lpart an_Lpart cd_Lpart ct_Lpart), sl_Lpart⟩)
    (l_Ltwo : K.lookup f_Ltwo = some ⟨oc_Ltwo, od_Ltwo, .func (PySem.W.fnOf "_law_two" "_law_two" (defArgs s_Ltwo) (defBody s_Ltwo) (defScope s_Ltwo) .none kV_Ltwo dc_Ltwo pm_Ltwo an_Ltwo cd_Ltwo ct_Ltwo), sl_Ltwo⟩)
    (l_are_figures : K.lookup f_are_figures = some ⟨oc_are_figures, od_are_figures, .func (PySem.W.fnOf "are_figures" "are_figures" (defArgs s_are_figures) (defBody s_are_figures) (defScope s_are_figures) .none kV_are_figures dc_are_figures pm_are_figures an_are_figures cd_are_figures ct_are_figures), sl_are_figures⟩)
    (l_read_number : K.lookup f_read_number = some ⟨oc_read_number, od_read_number, .func (PySem.W.fnOf "read_number" "read_number" (defArgs s_read_number) (defBody s_read_number) (defScope s_read_number) .none kV_read_number dc_read_number pm_read_number an_read_number cd_read_number ct_read_number), sl_read_number⟩)
    (l_read_part : K.lookup f_read_part = some ⟨oc_read_part, od_read_part, .func (PySem.W.fnOf "read_part" "read_part" (defArgs s_read_part) (defBody s_read_part) (defScope s_read_part) .none kV_read_part dc_read_part pm_read_part an_read_part cd_read_part ct_read_part), sl_read_part⟩)
    (l_read_date : K.lookup f_read_date = some ⟨oc_read_date, od_read_date, .func (PySem.W.fnOf "read_date" "read_date" (defArgs s_read_date) (defBody s_read_date) (defScope s_read_date) .none kV_read_date dc_read_date pm_read_date an_read_date cd_read_date ct_read_date), sl_read_date⟩)
    (l_Lwhole : K.lookup f_Lwhole = some ⟨oc_Lwhole, od_Lwhole, .func (PySem.W.fnOf "_law_whole" "_law_whole" (defArgs s_Lwhole) (defBody s_Lwhole) (defScope s_Lwhole) .none kV_Lwhole dc_Lwhole pm_Lwhole an_Lwhole cd_Lwhole ct_Lwhole), sl_Lwhole⟩)
    (l_Lread : K.lookup f_Lread = some ⟨oc_Lread, od_Lread, .func (PySem.W.fnOf "_law_read" "_law_read" (defArgs s_Lread) (defBody s_Lread) (defScope s_Lread) .none kV_Lread dc_Lread pm_Lread an_Lread cd_Lread ct_Lread), sl_Lread⟩)
    (l_Lvalue : K.lookup f_Lvalue = some ⟨oc_Lvalue, od_Lvalue, .func (PySem.W.fnOf "_law_value" "_law_value" (defArgs s_Lvalue) (defBody s_Lvalue) (defScope s_Lvalue) .none kV_Lvalue dc_Lvalue pm_Lvalue an_Lvalue cd_Lvalue ct_Lvalue), sl_Lvalue⟩)
    (l_Ldue : K.lookup f_Ldue = some ⟨oc_Ldue, od_Ldue, .func (PySem.W.fnOf "_law_due" "_law_due" (defArgs s_Ldue) (defBody s_Ldue) (defScope s_Ldue) .none kV_Ldue dc_Ldue pm_Ldue an_Ldue cd_Ldue ct_Ldue), sl_Ldue⟩)
    (l_law : K.lookup f_law = some ⟨oc_law, od_law, .func (PySem.W.fnOf "law" "law" (defArgs s_law) (defBody s_law) (defScope s_law) .none kV_law dc_law pm_law an_law cd_law ct_law), sl_law⟩)
    (c_Lyear : PySem.W.codeIn K cd_Lyear "_law_year" = true)
    (k_Lyear : PySem.W.keepIn K (.ref f_Lyear) = true)
    (c_date_text : PySem.W.codeIn K cd_date_text "date_text" = true)
    (k_date_text : PySem.W.keepIn K (.ref f_date_text) = true)
    (c_Lodd : PySem.W.codeIn K cd_Lodd "_law_odd" = true)
    (k_Lodd : PySem.W.keepIn K (.ref f_Lodd) = true)
    (c_Lfree : PySem.W.codeIn K cd_Lfree "_law_free" = true)
    (k_Lfree : PySem.W.keepIn K (.ref f_Lfree) = true)
    (c_Lspoiled : PySem.W.codeIn K cd_Lspoiled "_law_spoiled" = true)
    (k_Lspoiled : PySem.W.keepIn K (.ref f_Lspoiled) = true)
    (c_Lcell_at : PySem.W.codeIn K cd_Lcell_at "_law_cell_at" = true)
    (k_Lcell_at : PySem.W.keepIn K (.ref f_Lcell_at) = true)
    (c_Lpart : PySem.W.codeIn K cd_Lpart "_law_part" = true)
    (k_Lpart : PySem.W.keepIn K (.ref f_Lpart) = true)
    (c_Ltwo : PySem.W.codeIn K cd_Ltwo "_law_two" = true)
    (k_Ltwo : PySem.W.keepIn K (.ref f_Ltwo) = true)
    (c_are_figures : PySem.W.codeIn K cd_are_figures "are_figures" = true)
    (k_are_figures : PySem.W.keepIn K (.ref f_are_figures) = true)
    (c_read_number : PySem.W.codeIn K cd_read_number "read_number" = true)
    (k_read_number : PySem.W.keepIn K (.ref f_read_number) = true)
    (c_read_part : PySem.W.codeIn K cd_read_part "read_part" = true)
    (k_read_part : PySem.W.keepIn K (.ref f_read_part) = true)
    (c_read_date : PySem.W.codeIn K cd_read_date "read_date" = true)
    (k_read_date : PySem.W.keepIn K (.ref f_read_date) = true)
    (c_Lwhole : PySem.W.codeIn K cd_Lwhole "_law_whole" = true)
    (k_Lwhole : PySem.W.keepIn K (.ref f_Lwhole) = true)
    (c_Lread : PySem.W.codeIn K cd_Lread "_law_read" = true)
    (k_Lread : PySem.W.keepIn K (.ref f_Lread) = true)
    (c_Lvalue : PySem.W.codeIn K cd_Lvalue "_law_value" = true)
    (k_Lvalue : PySem.W.keepIn K (.ref f_Lvalue) = true)
    (c_Ldue : PySem.W.codeIn K cd_Ldue "_law_due" = true)
    (k_Ldue : PySem.W.keepIn K (.ref f_Ldue) = true)
    (c_law : PySem.W.codeIn K cd_law "law" = true)
    (k_law : PySem.W.keepIn K (.ref f_law) = true)
    (q_MOST_FIGURES : PySem.W.nsIn K mainGlobals "MOST_FIGURES" = some (some (.int 60 t_MOST_FIGURES)))
    (q_FIGURES : PySem.W.nsIn K mainGlobals "FIGURES" = some (some (.str "0123456789" t_FIGURES)))
    (z_all : PySem.W.nsIn K mainGlobals "all" = some none)
    (z_bool : PySem.W.nsIn K mainGlobals "bool" = some none)
    (z_int : PySem.W.nsIn K mainGlobals "int" = some none)
    (z_isinstance : PySem.W.nsIn K mainGlobals "isinstance" = some none)
    (z_len : PySem.W.nsIn K mainGlobals "len" = some none)
    (z_range : PySem.W.nsIn K mainGlobals "range" = some none)
    (z_str : PySem.W.nsIn K mainGlobals "str" = some none)
    (z_tuple : PySem.W.nsIn K mainGlobals "tuple" = some none)
    (x_NoText : PySem.W.excIn K C_NoText [.type "ValueError", .type "Exception", .type "BaseException", .type "object"] "ValueError.__new__" = true)
    (kc_NoText : PySem.W.keepIn K (.ref C_NoText) = true)
    (bc_NoText : PySem.W.subIn K (.ref C_NoText) (.type "BaseException") = some true)
    (tc_NoText : PySem.W.typeIn K (.ref C_NoText) = some (.type "type"))
    (ic_NoText : PySem.W.isClsIn K C_NoText = true)
    (sc_NoText : PySem.W.subIn K (.ref C_NoText) (.ref C_NoText) = some true)
    (kc_FeastError : PySem.W.keepIn K (.ref C_FeastError) = true)
    (bc_FeastError : PySem.W.subIn K (.ref C_FeastError) (.type "BaseException") = some true)
    (tc_FeastError : PySem.W.typeIn K (.ref C_FeastError) = some (.type "type"))
    (ic_FeastError : PySem.W.isClsIn K C_FeastError = true)
    (sc_FeastError : PySem.W.subIn K (.ref C_FeastError) (.ref C_FeastError) = some true)
    (kc_NoDate : PySem.W.keepIn K (.ref C_NoDate) = true)
    (bc_NoDate : PySem.W.subIn K (.ref C_NoDate) (.type "BaseException") = some true)
    (tc_NoDate : PySem.W.typeIn K (.ref C_NoDate) = some (.type "type"))
    (ic_NoDate : PySem.W.isClsIn K C_NoDate = true)
    (sc_NoDate : PySem.W.subIn K (.ref C_NoDate) (.ref C_NoDate) = some true)
    (sb_NoText_FeastError : PySem.W.subIn K (.ref C_NoText) (.ref C_FeastError) = some true)
    (sb_NoText_NoDate : PySem.W.subIn K (.ref C_NoText) (.ref C_NoDate) = some false)
    (xc_NoText : ExcC K C_NoText)
    (sv_NoText : PySem.W.subIn K (.ref C_NoText) (.type "ValueError") = some true) :
    ∃ fd : FuncData, (∀ (s : Shared) (v : Value), BindsTo s fd ⟨[v], []⟩ [("_law_script", v)]) ∧ ∀ base : Heap, K.In base → base.Ns mainGlobals mg → FnOk l.prog w K mg base CX0 5 fa fd ["_law_script"] (sp_law K) := by
  have e := hfa.symm.trans (PySem.W.mg_of X G a_law)
  cases e
  have F_Lyear := fun_mk (st := s_Lyear) l_Lyear c_Lyear k_Lyear
  have b_Lyear := F_Lyear.binds (ps := ["_law_cell"]) fun _ _ _ _ _ _ us hl => match us, hl with | [_], _ => rfl
  have F_date_text := fun_mk (st := s_date_text) l_date_text c_date_text k_date_text
  have b_date_text := F_date_text.binds (ps := ["date"]) fun _ _ _ _ _ _ us hl => match us, hl with | [_], _ => rfl
  have F_Lodd := fun_mk (st := s_Lodd) l_Lodd c_Lodd k_Lodd
  have b_Lodd := F_Lodd.binds (ps := ["_law_cell"]) fun _ _ _ _ _ _ us hl => match us, hl with | [_], _ => rfl
  have F_Lfree := fun_mk (st := s_Lfree) l_Lfree c_Lfree k_Lfree
  have b_Lfree := F_Lfree.binds (ps := ["_law_cell", "_law_signs"]) fun _ _ _ _ _ _ us hl => match us, hl with | [_, _], _ => rfl
  have F_Lspoiled := fun_mk (st := s_Lspoiled) l_Lspoiled c_Lspoiled k_Lspoiled
  have b_Lspoiled := F_Lspoiled.binds (ps := ["_law_way", "_law_text", "_law_cell"]) fun _ _ _ _ _ _ us hl => match us, hl with | [_, _, _], _ => rfl
  have F_Lcell_at := fun_mk (st := s_Lcell_at) l_Lcell_at c_Lcell_at k_Lcell_at
  have b_Lcell_at := F_Lcell_at.binds (ps := ["_law_script", "_law_k"]) fun _ _ _ _ _ _ us hl => match us, hl with | [_, _], _ => rfl
  have F_Lpart := fun_mk (st := s_Lpart) l_Lpart c_Lpart k_Lpart
  have b_Lpart := F_Lpart.binds (ps := ["_law_cell", "_law_most"]) fun _ _ _ _ _ _ us hl => match us, hl with | [_, _], _ => rfl
  have F_Ltwo := fun_mk (st := s_Ltwo) l_Ltwo c_Ltwo k_Ltwo
  have b_Ltwo := F_Ltwo.binds (ps := ["_law_number"]) fun _ _ _ _ _ _ us hl => match us, hl with | [_], _ => rfl
  have F_are_figures := fun_mk (st := s_are_figures) l_are_figures c_are_figures k_are_figures
  have b_are_figures := F_are_figures.binds (ps := ["text"]) fun _ _ _ _ _ _ us hl => match us, hl with | [_], _ => rfl
  have F_read_number := fun_mk (st := s_read_number) l_read_number c_read_number k_read_number
  have b_read_number := F_read_number.binds (ps := ["text"]) fun _ _ _ _ _ _ us hl => match us, hl with | [_], _ => rfl
  have F_read_part := fun_mk (st := s_read_part) l_read_part c_read_part k_read_part
  have b_read_part := F_read_part.binds (ps := ["text"]) fun _ _ _ _ _ _ us hl => match us, hl with | [_], _ => rfl
  have F_read_date := fun_mk (st := s_read_date) l_read_date c_read_date k_read_date
  have b_read_date := F_read_date.binds (ps := ["text"]) fun _ _ _ _ _ _ us hl => match us, hl with | [_], _ => rfl
  have F_Lwhole := fun_mk (st := s_Lwhole) l_Lwhole c_Lwhole k_Lwhole
  have b_Lwhole := F_Lwhole.binds (ps := ["_law_found"]) fun _ _ _ _ _ _ us hl => match us, hl with | [_], _ => rfl
  have F_Lread := fun_mk (st := s_Lread) l_Lread c_Lread k_Lread
  have b_Lread := F_Lread.binds (ps := ["_law_handed"]) fun _ _ _ _ _ _ us hl => match us, hl with | [_], _ => rfl
  have F_Lvalue := fun_mk (st := s_Lvalue) l_Lvalue c_Lvalue k_Lvalue
  have b_Lvalue := F_Lvalue.binds (ps := ["_law_text"]) fun _ _ _ _ _ _ us hl => match us, hl with | [_], _ => rfl
  have F_Ldue := fun_mk (st := s_Ldue) l_Ldue c_Ldue k_Ldue
  have b_Ldue := F_Ldue.binds (ps := ["_law_text"]) fun _ _ _ _ _ _ us hl => match us, hl with | [_], _ => rfl
  have F_law := fun_mk (st := s_law) l_law c_law k_law
  have b_law := F_law.binds (ps := ["_law_script"]) fun _ _ _ _ _ _ us hl => match us, hl with | [_], _ => rfl
  exact ⟨_, fun s v => .of_eq rfl, fun base _ _ => ok_law (⟨_, _, F_Lyear, (PySem.W.mg_of X G a_Lyear), b_Lyear, _, _, F_date_text, (PySem.W.mg_of X G a_date_text), b_date_text, _, _, F_Lodd, (PySem.W.mg_of X G a_Lodd), b_Lodd, _, _, F_Lfree, (PySem.W.mg_of X G a_Lfree), b_Lfree, _, _, F_Lspoiled, (PySem.W.mg_of X G a_Lspoiled), b_Lspoiled, _, _, F_Lcell_at, (PySem.W.mg_of X G a_Lcell_at), b_Lcell_at, _, _, F_Lpart, (PySem.W.mg_of X G a_Lpart), b_Lpart, _, _, F_Ltwo, (PySem.W.mg_of X G a_Ltwo), b_Ltwo, _, _, F_are_figures, (PySem.W.mg_of X G a_are_figures), b_are_figures, _, _, F_read_number, (PySem.W.mg_of X G a_read_number), b_read_number, _, _, F_read_part, (PySem.W.mg_of X G a_read_part), b_read_part, _, _, F_read_date, (PySem.W.mg_of X G a_read_date), b_read_date, _, _, F_Lwhole, (PySem.W.mg_of X G a_Lwhole), b_Lwhole, _, _, F_Lread, (PySem.W.mg_of X G a_Lread), b_Lread, _, _, F_Lvalue, (PySem.W.mg_of X G a_Lvalue), b_Lvalue, _, _, F_Ldue, (PySem.W.mg_of X G a_Ldue), b_Ldue, _, _, F_law, (PySem.W.mg_of X G a_law), b_law, _, (PySem.W.mg_of X G q_MOST_FIGURES), _, (PySem.W.mg_of X G q_FIGURES), (PySem.W.mg_none_of X G z_all), (PySem.W.mg_none_of X G z_bool), (PySem.W.mg_none_of X G z_int), (PySem.W.mg_none_of X G z_isinstance), (PySem.W.mg_none_of X G z_len), (PySem.W.mg_none_of X G z_range), (PySem.W.mg_none_of X G z_str), (PySem.W.mg_none_of X G z_tuple), _, (PySem.W.mg_of X G gc_NoText), x_NoText, kc_NoText, bc_NoText, tc_NoText, ic_NoText, sc_NoText, _, (PySem.W.mg_of X G gc_FeastError), kc_FeastError, bc_FeastError, tc_FeastError, ic_FeastError, sc_FeastError, _, (PySem.W.mg_of X G gc_NoDate), kc_NoDate, bc_NoDate, tc_NoDate, ic_NoDate, sc_NoDate, sb_NoText_FeastError, sb_NoText_NoDate, xc_NoText, sv_NoText⟩ : Txt K mg)⟩
end FW
open PySem PySem.W PyProof.Rows
set_option pp.maxSteps 300 in
set_option maxRecDepth 100000 in
set_option maxHeartbeats 0 in
theorem PySem.Challenge.cw_feastwheel_k71_dates_as_texts_holds : PySem.Challenge.rw_feastwheel_k71_dates_as_texts.Holds := by
  w_on; o_law; k_head; (case hw => w_witness2)
  k_fill
  refine L2.walk_ofB (l := PySem.Challenge.rw_feastwheel_k71_dates_as_texts) (n := 63) (k := 5) (x := "_law_script") (CX := fun _ => L2.CX0) (sp := fun w => FW.sp_law _) rfl (by decide) rfl ⟨rfl, by decide, by decide⟩ (fun w h Y => PySem.W.kIn_of Y) ?F (fun _ _ a ns hl hb _ hS => ⟨a, ns, rfl, hS, hl, hb, fun _ => rfl⟩) (fun _ _ _ _ _ h => h)
  case F =>
    intro w mg fa h KX G hmg
    refine' FW.all_mk KX G hmg ?gc_NoText ?gc_FeastError ?gc_NoDate ?a_Lyear ?a_date_text ?a_Lodd ?a_Lfree ?a_Lspoiled ?a_Lcell_at ?a_Lpart ?a_Ltwo ?a_are_figures ?a_read_number ?a_read_part ?a_read_date ?a_Lwhole ?a_Lread ?a_Lvalue ?a_Ldue ?a_law ?l_Lyear ?l_date_text ?l_Lodd ?l_Lfree ?l_Lspoiled ?l_Lcell_at ?l_Lpart ?l_Ltwo ?l_are_figures ?l_read_number ?l_read_part ?l_read_date ?l_Lwhole ?l_Lread ?l_Lvalue ?l_Ldue ?l_law ?c_Lyear ?k_Lyear ?c_date_text ?k_date_text ?c_Lodd ?k_Lodd ?c_Lfree ?k_Lfree ?c_Lspoiled ?k_Lspoiled ?c_Lcell_at ?k_Lcell_at ?c_Lpart ?k_Lpart ?c_Ltwo ?k_Ltwo ?c_are_figures ?k_are_figures ?c_read_number ?k_read_number ?c_read_part ?k_read_part ?c_read_date ?k_read_date ?c_Lwhole ?k_Lwhole ?c_Lread ?k_Lread ?c_Lvalue ?k_Lvalue ?c_Ldue ?k_Ldue ?c_law ?k_law ?q_MOST_FIGURES ?q_FIGURES ?z_all ?z_bool ?z_int ?z_isinstance ?z_len ?z_range ?z_str ?z_tuple ?x_NoText ?kc_NoText ?bc_NoText ?tc_NoText ?ic_NoText ?sc_NoText ?kc_FeastError ?bc_FeastError ?tc_FeastError ?ic_FeastError ?sc_FeastError ?kc_NoDate ?bc_NoDate ?tc_NoDate ?ic_NoDate ?sc_NoDate ?sb_NoText_FeastError ?sb_NoText_NoDate ?xc_NoText ?sv_NoText
    (case gc_NoText => first | k_is | rfl)
    (case gc_FeastError => first | k_is | rfl)
    (case gc_NoDate => first | k_is | rfl)
    (case a_Lyear => first | k_is | rfl)
    (case a_date_text => first | k_is | rfl)
    (case a_Lodd => first | k_is | rfl)
    (case a_Lfree => first | k_is | rfl)
    (case a_Lspoiled => first | k_is | rfl)
    (case a_Lcell_at => first | k_is | rfl)
    (case a_Lpart => first | k_is | rfl)
    (case a_Ltwo => first | k_is | rfl)
    (case a_are_figures => first | k_is | rfl)
    (case a_read_number => first | k_is | rfl)
    (case a_read_part => first | k_is | rfl)
    (case a_read_date => first | k_is | rfl)
    (case a_Lwhole => first | k_is | rfl)
    (case a_Lread => first | k_is | rfl)
    (case a_Lvalue => first | k_is | rfl)
    (case a_Ldue => first | k_is | rfl)
    (case a_law => first | k_is | rfl)
    (case l_Lyear => first | k_is | rfl)
    (case l_date_text => first | k_is | rfl)
    (case l_Lodd => first | k_is | rfl)
    (case l_Lfree => first | k_is | rfl)
    (case l_Lspoiled => first | k_is | rfl)
    (case l_Lcell_at => first | k_is | rfl)
    (case l_Lpart => first | k_is | rfl)
    (case l_Ltwo => first | k_is | rfl)
    (case l_are_figures => first | k_is | rfl)
    (case l_read_number => first | k_is | rfl)
    (case l_read_part => first | k_is | rfl)
    (case l_read_date => first | k_is | rfl)
    (case l_Lwhole => first | k_is | rfl)
    (case l_Lread => first | k_is | rfl)
    (case l_Lvalue => first | k_is | rfl)
    (case l_Ldue => first | k_is | rfl)
    (case l_law => first | k_is | rfl)
    (case c_Lyear => first | k_is | rfl)
    (case k_Lyear => first | k_is | rfl)
    (case c_date_text => first | k_is | rfl)
    (case k_date_text => first | k_is | rfl)
    (case c_Lodd => first | k_is | rfl)
    (case k_Lodd => first | k_is | rfl)
    (case c_Lfree => first | k_is | rfl)
    (case k_Lfree => first | k_is | rfl)
    (case c_Lspoiled => first | k_is | rfl)
    (case k_Lspoiled => first | k_is | rfl)
    (case c_Lcell_at => first | k_is | rfl)
    (case k_Lcell_at => first | k_is | rfl)
    (case c_Lpart => first | k_is | rfl)
    (case k_Lpart => first | k_is | rfl)
    (case c_Ltwo => first | k_is | rfl)
    (case k_Ltwo => first | k_is | rfl)
    (case c_are_figures => first | k_is | rfl)
    (case k_are_figures => first | k_is | rfl)
    (case c_read_number => first | k_is | rfl)
    (case k_read_number => first | k_is | rfl)
    (case c_read_part => first | k_is | rfl)
    (case k_read_part => first | k_is | rfl)
    (case c_read_date => first | k_is | rfl)
    (case k_read_date => first | k_is | rfl)
    (case c_Lwhole => first | k_is | rfl)
    (case k_Lwhole => first | k_is | rfl)
    (case c_Lread => first | k_is | rfl)
    (case k_Lread => first | k_is | rfl)
    (case c_Lvalue => first | k_is | rfl)
    (case k_Lvalue => first | k_is | rfl)
    (case c_Ldue => first | k_is | rfl)
    (case k_Ldue => first | k_is | rfl)
    (case c_law => first | k_is | rfl)
    (case k_law => first | k_is | rfl)
    (case q_MOST_FIGURES => first | k_is | rfl)
    (case q_FIGURES => first | k_is | rfl)
    (case z_all => first | k_is | rfl)
    (case z_bool => first | k_is | rfl)
    (case z_int => first | k_is | rfl)
    (case z_isinstance => first | k_is | rfl)
    (case z_len => first | k_is | rfl)
    (case z_range => first | k_is | rfl)
    (case z_str => first | k_is | rfl)
    (case z_tuple => first | k_is | rfl)
    (case x_NoText => k_exc)
    (case kc_NoText => first | k_is | rfl)
    (case bc_NoText => first | k_is | rfl)
    (case tc_NoText => first | k_is | rfl)
    (case ic_NoText => first | k_is | rfl)
    (case sc_NoText => first | k_is | rfl)
    (case kc_FeastError => first | k_is | rfl)
    (case bc_FeastError => first | k_is | rfl)
    (case tc_FeastError => first | k_is | rfl)
    (case ic_FeastError => first | k_is | rfl)
    (case sc_FeastError => first | k_is | rfl)
    (case kc_NoDate => first | k_is | rfl)
    (case bc_NoDate => first | k_is | rfl)
    (case tc_NoDate => first | k_is | rfl)
    (case ic_NoDate => first | k_is | rfl)
    (case sc_NoDate => first | k_is | rfl)
    (case sb_NoText_FeastError => first | k_is | rfl)
    (case sb_NoText_NoDate => first | k_is | rfl)
    (case xc_NoText => constructor <;> first | k_is | rfl)
    (case sv_NoText => first | k_is | rfl)
