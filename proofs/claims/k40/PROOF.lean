import PyProof.Rows.All
import Wide.All
import OpenK.AllK
import Wide.FinOn
import HandS.ForMost
import HandS.Exc
import HandS.Wide
import HandS.WideBits
import HandS.IsInst
import HandS.Flow
import HandS.EndBits
import HandS.Conv
import HandS.Nested
import HandS.EndTab
import KE.KNestM
import HandS.Defaults
import HandS.ExcIs
import HandS.ExcField
import HandS.TryMany
import KE.KExcIs
import HandS.HotCalls
import HandS.ForExc
import HandS.ExcInit
import HandS.ClsMeth
import HandS.CallSlots
import HandS.ExcOwn
import KE.GoesEnumKw
import PySem.Challenge.RW_feastwheel_k40_days_by_date
set_option Elab.async false
set_option linter.all false
set_option maxRecDepth 100000
set_option maxHeartbeats 4000000
namespace FW
open PySem PySem.Spec PyProof.Rows L2
/-! ### heaps -/
theorem same_t {K : PySem.W.Frag} {H H' : Hp} {a : Addr} {xs : List V} (e : Same H H') (h : SqT K H a xs) : SqT K H' a xs := by
  rcases h with (h | ⟨o, h⟩) | h
  · exact .inl (.inl (e _ _ h))
  · exact .inl (.inr ⟨o, e _ _ h⟩)
  · exact .inr h
theorem same_l {K : PySem.W.Frag} {H H' : Hp} {a : Addr} {xs : List V} (e : Same H H') (h : SqL K H a xs) : SqL K H' a xs := e.seq h
theorem same_at {H H' : Hp} {a : Addr} {o : HO} (e : Same H H') (h : H a = some o) : H' a = some o := e _ _ h
theorem same_new {H : Hp} {p : Addr} {o : HO} (h : H p = none) : Same H (upd H p o) := fun b x e => by
  rw [upd_ne (ne_of_none e h)]
  exact e
theorem same_mut {H H' : Hp} {p : Addr} {o : HO} (e : Same H H') (h : H p = none) : Same H (upd H' p o) := fun a u ha => by
  rw [upd_ne (ne_of_none ha h)]
  exact e a u ha
section
variable {K : PySem.W.Frag} {σ : L2.St} {H H1 : Hp} {Q : VK} {D : Ends} {i : Nat} {v x y : V} {ta tb tc te : TE} {t u : TT} {tr : TA} {m n : Int} {a b : Int} {r r' : R2}
/-! ### steps: expressions -/
theorem k_var (h : σ[i]? = some (some v)) (q : Q v H) : tVar i σ H Q := ⟨v, h, q⟩
theorem k_c (q : Q v H) : tC v σ H Q := q
theorem k_op (h : ta σ H fun x H1 => tb σ H1 fun y H2 => r x y H2 Q) : tOp r ta tb σ H Q := h
theorem k_un {r : V → Hp → VK → Prop} (h : ta σ H fun x H1 => r x H1 Q) : tUn r ta σ H Q := h
theorem k_I0 {g : Int → Int → V} (q : Q (g a b) H) : rI0 g (.int a) (.int b) H Q := ⟨a, b, rfl, rfl, q⟩
theorem k_I {C : Int → Int → Prop} {g : Int → Int → V} (c : C a b) (q : Q (g a b) H) : rI C g (.int a) (.int b) H Q := ⟨a, b, rfl, rfl, c, q⟩
theorem k_U {g : Int → V} (q : Q (g a) H) : rU g (.int a) H Q := ⟨a, rfl, q⟩
theorem k_nil {Q : List V → Hp → Prop} (q : Q [] H) : tNil σ H Q := q
theorem k_cons {Q : List V → Hp → Prop} (h : ta σ H fun x H1 => tr σ H1 fun xs H2 => Q (x :: xs) H2) : tCons ta tr σ H Q := h
theorem k_cb {r : List V → Hp → VK → Prop} (h : tr σ H fun vs H1 => r vs H1 Q) : tCB r tr σ H Q := h
theorem k_call {sp : Sp} {E : XK} (h : tr σ H fun vs H1 => sp vs H1 Q E) : tCall sp [] E tr σ H Q := by
  show tr σ H fun vs H1 => sp (vs ++ []) H1 Q E
  simp only [List.append_nil]
  exact h
def NewT (xs : List V) (H : Hp) (Q : VK) : Prop := xs.length ≤ sizeLine ∧ ∀ p, H p = none → Q (.ref p) (upd H p (.tup xs))
def NewL (xs : List V) (H : Hp) (Q : VK) : Prop := xs.length ≤ sizeLine ∧ ∀ p, H p = none → Q (.ref p) (upd H p (.lst xs))
theorem k_tup (h : tr σ H fun xs H1 => NewT xs H1 Q) : tTup tr σ H Q := h
theorem k_lst (h : tr σ H fun xs H1 => NewL xs H1 Q) : tLst tr σ H Q := h
theorem k_newtup {xs : List V} (hl : xs.length ≤ 1000) (h : ∀ p H2, H p = none → Same H H2 → H2 p = some (.tup xs) → Q (.ref p) H2) : NewT xs H Q :=
  ⟨Nat.le_trans hl (by decide), fun p hp => h p _ hp (same_new hp) upd_same⟩
theorem k_newlst {xs : List V} (hl : xs.length ≤ 1000) (h : ∀ p H2, H p = none → Same H H2 → H2 p = some (.lst xs) → Q (.ref p) H2) : NewL xs H Q :=
  ⟨Nat.le_trans hl (by decide), fun p hp => h p _ hp (same_new hp) upd_same⟩
theorem k_ifx {Q : VK} (h : t σ H fun c H1 => if c = true then ta σ H1 Q else tb σ H1 Q) : tIf t ta tb σ H Q := h
theorem k_andV (h : ta σ H fun x H1 => ∃ c, x = .bl c ∧ if c = true then tb σ H1 Q else Q (.bl false) H1) : tAndV ta tb σ H Q := h
theorem k_orV (h : ta σ H fun x H1 => ∃ c, x = .bl c ∧ if c = true then Q (.bl true) H1 else tb σ H1 Q) : tOrV ta tb σ H Q := h
theorem k_notV (h : ta σ H fun x H1 => ∃ c, x = .bl c ∧ Q (.bl (!c)) H1) : tNotV ta σ H Q := h
theorem k_chain (h : ta σ H fun x H1 => tb σ H1 fun y H2 => r x y H2 fun z H3 => ∃ k, z = .bl k ∧ (if k = true then tc σ H3 fun w' H4 => r' y w' H4 Q else Q (.bl false) H3)) : tChain r r' ta tb tc σ H Q := h
theorem k_and2 {i j : Nat} {x y : Bool} (h1 : σ[i]? = some (some (.bl x))) (h2 : σ[j]? = some (some (.bl y))) (q : Q (.bl (x && y)) H) : tAndV (tVar i) (tVar j) σ H Q :=
  ⟨_, h1, x, rfl, by cases x with
    | true => rw [if_pos rfl]; exact ⟨_, h2, q⟩
    | false => rw [if_neg Bool.false_ne_true]; exact q⟩
theorem k_or2 {i j : Nat} {x y : Bool} (h1 : σ[i]? = some (some (.bl x))) (h2 : σ[j]? = some (some (.bl y))) (q : Q (.bl (x || y)) H) : tOrV (tVar i) (tVar j) σ H Q :=
  ⟨_, h1, x, rfl, by cases x with
    | true => rw [if_pos rfl]; exact q
    | false => rw [if_neg Bool.false_ne_true]; exact ⟨_, h2, q⟩⟩
theorem k_andn2 {i j : Nat} {x y : Bool} (h1 : σ[i]? = some (some (.bl x))) (h2 : σ[j]? = some (some (.bl y))) (q : Q (.bl (x && !y)) H) : tAndV (tVar i) (tNotV (tVar j)) σ H Q :=
  ⟨_, h1, x, rfl, by cases x with
    | true => rw [if_pos rfl]; exact ⟨_, h2, _, rfl, q⟩
    | false => rw [if_neg Bool.false_ne_true]; exact q⟩
/-- a truth value told -/
theorem k_bl {p : Bool → Prop} {c : Bool} (h : p c) : ∃ k, V.bl c = .bl k ∧ p k := ⟨c, rfl, h⟩
/-! ### steps: tests -/
theorem k_test {Q : Bool → Hp → Prop} (h : ta σ H fun x H' => ∃ k, x = .bl k ∧ Q k H') : tTest ta σ H Q := h
theorem k_B {Q : Bool → Hp → Prop} (h : ta σ H fun x H' => ∃ k, x = .bl k ∧ Q k H') : tB ta σ H Q := h
theorem k_and {Q : Bool → Hp → Prop} (h : t σ H fun c H1 => if c = true then u σ H1 Q else Q false H1) : tAnd t u σ H Q := h
theorem k_or {Q : Bool → Hp → Prop} (h : t σ H fun c H1 => if c = true then Q true H1 else u σ H1 Q) : tOr t u σ H Q := h
theorem k_not {Q : Bool → Hp → Prop} (h : t σ H fun c H1 => Q (!c) H1) : tNot t σ H Q := h
/-! ### branches -/
theorem if_dec {p A B : Prop} [Decidable p] (h1 : p → A) (h2 : ¬ p → B) : if decide p = true then A else B := by
  by_cases h : p
  · rw [if_pos (decide_eq_true h)]; exact h1 h
  · rw [if_neg (by rw [decide_eq_false h]; decide)]; exact h2 h
theorem if_ndec {p A B : Prop} [Decidable p] (h1 : ¬ p → A) (h2 : p → B) : if (!decide p) = true then A else B := by
  by_cases h : p
  · rw [if_neg (by rw [decide_eq_true h]; decide)]; exact h2 h
  · rw [if_pos (by rw [decide_eq_false h]; rfl)]; exact h1 h
theorem if_b {c : Bool} {A B : Prop} (h1 : c = true → A) (h2 : c = false → B) : if c = true then A else B := by
  cases c with
  | true => rw [if_pos rfl]; exact h1 rfl
  | false => rw [if_neg Bool.false_ne_true]; exact h2 rfl
theorem if_t {A B : Prop} (h : A) : if true = true then A else B := iteT h
theorem if_f {A B : Prop} (h : B) : if false = true then A else B := iteF h
theorem if_nt {A B : Prop} (h : A) : if (!false) = true then A else B := iteT h
theorem if_nf {A B : Prop} (h : B) : if (!true) = true then A else B := iteF h
theorem fin_t {c : Bool} (hc : c = true) (q : Q (.bl true) H) : Q (.bl c) H := by rw [hc]; exact q
/-! ### steps: statements -/
theorem k_seq {t u : TS} (h : t { D with nx := u D } σ H) : tSeq t u D σ H := h
theorem k_seqA {g : TG} {u : TS} (h : tAsg te g { D with nx := u D } σ H) : tSeq (tAsg te g) u D σ H := h
theorem k_seqD {u : TS} (h : tDrop te { D with nx := u D } σ H) : tSeq (tDrop te) u D σ H := h
theorem k_seqP {i j : Nat} {u : TS} (h : tPar i j tr { D with nx := u D } σ H) : tSeq (tPar i j tr) u D σ H := h
theorem k_seqI {t u : TS} {c : TT} {w : TS} (h : c σ H fun b H1 => if b = true then t { D with nx := w D } σ H1 else u { D with nx := w D } σ H1) : tSeq (tIfS c t u) w D σ H := h
theorem k_nx {f : L2.St → Hp → Prop} {r : VK} {b c : L2.St → Hp → Prop} (h : f σ H) : Ends.nx ⟨f, r, b, c⟩ σ H := h
theorem k_rt {f : L2.St → Hp → Prop} {r : VK} {b c : L2.St → Hp → Prop} (h : r v H) : Ends.rt ⟨f, r, b, c⟩ v H := h
theorem k_next (h : D.nx σ H) : tNext D σ H := h
theorem k_asg {i : Nat} (h : te σ H fun x H1 => D.nx (σ.set i (some x)) H1) : tAsg te (gName i) D σ H := h
theorem k_asgG {g : TG} (h : te σ H fun x H1 => g x σ H1 D.nx) : tAsg te g D σ H := h
theorem k_gname {Q : L2.St → Hp → Prop} (h : Q (σ.set i (some v)) H) : gName i v σ H Q := h
theorem k_gtup {tg : TGs} {n : Nat} {p : Addr} {xs : List V} {Q : L2.St → Hp → Prop} (h : SqT K H p xs) (hl : xs.length = n) (q : tg xs σ H Q) : gTup K n tg (.ref p) σ H Q := ⟨p, xs, rfl, h, hl, q⟩
theorem k_gcons {tg : TG} {ug : TGs} {vs : List V} {Q : L2.St → Hp → Prop} (q : tg v σ H fun σ' H' => ug vs σ' H' Q) : gCons tg ug (v :: vs) σ H Q := ⟨v, vs, rfl, q⟩
theorem k_gnil {Q : L2.St → Hp → Prop} (q : Q σ H) : gNil [] σ H Q := ⟨rfl, q⟩
theorem k_par {i j : Nat} (h : tr σ H fun vs H1 => ∃ v w, vs = [v, w] ∧ D.nx ((σ.set i (some v)).set j (some w)) H1) : tPar i j tr D σ H := h
theorem k_par2 {P : V → V → Prop} {x y : V} (h : P x y) : ∃ v w, [x, y] = [v, w] ∧ P v w := ⟨x, y, rfl, h⟩
theorem k_drop (h : te σ H fun _ H1 => D.nx σ H1) : tDrop te D σ H := h
theorem k_ret (h : te σ H D.rt) : tRet te D σ H := h
theorem k_retN (h : D.rt .non H) : tRetN D σ H := h
theorem k_if {t u : TS} {c : TT} (h : c σ H fun b H1 => if b = true then t D σ H1 else u D σ H1) : tIfS c t u D σ H := h
theorem k_cutI {t u w : TS} {c : TT} (P : L2.St → Hp → Prop) (h1 : ∀ N : L2.St → Hp → Prop, (∀ σ' H', P σ' H' → N σ' H') → c σ H fun b H1 => if b = true then t { D with nx := N } σ H1 else u { D with nx := N } σ H1) (h2 : ∀ σ' H', P σ' H' → w D σ' H') : tSeq (tIfS c t u) w D σ H := h1 _ h2
/-- the ways of a statement meet again: what holds behind it -/
theorem k_cut {t u : TS} (P : L2.St → Hp → Prop) (h1 : ∀ N : L2.St → Hp → Prop, (∀ σ' H', P σ' H' → N σ' H') → t { D with nx := N } σ H) (h2 : ∀ σ' H', P σ' H' → u D σ' H') : tSeq t u D σ H := h1 _ h2
/-! ### loops -/
theorem k_seqW {t : TT} {tb u : TS} (h : tWhile t tb { D with nx := u D } σ H) : tSeq (tWhile t tb) u D σ H := h
theorem k_seqF {wi : TI} {g : TG} {tb u : TS} (h : tFor wi g tb { D with nx := u D } σ H) : tSeq (tFor wi g tb) u D σ H := h
theorem k_while {t : TT} {tb : TS} (W : Nat → L2.St → Hp → Prop) (m : Nat) (h0 : W m σ H) (hs : ∀ m σ H, W m σ H → t σ H fun b H1 => if b = true then ∃ N : L2.St → Hp → Prop, (∀ σ' H', N σ' H' → ∃ m', m' < m ∧ W m' σ' H') ∧ tb { D with nx := N, ct := N, bk := D.nx } σ H1 else D.nx σ H1) : tWhile t tb D σ H := ⟨W, ⟨m, h0⟩, hs⟩
theorem k_turn {tb : TS} {W : Nat → L2.St → Hp → Prop} {m : Nat} (h : tb { D with nx := fun σ' H' => ∃ m', m' < m ∧ W m' σ' H', ct := fun σ' H' => ∃ m', m' < m ∧ W m' σ' H', bk := D.nx } σ H) : ∃ N : L2.St → Hp → Prop, (∀ σ' H', N σ' H' → ∃ m', m' < m ∧ W m' σ' H') ∧ tb { D with nx := N, ct := N, bk := D.nx } σ H := ⟨_, fun _ _ h => h, h⟩
def ForG (J : It) (g : TG) (tb : TS) (D : Ends) (σ : L2.St) (H1 : Hp) : Prop := ∃ W : Nat → Nat → L2.St → Hp → Prop, (∃ m, W 0 m σ H1) ∧ ∀ i m σ H, W i m σ H →
  (J.stop i H ∧ D.nx σ H) ∨ (J.go i H ∧ ∃ N : L2.St → Hp → Prop, (∀ σ' H', N σ' H' → ∃ m', m' < m ∧ W (i + 1) m' σ' H') ∧ ∀ x H', J.yld i H x H' → g x σ H' fun σ2 H2 => tb { D with nx := N, ct := N, bk := D.nx } σ2 H2)
theorem k_for {wi : TI} {g : TG} {tb : TS} (h : wi σ H fun J H1 => ForG J g tb D σ H1) : tFor wi g tb D σ H := h
/-! ### comprehensions over a range -/
def Rng1 (vs : List V) (H : Hp) (R : It → Hp → Prop) : Prop := ∃ j : Int, vs = [.int j] ∧ -(2 ^ 62) ≤ j ∧ j < 2 ^ 62 ∧ R (Itr 0 j.toNat) H
def Rng2 (vs : List V) (H : Hp) (R : It → Hp → Prop) : Prop := ∃ i j : Int, vs = [.int i, .int j] ∧ (-(2 ^ 62) ≤ i ∧ i < 2 ^ 62 ∧ -(2 ^ 62) ≤ j ∧ j < 2 ^ 62) ∧ R (Itr i (j - i).toNat) H
theorem k_irng1 {R : It → Hp → Prop} (h : tr σ H fun vs H1 => Rng1 vs H1 R) : iRng1 tr σ H R := h
theorem k_irng2 {R : It → Hp → Prop} (h : tr σ H fun vs H1 => Rng2 vs H1 R) : iRng2 tr σ H R := h
theorem k_rng1 {n : Int} {R : It → Hp → Prop} (h0 : -(2 ^ 62) ≤ n ∧ n < 2 ^ 62) (h : R (Itr 0 n.toNat) H) : Rng1 [V.int n] H R := ⟨n, rfl, h0.1, h0.2, h⟩
theorem k_rng2 {n : Int} {R : It → Hp → Prop} (h0 : -(2 ^ 62) ≤ m ∧ m < 2 ^ 62 ∧ -(2 ^ 62) ≤ n ∧ n < 2 ^ 62) (h : R (Itr m (n - m).toNat) H) : Rng2 [V.int m, V.int n] H R := ⟨m, n, rfl, h0, h⟩
def LcG (J : It) (H1 : Hp) (g : TG) (tt : TT) (te : TE) (vs : List Nat) (σ : L2.St) (Q : VK) : Prop := ∀ D, H1 D = none → ∃ W : Nat → Nat → Hp → Prop, (∃ m, W 0 m (upd H1 D (.lst []))) ∧ ∀ i m H, W i m H →
  (J.stop i H ∧ Q (.ref D) H) ∨ (J.go i H ∧ ∃ Nx : Hp → Prop, (∀ H', Nx H' → ∃ m', m' < m ∧ W (i + 1) m' H') ∧ ∀ x H', J.yld i H x H' → g x (wipe σ vs) H' fun σ2 H2 => wipe σ2 vs = wipe σ vs ∧ tt σ2 H2 fun b H3 =>
    if b = true then te σ2 H3 fun y H4 => ∃ acc, H4 D = some (.lst acc) ∧ acc.length < sizeLine ∧ Nx (upd H4 D (.lst (acc ++ [y]))) else Nx H3)
theorem k_lc {wi : TI} {g : TG} {tt : TT} {vs : List Nat} (h : wi σ H fun J H1 => LcG J H1 g tt te vs σ Q) : tLc wi g tt te vs σ H Q := h
/-- [e for k in range(..)]: the list of the values, each told by its place -/
theorem k_lcr {lo : Int} {n j : Nat} (L : List V) (hl : L.length = n) (hz : n ≤ 1000000)
    (hs : ∀ (i : Nat) (v : V) (H2 : Hp) (R : VK), L[i]? = some v → Same H1 H2 → (∀ H3, Same H2 H3 → R v H3) → te (σ.set j (some (.int (lo + i)))) H2 R)
    (q : ∀ D H2, H1 D = none → Same H1 H2 → H2 D = some (.lst L) → Q (.ref D) H2) :
    LcG (Itr lo n) H1 (gName j) tYes te [j] σ Q := by
  intro D hD
  refine lc_range (fun i H' => Same H1 H' ∧ H' D = some (.lst (L.take i))) ⟨same_new hD, by rw [upd_same]; rfl⟩ (fun i H' hi ⟨sm, hd⟩ => ?_) (fun H' ⟨sm, hd⟩ => q D H' hD sm (by rw [hd, List.take_of_length_le (by omega)]))
  have ew : ∀ y : V, (wipe σ [j]).set j (some y) = σ.set j (some y) := fun y => by
    show ((σ.set j none).set j (some y)) = _
    rw [List.set_set]
  show wipe ((wipe σ [j]).set j _) [j] = wipe σ [j] ∧ _
  rw [ew]
  refine ⟨by show (σ.set j _).set j none = σ.set j none; rw [List.set_set], ?_⟩
  refine hs i (L[i]'(by omega)) H' _ (List.getElem?_eq_getElem (by omega)) sm fun H3 s3 => ?_
  refine ⟨L.take i, s3 _ _ hd, Nat.lt_of_le_of_lt (Nat.le_trans (by rw [List.length_take]; exact Nat.min_le_left _ _) (show i ≤ 1000000 by omega)) (by rw [sizeLine_eq]; decide), same_mut (sm.trans s3) hD, ?_⟩
  rw [upd_same, List.take_add_one, List.getElem?_eq_getElem (show i < L.length by omega)]
  rfl
/-! ### comprehensions and loops over a list, a tuple -/
def SqI (J : Addr → It) (ok : Addr → Hp → Prop) (x : V) (H : Hp) (R : It → Hp → Prop) : Prop := ∃ a, x = .ref a ∧ ok a H ∧ R (J a) H
theorem k_itup {tl : TE} {R : It → Hp → Prop} (h : tl σ H fun x H1 => SqI (Itt K) (fun a H => ∃ xs, SqT K H a xs) x H1 R) : iTup K tl σ H R := h
theorem k_ilst {tl : TE} {R : It → Hp → Prop} (h : tl σ H fun x H1 => SqI (Itl K) (fun a H => ∃ xs, SqL K H a xs) x H1 R) : iList K tl σ H R := h
theorem k_sqt {p : Addr} {xs : List V} {R : It → Hp → Prop} (h : SqT K H p xs) (q : R (Itt K p) H) : SqI (Itt K) (fun a H => ∃ xs, SqT K H a xs) (.ref p) H R := ⟨p, rfl, ⟨xs, h⟩, q⟩
theorem k_sql {p : Addr} {xs : List V} {R : It → Hp → Prop} (h : SqL K H p xs) (q : R (Itl K p) H) : SqI (Itl K) (fun a H => ∃ xs, SqL K H a xs) (.ref p) H R := ⟨p, rfl, ⟨xs, h⟩, q⟩
theorem wipe_set {σ : L2.St} {j : Nat} {y : V} : (wipe σ [j]).set j (some y) = σ.set j (some y) := by
  show ((σ.set j none).set j (some y)) = _
  rw [List.set_set]
theorem wipe_set2 {σ : L2.St} {j : Nat} {y : V} : wipe (σ.set j (some y)) [j] = wipe σ [j] := by
  show (σ.set j _).set j none = σ.set j none
  rw [List.set_set]
/-- [e for x in t], t a tuple: the list of the values -/
theorem k_lct {a : Addr} {xs : List V} {j : Nat} (hx : SqT K H1 a xs) (L : List V) (hl : L.length = xs.length) (hz : xs.length ≤ 1000000)
    (hs : ∀ (i : Nat) (x v : V) (H2 : Hp) (R : VK), xs[i]? = some x → L[i]? = some v → Same H1 H2 → (∀ H3, Same H2 H3 → R v H3) → te (σ.set j (some x)) H2 R)
    (q : ∀ D H2, H1 D = none → Same H1 H2 → H2 D = some (.lst L) → Q (.ref D) H2) : LcG (Itt K a) H1 (gName j) tYes te [j] σ Q := by
  intro D hD
  refine lc_tup (fun i H' => Same H1 H' ∧ H' D = some (.lst (L.take i))) ⟨same_new hD, by rw [upd_same]; rfl⟩ (fun i H' _ ⟨sm, _⟩ => same_t sm hx) (fun i x H' hi ⟨sm, hd⟩ => ?_) (fun H' ⟨sm, hd⟩ => q D H' hD sm (by rw [hd, List.take_of_length_le (by omega)]))
  have hil := (List.getElem?_eq_some_iff.mp hi).1
  show wipe ((wipe σ [j]).set j _) [j] = wipe σ [j] ∧ _
  rw [wipe_set]
  refine ⟨wipe_set2, ?_⟩
  refine hs i x (L[i]'(by omega)) H' _ hi (List.getElem?_eq_getElem (by omega)) sm fun H3 s3 => ?_
  refine ⟨L.take i, s3 _ _ hd, Nat.lt_of_le_of_lt (Nat.le_trans (by rw [List.length_take]; exact Nat.min_le_left _ _) (show i ≤ 1000000 by omega)) (by rw [sizeLine_eq]; decide), same_mut (sm.trans s3) hD, ?_⟩
  rw [upd_same, List.take_add_one, List.getElem?_eq_getElem (show i < L.length by omega)]
  rfl
/-- [e for x in xs], xs a list -/
theorem k_lcl {a : Addr} {xs : List V} {j : Nat} (hx : SqL K H1 a xs) (L : List V) (hl : L.length = xs.length) (hz : xs.length ≤ 1000000)
    (hs : ∀ (i : Nat) (x v : V) (H2 : Hp) (R : VK), xs[i]? = some x → L[i]? = some v → Same H1 H2 → (∀ H3, Same H2 H3 → R v H3) → te (σ.set j (some x)) H2 R)
    (q : ∀ D H2, H1 D = none → Same H1 H2 → H2 D = some (.lst L) → Q (.ref D) H2) : LcG (Itl K a) H1 (gName j) tYes te [j] σ Q := by
  intro D hD
  refine lc_list (fun i H' => Same H1 H' ∧ H' D = some (.lst (L.take i))) ⟨same_new hD, by rw [upd_same]; rfl⟩ (fun i H' _ ⟨sm, _⟩ => same_l sm hx) (fun i x H' hi ⟨sm, hd⟩ => ?_) (fun H' ⟨sm, hd⟩ => q D H' hD sm (by rw [hd, List.take_of_length_le (by omega)]))
  have hil := (List.getElem?_eq_some_iff.mp hi).1
  show wipe ((wipe σ [j]).set j _) [j] = wipe σ [j] ∧ _
  rw [wipe_set]
  refine ⟨wipe_set2, ?_⟩
  refine hs i x (L[i]'(by omega)) H' _ hi (List.getElem?_eq_getElem (by omega)) sm fun H3 s3 => ?_
  refine ⟨L.take i, s3 _ _ hd, Nat.lt_of_le_of_lt (Nat.le_trans (by rw [List.length_take]; exact Nat.min_le_left _ _) (show i ≤ 1000000 by omega)) (by rw [sizeLine_eq]; decide), same_mut (sm.trans s3) hD, ?_⟩
  rw [upd_same, List.take_add_one, List.getElem?_eq_getElem (show i < L.length by omega)]
  rfl
theorem rgc_pos {a b c : Int} (ha : 0 ≤ a) (ha' : a ≤ 1000000000) (hb : 0 ≤ b) (hb' : b ≤ 1000000000) (hc : 1 ≤ c) (hc' : c ≤ 1000000000) :
    ∃ n : Nat, RgC a b c n ∧ (n : Int) ≤ b ∧ ∀ i : Nat, i < n ↔ a + i * c < b := by
  have hpos : (0 : Int) ≤ Builtin.Range.rangeSize a b c := by
    unfold Builtin.Range.rangeSize
    rw [if_pos (by omega)]
    split
    · have := Int.ediv_nonneg (a := b - a - 1) (b := c) (by omega) (by omega); omega
    · omega
  have hle : Builtin.Range.rangeSize a b c ≤ b := by
    unfold Builtin.Range.rangeSize
    rw [if_pos (by omega)]
    split
    · have := Int.ediv_le_self c (show 0 ≤ b - a - 1 by omega); omega
    · omega
  obtain ⟨n, hn⟩ := Int.eq_ofNat_of_zero_le hpos
  refine ⟨n, ⟨by omega, by omega, ?_, hn⟩, by omega, fun i => ?_⟩
  · unfold Builtin.Range.small
    simp only [Builtin.Range.rangeFitsLong, Bool.and_eq_true, Bool.or_eq_true, decide_eq_true_eq, beq_iff_eq]
    rw [if_pos (show c > 0 by omega)]
    simp only [Bool.and_eq_true, decide_eq_true_eq]
    refine ⟨⟨⟨⟨?_, ?_⟩, ?_⟩, ?_⟩, .inr ?_⟩ <;> omega
  · unfold Builtin.Range.rangeSize at hn
    rw [if_pos (show c > 0 by omega)] at hn
    have e1 := Int.emod_add_mul_ediv (b - a - 1) c
    have e2 := Int.emod_nonneg (b - a - 1) (show c ≠ 0 by omega)
    have e3 := Int.emod_lt_of_pos (b - a - 1) (show 0 < c by omega)
    by_cases hab : a < b
    · rw [if_pos hab] at hn
      generalize (b - a - 1) / c = q at *
      constructor
      · intro hi
        have : c * (i : Int) ≤ c * q := Int.mul_le_mul_of_nonneg_left (by omega) (by omega)
        rw [Int.mul_comm (i : Int)]; omega
      · intro hi
        by_cases h : (i : Int) ≤ q
        · omega
        · have : c * (q + 1) ≤ c * (i : Int) := Int.mul_le_mul_of_nonneg_left (by omega) (by omega)
          rw [Int.mul_add] at this
          rw [Int.mul_comm (i : Int)] at hi; omega
    · rw [if_neg hab] at hn
      constructor
      · intro hi; omega
      · intro hi
        have : 0 ≤ (i : Int) * c := Int.mul_nonneg (by omega) (by omega)
        omega
def Rng3 (vs : List V) (H : Hp) (R : It → Hp → Prop) : Prop := ∃ (i j c : Int) (n : Nat), vs = [.int i, .int j, .int c] ∧ RgC i j c n ∧ R (Itc i c n) H
theorem k_irng3 {R : It → Hp → Prop} (h : tr σ H fun vs H1 => Rng3 vs H1 R) : iRng3 tr σ H R := h
theorem k_rng3 {i j c : Int} {n : Nat} {R : It → Hp → Prop} (h0 : RgC i j c n) (h : R (Itc i c n) H) : Rng3 [V.int i, V.int j, V.int c] H R := ⟨i, j, c, n, rfl, h0, h⟩
/-! ### list(range(..)), list + list -/
def LstRg (x : V) (H : Hp) (Q : VK) : Prop := ∃ n, x = .int n ∧ (RgOk 0 n ∧ ∀ q, H q = none → Q (.ref q) (upd H q (.lst (rgV 0 n))))
theorem k_lstrg (h : ta σ H fun x H1 => LstRg x H1 Q) : tLstRg (tRg1 ta) σ H Q := h
theorem k_lstrgV (h0 : 0 ≤ a ∧ a ≤ 16777216) (h : ∀ p H2, H p = none → Same H H2 → H2 p = some (.lst (rgV 0 a)) → Q (.ref p) H2) : LstRg (.int a) H Q :=
  ⟨a, rfl, RgOk.of_le (by omega) h0.2 (by omega) h0.1, fun p hp => h p _ hp (same_new hp) upd_same⟩
/-! ### any comprehension: over what tells n items one by one, with a test -/
theorem k_lcG {J : It} {n j : Nat} {item : Nat → V} {tt : TT} (p : Nat → Bool) (g : Nat → V) (hz : n ≤ 1000000)
    (hgo : ∀ i H2, Same H1 H2 → i < n → J.go i H2) (hy : ∀ i H2 x H', Same H1 H2 → i < n → J.yld i H2 x H' → H' = H2 ∧ x = item i) (hst : ∀ H2, Same H1 H2 → J.stop n H2)
    (ht : ∀ i H2 (R : Bool → Hp → Prop), i < n → Same H1 H2 → (∀ H3, Same H2 H3 → R (p i) H3) → tt (σ.set j (some (item i))) H2 R)
    (hv : ∀ i H2 (R : VK), i < n → p i = true → Same H1 H2 → (∀ H3, Same H2 H3 → R (g i) H3) → te (σ.set j (some (item i))) H2 R)
    (q : ∀ D H2, H1 D = none → Same H1 H2 → H2 D = some (.lst (((List.range n).filter p).map g)) → Q (.ref D) H2) : LcG J H1 (gName j) tt te [j] σ Q := by
  intro D hD
  refine ⟨fun i m H' => m = n - i ∧ i ≤ n ∧ Same H1 H' ∧ H' D = some (.lst (((List.range i).filter p).map g)), ⟨n, rfl, Nat.zero_le _, same_new hD, by rw [upd_same]; rfl⟩, ?_⟩
  rintro i m H' ⟨rfl, hi, sm, hd⟩
  by_cases hlt : i < n
  · refine .inr ⟨hgo i H' sm hlt, fun H'' => i + 1 ≤ n ∧ Same H1 H'' ∧ H'' D = some (.lst (((List.range (i + 1)).filter p).map g)), fun H'' ⟨a, b, c⟩ => ⟨n - (i + 1), by omega, rfl, a, b, c⟩, fun x H'' y => ?_⟩
    obtain ⟨rfl, rfl⟩ := hy i H' x H'' sm hlt y
    show wipe ((wipe σ [j]).set j _) [j] = wipe σ [j] ∧ _
    rw [wipe_set]
    refine ⟨wipe_set2, ht i H'' _ hlt sm fun H3 s3 => ?_⟩
    have er : ((List.range (i + 1)).filter p).map g = ((List.range i).filter p).map g ++ (if p i = true then [g i] else []) := by
      rw [List.range_succ, List.filter_append, List.map_append]
      congr 1
      by_cases h : p i = true <;> simp [h]
    cases hp : p i with
    | true =>
      refine hv i H3 _ hlt hp (sm.trans s3) fun H4 s4 => ?_
      refine ⟨_, s4 _ _ (s3 _ _ hd), ?_, hlt, same_mut ((sm.trans s3).trans s4) hD, ?_⟩
      · rw [List.length_map]
        refine Nat.lt_of_le_of_lt (Nat.le_trans (List.length_filter_le _ _) (by rw [List.length_range]; exact (show i ≤ 1000000 by omega))) (by rw [sizeLine_eq]; decide)
      · rw [upd_same, er, if_pos hp]
    | false =>
      refine ⟨hlt, sm.trans s3, ?_⟩
      rw [s3 _ _ hd, er, if_neg (by rw [hp]; decide), List.append_nil]
  · have e : i = n := by omega
    subst e
    exact .inl ⟨hst H' sm, q D H' hD sm hd⟩
theorem k_lcrf {lo : Int} {n j : Nat} {tt : TT} (p : Nat → Bool) (g : Nat → V) (hz : n ≤ 1000000)
    (ht : ∀ i H2 (R : Bool → Hp → Prop), i < n → Same H1 H2 → (∀ H3, Same H2 H3 → R (p i) H3) → tt (σ.set j (some (.int (lo + i)))) H2 R)
    (hv : ∀ i H2 (R : VK), i < n → p i = true → Same H1 H2 → (∀ H3, Same H2 H3 → R (g i) H3) → te (σ.set j (some (.int (lo + i)))) H2 R)
    (q : ∀ D H2, H1 D = none → Same H1 H2 → H2 D = some (.lst (((List.range n).filter p).map g)) → Q (.ref D) H2) : LcG (Itr lo n) H1 (gName j) tt te [j] σ Q :=
  k_lcG (item := fun i => .int (lo + i)) p g hz (fun i H2 _ h => h) (fun i H2 x H' _ _ y => ⟨y.1, y.2⟩) (fun H2 _ => Nat.le_refl _) ht hv q
theorem k_lccf {lo c : Int} {n j : Nat} {tt : TT} (p : Nat → Bool) (g : Nat → V) (hz : n ≤ 1000000)
    (ht : ∀ i H2 (R : Bool → Hp → Prop), i < n → Same H1 H2 → (∀ H3, Same H2 H3 → R (p i) H3) → tt (σ.set j (some (.int (lo + (i : Nat) * c)))) H2 R)
    (hv : ∀ i H2 (R : VK), i < n → p i = true → Same H1 H2 → (∀ H3, Same H2 H3 → R (g i) H3) → te (σ.set j (some (.int (lo + (i : Nat) * c)))) H2 R)
    (q : ∀ D H2, H1 D = none → Same H1 H2 → H2 D = some (.lst (((List.range n).filter p).map g)) → Q (.ref D) H2) : LcG (Itc lo c n) H1 (gName j) tt te [j] σ Q :=
  k_lcG (item := fun i => .int (lo + (i : Nat) * c)) p g hz (fun i H2 _ h => h) (fun i H2 x H' _ _ y => ⟨y.1, y.2⟩) (fun H2 _ => Nat.le_refl _) ht hv q
theorem k_lclf {a : Addr} {xs : List V} {j : Nat} {tt : TT} (hx : SqL K H1 a xs) (p : Nat → Bool) (g : Nat → V) (hz : xs.length ≤ 1000000)
    (ht : ∀ i H2 (R : Bool → Hp → Prop), i < xs.length → Same H1 H2 → (∀ H3, Same H2 H3 → R (p i) H3) → tt (σ.set j (some (xs.getD i .non))) H2 R)
    (hv : ∀ i H2 (R : VK), i < xs.length → p i = true → Same H1 H2 → (∀ H3, Same H2 H3 → R (g i) H3) → te (σ.set j (some (xs.getD i .non))) H2 R)
    (q : ∀ D H2, H1 D = none → Same H1 H2 → H2 D = some (.lst (((List.range xs.length).filter p).map g)) → Q (.ref D) H2) : LcG (Itl K a) H1 (gName j) tt te [j] σ Q :=
  k_lcG (item := fun i => xs.getD i .non) p g hz (fun i H2 s h => ⟨xs, xs[i], same_l s hx, by simp [h]⟩) (fun i H2 x H' s h y => by
    obtain ⟨e, y⟩ := y
    refine ⟨e, ?_⟩
    have := y xs (same_l s hx)
    rw [List.getD_eq_getElem?_getD, this]; rfl) (fun H2 s => ⟨xs, same_l s hx, Nat.le_refl _⟩) ht hv q
theorem range_all {α : Type} (xs : List α) (d : α) : ((List.range xs.length).filter fun _ => true).map (fun i => xs.getD i d) = xs := by
  rw [List.filter_eq_self.mpr (fun _ _ => rfl)]
  apply List.ext_getElem
  · simp
  · intro i h1 h2
    simp [List.getD_eq_getElem?_getD, List.getElem?_eq_getElem h2]
/-! ### operators by values -/
def rAddA : R2 := fun x y H Q => rI0 (fun i j => .int (i + j)) x y H Q ∨ (∃ i j, x = .str i ∧ y = .str j ∧ i.length + j.length ≤ sizeLine ∧ Q (.str (i ++ j)) H) ∨ rCat x y H Q
theorem op_addA {X : Cx} : OpR X (binaryOp .Add) rAddA := op_add.or (op_add_str.or op_cat)
theorem k_add (q : Q (.int (a + b)) H) : rAddA (.int a) (.int b) H Q := .inl ⟨a, b, rfl, rfl, q⟩
theorem k_cat {l c : Addr} {xs zs : List V} (h1 : H l = some (.lst xs)) (h2 : H c = some (.lst zs)) (hl : xs.length + zs.length ≤ 16000000) (h : ∀ p H2, H p = none → Same H H2 → H2 p = some (.lst (xs ++ zs)) → Q (.ref p) H2) : rAddA (.ref l) (.ref c) H Q :=
  .inr (.inr ⟨l, c, xs, zs, rfl, rfl, h1, h2, Nat.le_trans hl (by rw [sizeLine_eq]; decide), fun p hp => h p _ hp (same_new hp) upd_same⟩)
def rEqA (K : PySem.W.Frag) : R2 := fun x y H Q => rEq x y H Q ∨ rEqD K x y H Q
def rNeA (K : PySem.W.Frag) : R2 := fun x y H Q => rNe x y H Q ∨ rNeD K x y H Q
theorem op_eqA {X : Cx} (hu : X.A.units + 64 < cLine) : OpR X (compareOp .Eq) (rEqA X.K) := op_eq.or (op_eqD hu)
theorem op_neA {X : Cx} (hu : X.A.units + 64 < cLine) : OpR X (compareOp .NotEq) (rNeA X.K) := op_ne.or (op_neD hu)
theorem dec_i : decide (V.int a = V.int b) = decide (a = b) := by
  by_cases h : a = b
  · subst h; simp
  · rw [decide_eq_false h, decide_eq_false (fun e => h (V.int.inj e))]
theorem dec_b {a b : Bool} : decide (V.bl a = V.bl b) = decide (a = b) := by
  by_cases h : a = b
  · subst h; simp
  · rw [decide_eq_false h, decide_eq_false (fun e => h (V.bl.inj e))]
theorem dec_s {a b : Str} : decide (V.str a = V.str b) = decide (a = b) := by
  by_cases h : a = b
  · subst h; simp
  · rw [decide_eq_false h, decide_eq_false (fun e => h (V.str.inj e))]
theorem k_eq (q : Q (.bl (decide (a = b))) H) : rEqA K (.int a) (.int b) H Q := .inl ⟨rfl, by rw [dec_i]; exact q⟩
theorem k_ne (q : Q (.bl (!decide (a = b))) H) : rNeA K (.int a) (.int b) H Q := .inl ⟨rfl, by rw [dec_i]; exact q⟩
theorem k_eqb {a b : Bool} (q : Q (.bl (decide (a = b))) H) : rEqA K (.bl a) (.bl b) H Q := .inl ⟨rfl, by rw [dec_b]; exact q⟩
theorem k_neb {a b : Bool} (q : Q (.bl (!decide (a = b))) H) : rNeA K (.bl a) (.bl b) H Q := .inl ⟨rfl, by rw [dec_b]; exact q⟩
theorem k_eqs {a b : Str} (q : Q (.bl (decide (a = b))) H) : rEqA K (.str a) (.str b) H Q := .inl ⟨rfl, by rw [dec_s]; exact q⟩
theorem k_nes {a b : Str} (q : Q (.bl (!decide (a = b))) H) : rNeA K (.str a) (.str b) H Q := .inl ⟨rfl, by rw [dec_s]; exact q⟩
theorem k_ixT {p : Addr} {xs : List V} {i : Int} (h : SqT K H p xs) (ha : atI xs i = some v) (q : Q v H) : rIx K (.ref p) (.int i) H Q := .inr (.inl ⟨p, xs, i, v, rfl, rfl, h, ha, q⟩)
theorem k_ixL {p : Addr} {xs : List V} {i : Int} (h : SqL K H p xs) (ha : atI xs i = some v) (q : Q v H) : rIx K (.ref p) (.int i) H Q := .inl ⟨p, xs, i, v, rfl, rfl, h, ha, q⟩
theorem inV_ints {a : Int} : ∀ l : List Int, inV (.int a) (l.map V.int) = decide (a ∈ l)
  | [] => rfl
  | x :: r => by
    have ih := inV_ints (a := a) r
    show (inV (.int a) (.int x :: r.map V.int)) = _
    unfold inV at ih ⊢
    rw [List.any_cons, ih]
    have e : eqV (.int x) (.int a) = decide (a = x) := by
      show (x == a) = decide (a = x)
      by_cases h : a = x
      · subst h; simp
      · rw [decide_eq_false h]; simpa using fun e => h e.symm
    by_cases h : a = x
    · subst h; simp [e]
    · simp [e, h]
theorem flat_ints : ∀ l : List Int, (l.map V.int).all flatV = true
  | [] => rfl
  | x :: r => by rw [List.map_cons, List.all_cons, flat_ints r]; rfl
theorem k_inL {neg : Bool} {p : Addr} {l : List Int} (h : SqL K H p (l.map V.int)) (q : Q (.bl (if neg then !decide (a ∈ l) else decide (a ∈ l))) H) : rIn K neg (.int a) (.ref p) H Q :=
  ⟨p, l.map V.int, rfl, .inl h, rfl, flat_ints l, by rw [inV_ints]; exact q⟩
theorem k_notinL {p : Addr} {l : List Int} (h : SqL K H p (l.map V.int)) (q : Q (.bl (!decide (a ∈ l))) H) : rIn K true (.int a) (.ref p) H Q := k_inL (neg := true) h q
theorem k_inL' {p : Addr} {l : List Int} (h : SqL K H p (l.map V.int)) (q : Q (.bl (decide (a ∈ l))) H) : rIn K false (.int a) (.ref p) H Q := k_inL (neg := false) h q
theorem inV2 {x y : Int} : inV (.int a) [.int x, .int y] = decide (a = x ∨ a = y) := by
  have h := inV_ints (a := a) [x, y]
  have e : (decide (a ∈ [x, y])) = decide (a = x ∨ a = y) := by
    have : a ∈ [x, y] ↔ (a = x ∨ a = y) := by simp
    simp [this]
  exact h.trans e
theorem k_notin2 {p : Addr} {x y : Int} (h : SqL K H p [.int x, .int y]) (q : Q (.bl (!decide (a = x ∨ a = y))) H) : rIn K true (.int a) (.ref p) H Q :=
  ⟨p, _, rfl, .inl h, rfl, rfl, by rw [inV2]; exact q⟩
theorem k_in2 {p : Addr} {x y : Int} (h : SqL K H p [.int x, .int y]) (q : Q (.bl (decide (a = x ∨ a = y))) H) : rIn K false (.int a) (.ref p) H Q :=
  ⟨p, _, rfl, .inl h, rfl, rfl, by rw [inV2]; exact q⟩
def rIsN : R2 := fun x y H Q => y = .non ∧ Q (.bl (decide (x = .non))) H
def rNotN : R2 := fun x y H Q => y = .non ∧ Q (.bl (!decide (x = .non))) H
theorem kb_isN {X : Cx} : OpR X (compareOp .Is) rIsN := op_isN
theorem kb_notN {X : Cx} : OpR X (compareOp .IsNot) rNotN := op_notN
theorem k_isN_n (q : Q (.bl true) H) : rIsN .non .non H Q := ⟨rfl, q⟩
theorem k_isN_i (q : Q (.bl false) H) : rIsN (.int a) .non H Q := ⟨rfl, q⟩
theorem k_isN_r {p : Addr} (q : Q (.bl false) H) : rIsN (.ref p) .non H Q := ⟨rfl, q⟩
theorem k_notN_n (q : Q (.bl false) H) : rNotN .non .non H Q := ⟨rfl, q⟩
theorem k_notN_i (q : Q (.bl true) H) : rNotN (.int a) .non H Q := ⟨rfl, q⟩
theorem k_notN_r {p : Addr} (q : Q (.bl true) H) : rNotN (.ref p) .non H Q := ⟨rfl, q⟩
/-! ### == of pairs and lists of ints -/
theorem dp_ints : ∀ l : List Int, DpAll K H (l.map V.int) (l.map PyData.int)
  | [] => .nil
  | x :: r => .cons (.int x) (dp_ints r)
theorem eqv_ints : ∀ l m : List Int, PyData.eqvAll (l.map PyData.int) (m.map PyData.int) = decide (l = m)
  | [], [] => by simp [PyData.eqvAll]
  | [], _ :: _ => by simp [PyData.eqvAll]
  | _ :: _, [] => by simp [PyData.eqvAll]
  | x :: r, y :: t => by
    rw [List.map_cons, List.map_cons, PyData.eqvAll, eqv_ints r t, PyData.eqv]
    by_cases h : x = y <;> simp [h]
theorem shaped_tints (l : List Int) : SeqAt.shaped (.tuple (l.map PyData.int)) = true := by
  have h1 : ∀ l : List Int, PyData.canLayAll0 (l.map PyData.int) = true := fun l => by
    induction l with
    | nil => rfl
    | cons x r ih => rw [List.map_cons]; simp [PyData.canLayAll0, PyData.canLay0, ih]
  have h2 : ∀ l : List Int, PyData.depthAll (l.map PyData.int) ≤ 1 := fun l => by
    induction l with
    | nil => simp [PyData.depthAll]
    | cons x r ih => rw [List.map_cons]; simp [PyData.depthAll, PyData.depth]; omega
  have := h2 l
  simp [SeqAt.shaped, PyData.canLay0, PyData.depth, h1 l]
  omega
theorem shaped_lints (l : List Int) : SeqAt.shaped (.list (l.map PyData.int)) = true := by
  have h1 : ∀ l : List Int, PyData.canLayAll0 (l.map PyData.int) = true := fun l => by
    induction l with
    | nil => rfl
    | cons x r ih => rw [List.map_cons]; simp [PyData.canLayAll0, PyData.canLay0, ih]
  have h2 : ∀ l : List Int, PyData.depthAll (l.map PyData.int) ≤ 1 := fun l => by
    induction l with
    | nil => simp [PyData.depthAll]
    | cons x r ih => rw [List.map_cons]; simp [PyData.depthAll, PyData.depth]; omega
  have := h2 l
  simp [SeqAt.shaped, PyData.canLay0, PyData.depth, h1 l]
  omega
theorem k_eqT {p q : Addr} {l m : List Int} (h1 : SqT K H p (l.map V.int)) (h2 : SqT K H q (m.map V.int)) (r : Q (.bl (decide (l = m))) H) : rEqA K (.ref p) (.ref q) H Q :=
  .inr ⟨_, _, .tup h1 (dp_ints l), .tup h2 (dp_ints m), shaped_tints l, shaped_tints m, by rw [PyData.eqv, eqv_ints]; exact r⟩
theorem k_neT {p q : Addr} {l m : List Int} (h1 : SqT K H p (l.map V.int)) (h2 : SqT K H q (m.map V.int)) (r : Q (.bl (!decide (l = m))) H) : rNeA K (.ref p) (.ref q) H Q :=
  .inr ⟨_, _, .tup h1 (dp_ints l), .tup h2 (dp_ints m), shaped_tints l, shaped_tints m, by rw [PyData.eqv, eqv_ints]; exact r⟩
theorem k_eqL {p q : Addr} {l m : List Int} (h1 : SqL K H p (l.map V.int)) (h2 : SqL K H q (m.map V.int)) (r : Q (.bl (decide (l = m))) H) : rEqA K (.ref p) (.ref q) H Q :=
  .inr ⟨_, _, .lst h1 (dp_ints l), .lst h2 (dp_ints m), shaped_lints l, shaped_lints m, by rw [PyData.eqv, eqv_ints]; exact r⟩
theorem k_neL {p q : Addr} {l m : List Int} (h1 : SqL K H p (l.map V.int)) (h2 : SqL K H q (m.map V.int)) (r : Q (.bl (!decide (l = m))) H) : rNeA K (.ref p) (.ref q) H Q :=
  .inr ⟨_, _, .lst h1 (dp_ints l), .lst h2 (dp_ints m), shaped_lints l, shaped_lints m, by rw [PyData.eqv, eqv_ints]; exact r⟩
theorem k_eqP {p q : Addr} {c d : Int} (h1 : SqT K H p [.int a, .int b]) (h2 : SqT K H q [.int c, .int d]) (r : Q (.bl (decide (a = c ∧ b = d))) H) : rEqA K (.ref p) (.ref q) H Q :=
  k_eqT (l := [a, b]) (m := [c, d]) h1 h2 (by
    have e : decide ([a, b] = [c, d]) = decide (a = c ∧ b = d) := by simp
    rw [e]; exact r)
theorem k_neP {p q : Addr} {c d : Int} (h1 : SqT K H p [.int a, .int b]) (h2 : SqT K H q [.int c, .int d]) (r : Q (.bl (!decide (a = c ∧ b = d))) H) : rNeA K (.ref p) (.ref q) H Q :=
  k_neT (l := [a, b]) (m := [c, d]) h1 h2 (by
    have e : decide ([a, b] = [c, d]) = decide (a = c ∧ b = d) := by simp
    rw [e]; exact r)
/-! ### calls of built-ins by values -/
def rAbs : List V → Hp → VK → Prop := fun xs H Q => ∃ i, xs = [.int i] ∧ Q (.int (if i < 0 then -i else i)) H
theorem cb_abs {X : Cx} : CallR X (.builtin "abs") rAbs := call_abs
theorem k_abs (q : Q (.int (if a < 0 then -a else a)) H) : rAbs [.int a] H Q := ⟨a, rfl, q⟩
def rMax2 : List V → Hp → VK → Prop := fun xs H Q => ∃ i j, xs = [.int i, .int j] ∧ Q (.int (if j > i then j else i)) H
theorem cb_max2 {X : Cx} (hc : X.calm = true) : CallR X (.builtin "max") rMax2 := call_max2 hc
theorem k_max2 (q : ∀ k : Int, (k = a ∨ k = b) → a ≤ k → b ≤ k → Q (.int k) H) : rMax2 [.int a, .int b] H Q := ⟨a, b, rfl, by split <;> exact q _ (by omega) (by omega) (by omega)⟩
def rMin2 : List V → Hp → VK → Prop := fun xs H Q => ∃ i j, xs = [.int i, .int j] ∧ Q (.int (if j < i then j else i)) H
theorem cb_min2 {X : Cx} (hc : X.calm = true) : CallR X (.builtin "min") rMin2 := call_min2 hc
theorem k_min2 (q : ∀ k : Int, (k = a ∨ k = b) → k ≤ a → k ≤ b → Q (.int k) H) : rMin2 [.int a, .int b] H Q := ⟨a, b, rfl, by split <;> exact q _ (by omega) (by omega) (by omega)⟩
def rLen (K : PySem.W.Frag) : List V → Hp → VK → Prop := fun xs H Q => ∃ x n, xs = [x] ∧ LenV K x H n ∧ Q (.int n) H
theorem cb_len {X : Cx} : CallR X (.builtin "len") (rLen X.K) := call_len
theorem k_lenL {p : Addr} {xs : List V} (h : SqL K H p xs) (q : Q (.int (xs.length : Int)) H) : rLen K [.ref p] H Q := ⟨.ref p, xs.length, rfl, .inl ⟨xs, h, rfl⟩, q⟩
theorem k_lenT {p : Addr} {xs : List V} (h : SqT K H p xs) (q : Q (.int (xs.length : Int)) H) : rLen K [.ref p] H Q := ⟨.ref p, xs.length, rfl, .inr ⟨xs, h, rfl⟩, q⟩
def rDivmod : List V → Hp → VK → Prop := fun xs H Q => ∃ i j, xs = [.int i, .int j] ∧ CDivP i j ∧ ∀ p, H p = none → Q (.ref p) (upd H p (.tup [.int (i / j), .int (i % j)]))
theorem cb_divmod {X : Cx} : CallR X (.builtin "divmod") rDivmod := call_divmodW
theorem k_divmod (c : CDivP a b) (h : ∀ p H2, H p = none → Same H H2 → H2 p = some (.tup [.int (a / b), .int (a % b)]) → Q (.ref p) H2) : rDivmod [.int a, .int b] H Q :=
  ⟨a, b, rfl, c, fun p hp => h p _ hp (same_new hp) upd_same⟩
theorem k_sum {p : Addr} {l : List Int} (h : SqL K H p (l.map V.int)) (q : Q (.int l.sum) H) : rSum K [.ref p] H Q := ⟨p, l, rfl, h, q⟩
theorem k_all {p : Addr} {l : List Bool} (h : SqL K H p (l.map V.bl)) (q : Q (.bl (l.all id)) H) : rAll K [.ref p] H Q := ⟨p, l, rfl, h, q⟩
theorem k_any {p : Addr} {l : List Bool} (h : SqL K H p (l.map V.bl)) (q : Q (.bl (l.any id)) H) : rAny K [.ref p] H Q := ⟨p, l, rfl, h, q⟩
def BitsV (x : V) (H : Hp) (Q : VK) : Prop := ∃ i, x = .int i ∧ Q (.int (Builtin.Int.intBits i : Nat)) H
theorem k_bits (h : ta σ H fun x H1 => BitsV x H1 Q) : tBits ta σ H Q := h
theorem k_bitsV (q : Q (.int (Builtin.Int.intBits a : Nat)) H) : BitsV (.int a) H Q := ⟨a, rfl, q⟩
def rInt : List V → Hp → VK → Prop := fun xs H Q => (∃ i, xs = [.int i] ∧ Q (.int i) H) ∨ ∃ k, xs = [.bl k] ∧ Q (.int (if k then 1 else 0)) H
theorem cb_int {X : Cx} : CallR X (.type "int") rInt := call_int1
theorem k_intI (q : Q (.int a) H) : rInt [.int a] H Q := .inl ⟨a, rfl, q⟩
theorem k_intB {c : Bool} (q : Q (.int (if c then 1 else 0)) H) : rInt [.bl c] H Q := .inr ⟨c, rfl, q⟩
theorem k_isi_ii (q : Q (.bl true) H) : rIsi K [.int a, .ty "int"] H Q := ⟨.int a, .ty "int", .type "int", .type "int", true, rfl, .ty _, .base (.int _), kit_ty (by decide +kernel), q⟩
theorem k_isi_ib (q : Q (.bl false) H) : rIsi K [.int a, .ty "bool"] H Q := ⟨.int a, .ty "bool", .type "int", .type "bool", false, rfl, .ty _, .base (.int _), kit_ty (by decide +kernel), q⟩
theorem k_isi_bb {c : Bool} (q : Q (.bl true) H) : rIsi K [.bl c, .ty "bool"] H Q := ⟨.bl c, .ty "bool", .type "bool", .type "bool", true, rfl, .ty _, .base (.bl _), kit_ty (by decide +kernel), q⟩
theorem k_isi_it (q : Q (.bl false) H) : rIsi K [.int a, .ty "tuple"] H Q := ⟨.int a, .ty "tuple", .type "int", .type "tuple", false, rfl, .ty _, .base (.int _), kit_ty (by decide +kernel), q⟩
theorem tyx_t {p : Addr} {xs : List V} (h : SqT K H p xs) : TyX K H (.ref p) (.type "tuple") := by
  rcases h with (h | ⟨o, h⟩) | ⟨o, its, n, l, c, _⟩
  · exact .base (.tup h)
  · exact .fTuple h
  · exact .kTuple l c
theorem k_isi_tt {p : Addr} {xs : List V} (h : SqT K H p xs) (q : Q (.bl true) H) : rIsi K [.ref p, .ty "tuple"] H Q := ⟨.ref p, .ty "tuple", .type "tuple", .type "tuple", true, rfl, .ty _, tyx_t h, kit_ty (by decide +kernel), q⟩
/-! ### the rules that speak of the written part, by its own letter -/
section
variable {X : Cx} (K : PySem.W.Frag) (hK : X.K = K := by rfl)
include hK
theorem kb_ix : IxR X (rIx K) := hK ▸ ix_seq
theorem kb_eq (hu : X.A.units + 64 < cLine) : OpR X (compareOp .Eq) (rEqA K) := hK ▸ op_eqA hu
theorem kb_ne (hu : X.A.units + 64 < cLine) : OpR X (compareOp .NotEq) (rNeA K) := hK ▸ op_neA hu
theorem kb_in : OpR X (compareOp .In) (rIn K false) := hK ▸ op_in_seq
theorem kb_notIn : OpR X (compareOp .NotIn) (rIn K true) := hK ▸ op_notIn_seq
theorem kb_len : CallR X (.builtin "len") (rLen K) := hK ▸ cb_len
theorem kb_isi : CallR X (.builtin "isinstance") (rIsi K) := hK ▸ call_isi
theorem kb_sum (hc : X.calm = true) : CallR X (.builtin "sum") (rSum K) := hK ▸ cr_sum hc
theorem kb_max (hc : X.calm = true) : CallR X (.builtin "max") (rMax K) := hK ▸ cr_max hc
theorem kb_min (hc : X.calm = true) : CallR X (.builtin "min") (rMin K) := hK ▸ cr_min hc
theorem kb_all (hc : X.calm = true) : CallR X (.builtin "all") (rAll K) := hK ▸ cr_all hc
theorem kb_any (hc : X.calm = true) : CallR X (.builtin "any") (rAny K) := hK ▸ cr_any hc
end
/-- // by any divisor but 0, below 2 ^ 9000 -/
def CDivX (_ j : Int) : Prop := j ≠ 0 ∧ j.natAbs.log2 < 9000
theorem op_fdivX {X : Cx} : OpR X (binaryOp .FloorDiv) (rI CDivX fun i j => .int (i.fdiv j)) := opI fun i j _ _ _ _ _ hc q => floordiv_int hc.1 q (.inl (PyProof.noPylong_of_log2 hc.2))
/-- a power of written numbers -/
theorem pe_powc {X : Cx} {b e n : Int} {j1 j2 : Nat} {p1 p2 pos : Pos} (h : (0 ≤ e ∧ e ≤ 1000000 ∧ b.natAbs < 2 ^ 64) ∧ b ^ e.toNat = n) : PE X (.BinOp (.Constant (.int b) j1 p1) .Pow (.Constant (.int e) j2 p2) pos) (tC (.int n)) :=
  ⟨fun pins s σ H Q I q => (pe_op (X := X) op_pow pe_int pe_int).run pins s σ H Q I ⟨b, e, rfl, rfl, h.1, by show Q (.int (b ^ e.toNat)) H; rw [h.2]; exact q⟩⟩
end
/-! ### sizes -/
structure Sm (n : Nat) (i : Int) : Prop where
  h : i.natAbs < 2 ^ n
theorem sm_lit {i : Int} (h : i.natAbs < 2 ^ 400) : Sm 400 i := ⟨h⟩
theorem sm_mono {a b : Nat} {i : Int} (h : Sm a i) (hab : a ≤ b) : Sm b i := ⟨Nat.lt_of_lt_of_le h.h (Nat.pow_le_pow_right (by decide) hab)⟩
theorem sm41 {i : Int} (h1 : -1000000000000000000000000000000000000000000000000000000000000 ≤ i) (h2 : i ≤ 1000000000000000000000000000000000000000000000000000000000000) : Sm 200 i := by
  have e : (2 : Nat) ^ 200 = 1606938044258990275541962092341162602522202993782792835301376 := by decide
  refine ⟨?_⟩
  rw [e]; omega
theorem mul_bd {x k X Y : Int} (h1 : 1 ≤ x) (h2 : x ≤ X) (h3 : 1 ≤ k) (h4 : k ≤ Y) : 1 ≤ x * k ∧ x * k ≤ X * Y := by
  refine ⟨Int.mul_pos (by omega) (by omega), ?_⟩
  exact Int.mul_le_mul h2 h4 (by omega) (by omega)
theorem mul_bd2 {x k X Y : Int} (h1 : -X ≤ x) (h2 : x ≤ X) (h3 : -Y ≤ k) (h4 : k ≤ Y) : -(X * Y) ≤ x * k ∧ x * k ≤ X * Y := by
  have e : (x * k).natAbs ≤ X.natAbs * Y.natAbs := by rw [Int.natAbs_mul]; exact Nat.mul_le_mul (by omega) (by omega)
  have e2 : ((X.natAbs * Y.natAbs : Nat) : Int) = X * Y := by
    rw [Int.natCast_mul, show ((X.natAbs : Nat) : Int) = X by omega, show ((Y.natAbs : Nat) : Int) = Y by omega]
  omega
theorem sm_mul {i j : Int} {a b : Nat} (ha : Sm a i) (hb : Sm b j) : Sm (a + b) (i * j) := ⟨wide_lt ha.h hb.h⟩
theorem sm_bits {i : Int} {n : Nat} (h : Builtin.Int.intBits i ≤ n) : Sm n i := by
  unfold Builtin.Int.intBits at h
  split at h
  · rename_i z
    have : i = 0 := by simpa using z
    subst this
    exact ⟨Nat.pow_pos (by decide)⟩
  · rename_i z
    have hz : i.natAbs ≠ 0 := by
      intro q
      apply z
      have : i = 0 := by omega
      subst this
      decide
    exact ⟨Nat.lt_of_lt_of_le ((Nat.log2_lt hz).mp (Nat.lt_succ_self _)) (Nat.pow_le_pow_right (by decide) h)⟩
theorem sm_mulx {i j : Int} {a b : Nat} (ha : Sm a i) (hb : Sm b j) (h : a + b ≤ 134217728) : CMulX i j := mulx_ok ha.h hb.h h
theorem modbd {y n B : Int} (hn : 1 ≤ n) (h : n ≤ B) : 0 ≤ y % n ∧ y % n ≤ B := ⟨Int.emod_nonneg _ (by omega), by have := Int.emod_lt_of_pos y (show 0 < n by omega); omega⟩
theorem sm_divx {i j : Int} {b : Nat} (h : j ≠ 0) (hb : Sm b j) (h0 : 0 < b) (h9 : b ≤ 9000) : CDivX i j := ⟨h, Nat.lt_of_lt_of_le (PySem.Flt.log2_lt_of h0 hb.h) h9⟩
theorem sm_div {i j : Int} {b : Nat} (h : 0 < j) (hb : Sm b j) (h0 : 0 < b) (h9 : b ≤ 9000) : CDivW i j := wide_div h hb.h h0 h9
/-! ### range of great numbers -/
theorem turn_rangeL {P : Program} {w : World} {K : PySem.W.Frag} {tg : Expr} (it : Addr) (lo c : Int) (n : Nat) : Turn P w K tg (Itc lo c n) [it] it (fun i h => PySem.IsLongIter h it (lo + (i : Nat) * c) ((n : Int) - (i : Nat)) c) where
  mem := by simp
  obj := fun i h st b hb => by
    have e : b = it := by simpa using hb
    subst e
    exact ⟨_, st, fun v z => nomatch z⟩
  keep := fun i h h' st k => k it (by simp) _ st
  item := by
    intro X hP hw hK hc i pins s σ H E I hf st hg
    subst hP hw hK
    obtain ⟨f0, f1, f2, f3, f4, f5⟩ := hf it (by simp)
    have W := Walks.longrange (prog := X.prog) (w := X.w) (I.ok.hd hc) it lo c n
    refine W.item i s _ _ hg st fun v h' tk hv st' kk => ?_
    obtain ⟨t, rfl⟩ := hv
    have I1 : Inv X pins σ H { s with heap := h', toks := tk } := I.turned (fun b o hb e => kk b o (by simpa using hb) e) f0 f1 f3 f4 f5
    exact ⟨_, rfl, go_of (s := { s with heap := h', toks := tk }) (n := "longrange_iterator") st' rfl rfl (by decide) ⟨.int (lo + (i : Nat) * c), H, I1, ⟨t, rfl⟩, ⟨rfl, rfl⟩, st', fun b hb => (hf b hb).1⟩⟩
  done := by
    intro X hP hw hK hc i pins s σ H E I hf st hg
    subst hP hw hK
    obtain ⟨f0, f1, f2, f3, f4, f5⟩ := hf it (by simp)
    exact PySem.wpAny_pyNext_long_end (I.ok.hd hc) st (by have : n ≤ i := hg; omega) fun h' eb => ⟨rfl, I.turned (t' := s.toks) (fun b o hb e => eb b o hb e) f0 f1 f3 f4 f5⟩
  self := fun A i s Q E st h => PySem.wpAny_pyIter_longiter st h
theorem itc_one (lo : Int) (n : Nat) : Itc lo 1 n = Itr lo n := by
  unfold Itc Itr
  simp only [Int.mul_one]
def Rng2L (vs : List V) (H : Hp) (R : It → Hp → Prop) : Prop := ∃ i j : Int, vs = [.int i, .int j] ∧ R (Itr i (j - i).toNat) H
def iRng2L (ta : TA) : TI := fun σ H R => ta σ H fun vs H1 => Rng2L vs H1 R
theorem pi_range2L {X : Cx} {tg : Expr} {a b : Expr} {ta : TA} {p pos : Pos} (hg : Gl X "range") (hm : X.mg "range" = none) (ha : PA X [a, b] ta) (hs : starEach [a, b] X.env = [(false, eval a X.env), (false, eval b X.env)] := by rfl) (hs2 : starEach [b] X.env = [(false, eval b X.env)] := by rfl) :
    PI X tg (.Call (.Name "range" p) [a, b] [] pos) (iRng2L ta) := by
  refine ⟨fun pins s σ H R I h => ?_⟩
  refine Call_ (ld_blt I hg hm boot_range (PyProof.Rows.callWith_type1 (thn (ha.run pos pins s σ H _ I h) fun us s1 ⟨vs, H1, I1, r1, q1⟩ => ?_) (by rw [hs, hs2]) (by rw [hs2]; rfl)))
  obtain ⟨i, j, e, q⟩ := q1
  subst e
  cases r1 with
  | cons r rr =>
    cases rr with
    | cons r' rr =>
      cases rr
      obtain ⟨t, rfl⟩ := r
      obtain ⟨t', rfl⟩ := r'
      refine PySem.call_range_2 ?_
      have I2 : Inv X pins σ H1 { s1 with heap := s1.heap.push { cls := .type "range", data := .fields #[.int i t, .int j t', .int 1 s1.toks] }, toks := s1.toks + 1 } := I1.kept (t' := s1.toks + 1) fun b o e => Heap.get?_push_of_some _ e
      have e1 : i + ((0 : Nat) : Int) * 1 = i := by simp
      have e2 : (((j - i).toNat : Nat) : Int) - ((0 : Nat) : Int) = Builtin.Range.rangeSize i j 1 := by rw [PyProof.Rows.rangeSize_nat]; simp
      rw [← itc_one] at q
      cases hsm : Builtin.Range.small i j 1 with
      | true =>
        refine wpAny_pyIter_range (IsRange.new ..) hsm ?_
        refine pi_one (tk := s1.toks + 1) I2 _ (turn_rangeC _ i 1 (j - i).toNat) ?_ q
        show IsRangeIter _ _ (i + ((0 : Nat) : Int) * 1) ((((j - i).toNat : Nat) : Int) - ((0 : Nat) : Int)) 1
        rw [e1, e2]
        exact Heap.get?_push_size _ rfl
      | false =>
        refine wpAny_pyIter_longrange (IsRange.new ..) hsm ?_
        refine pi_one (tk := s1.toks + 1) I2 _ (turn_rangeL _ i 1 (j - i).toNat) ?_ q
        show IsLongIter _ _ (i + ((0 : Nat) : Int) * 1) ((((j - i).toNat : Nat) : Int) - ((0 : Nat) : Int)) 1
        rw [e1, e2]
        exact Heap.get?_push_size _ rfl
section
variable {σ : L2.St} {H : Hp} {tr : TA} {m n : Int}
theorem k_irng2L {R : It → Hp → Prop} (h : tr σ H fun vs H1 => Rng2L vs H1 R) : iRng2L tr σ H R := h
theorem k_rng2L {R : It → Hp → Prop} (h : R (Itr m (n - m).toNat) H) : Rng2L [V.int m, V.int n] H R := ⟨m, n, rfl, h⟩
end
theorem b_dec {b : Bool} {p : Prop} [Decidable p] (h : b = true ↔ p) : b = decide p := by
  by_cases hp : p
  · rw [decide_eq_true hp]; exact h.mpr hp
  · rw [decide_eq_false hp]
    cases hb : b with
    | false => rfl
    | true => exact absurd (h.mp hb) hp
/-- a test that something differs, where it does not -/
theorem if_same {p A B : Prop} [Decidable p] (h : p) (h2 : B) : if (!decide p) = true then A else B := if_ndec (fun hn => absurd h hn) (fun _ => h2)
theorem inV3 {a x y z : Int} : inV (.int a) [.int x, .int y, .int z] = decide (a = x ∨ a = y ∨ a = z) := by
  have h := inV_ints (a := a) [x, y, z]
  have e : (decide (a ∈ [x, y, z])) = decide (a = x ∨ a = y ∨ a = z) := by
    have : a ∈ [x, y, z] ↔ (a = x ∨ a = y ∨ a = z) := by simp
    simp [this]
  exact h.trans e
theorem k_in3 {K : PySem.W.Frag} {H : Hp} {Q : VK} {a : Int} {p : Addr} {x y z : Int} (h : SqL K H p [.int x, .int y, .int z]) (q : Q (.bl (decide (a = x ∨ a = y ∨ a = z))) H) : rIn K false (.int a) (.ref p) H Q :=
  ⟨p, _, rfl, .inl h, rfl, rfl, by rw [inV3]; exact q⟩
/-! ### words that are known -/
theorem if_seq {a b : Str} {A B : Prop} (h : a = b) (x : A) : if decide (a = b) = true then A else B := if_dec (fun _ => x) (fun hn => absurd h hn)
theorem if_sne {a b : Str} {A B : Prop} (h : ¬ a = b) (x : B) : if decide (a = b) = true then A else B := if_dec (fun he => absurd he h) (fun _ => x)
theorem if_nseq {a b : Str} {A B : Prop} (h : a = b) (x : B) : if (!decide (a = b)) = true then A else B := if_ndec (fun hn => absurd h hn) (fun _ => x)
theorem if_nsne {a b : Str} {A B : Prop} (h : ¬ a = b) (x : A) : if (!decide (a = b)) = true then A else B := if_ndec (fun _ => x) (fun he => absurd he h)
theorem or_split {t u : TT} {σ : L2.St} {H : Hp} {R : Bool → Hp → Prop} (p : Prop) (hT : p → R true H) (hF : ¬ p → R false H) (h : ∀ R' : Bool → Hp → Prop, (p → R' true H) → (¬ p → R' false H) → tOr t u σ H R') : tOr t u σ H R := h R hT hF
theorem and_split {t u : TT} {σ : L2.St} {H : Hp} {R : Bool → Hp → Prop} (p : Prop) (hT : p → R true H) (hF : ¬ p → R false H) (h : ∀ R' : Bool → Hp → Prop, (p → R' true H) → (¬ p → R' false H) → tAnd t u σ H R') : tAnd t u σ H R := h R hT hF
theorem dec_two {p : Prop} [Decidable p] {R : Bool → Prop} (a : p → R true) (b : ¬ p → R false) : R (decide p) := by
  by_cases h : p
  · rw [decide_eq_true h]; exact a h
  · rw [decide_eq_false h]; exact b h
theorem dec_twoN {p : Prop} [Decidable p] {R : Bool → Prop} (a : p → R false) (b : ¬ p → R true) : R (!decide p) := by
  by_cases h : p
  · rw [decide_eq_true h]; exact a h
  · rw [decide_eq_false h]; exact b h
section
variable {σ : L2.St} {H : Hp}
def PartV (x : V) (H : Hp) (Q : Option Int → Hp → Prop) : Prop := ∃ i, x = .int i ∧ Q (some i) H
theorem k_part {t : TE} {Q : Option Int → Hp → Prop} (h : t σ H fun x H1 => PartV x H1 Q) : tPart t σ H Q := h
theorem k_partV {i : Int} {Q : Option Int → Hp → Prop} (h : Q (some i) H) : PartV (.int i) H Q := ⟨i, rfl, h⟩
theorem k_nopart {Q : Option Int → Hp → Prop} (h : Q none H) : tNoPart σ H Q := h
end

section
open Int
/-! ### remainders: the mathematics -/
theorem gcd_abs (a b : Int) : Int.gcd (if a < 0 then -a else a) (if b < 0 then -b else b) = Int.gcd a b := by
  split <;> split <;> simp
theorem abs_nn (a : Int) : 0 ≤ (if a < 0 then -a else a) := by split <;> omega
theorem abs_le {a b : Int} (h1 : -b ≤ a) (h2 : a ≤ b) : (if a < 0 then -a else a) ≤ b := by split <;> omega
theorem gcd_mod (x y : Int) : Int.gcd y (x % y) = Int.gcd x y := by
  have e : x % y = x - y * (x / y) := Int.emod_def x y
  rw [e, Int.gcd_comm, Int.mul_comm, Int.gcd_sub_mul_right_left]
theorem gcd_zero (x : Int) (h : 0 ≤ x) : ((Int.gcd x 0 : Nat) : Int) = x := by
  rw [Int.gcd_zero_right]; omega
/-- the least common multiple of two numbers from 1 on, as the program reckons it -/
def lcmI (a b : Int) : Int := a / (Int.gcd a b : Nat) * b
theorem gcd_pos {a b : Int} (ha : 1 ≤ a) : 1 ≤ ((Int.gcd a b : Nat) : Int) := by
  have : Int.gcd a b ≠ 0 := fun h => by
    have := Int.gcd_eq_zero_iff.mp h
    omega
  omega
theorem gcd_le {a b : Int} (ha : 1 ≤ a) : ((Int.gcd a b : Nat) : Int) ≤ a := Int.le_of_dvd (by omega) (Int.gcd_dvd_left a b)
theorem gcd_le' {a b : Int} (hb : 1 ≤ b) : ((Int.gcd a b : Nat) : Int) ≤ b := Int.le_of_dvd (by omega) (Int.gcd_dvd_right a b)
theorem lcm_mul_gcd {a b : Int} (ha : 1 ≤ a) : lcmI a b * (Int.gcd a b : Nat) = a * b := by
  have h := Int.ediv_mul_cancel (Int.gcd_dvd_left a b)
  unfold lcmI
  rw [Int.mul_assoc, Int.mul_comm b, ← Int.mul_assoc, h]
theorem lcm_pos {a b : Int} (ha : 1 ≤ a) (hb : 1 ≤ b) : 1 ≤ lcmI a b := by
  have h := lcm_mul_gcd (b := b) ha
  have h1 := gcd_pos (b := b) ha
  have h2 : 0 < a * b := Int.mul_pos (by omega) (by omega)
  rw [← h] at h2
  have := Int.pos_of_mul_pos_left h2 (by omega)
  omega
theorem dvd_lcm_right (a b : Int) : b ∣ lcmI a b := ⟨_, Int.mul_comm _ _⟩
theorem dvd_lcm_left {a b : Int} (ha : 1 ≤ a) : a ∣ lcmI a b := by
  obtain ⟨k, hk⟩ := Int.gcd_dvd_right a b
  have h := lcm_mul_gcd (b := b) ha
  have h1 := gcd_pos (b := b) ha
  refine ⟨k, ?_⟩
  have e : lcmI a b * (Int.gcd a b : Nat) = a * k * (Int.gcd a b : Nat) := by
    rw [h, Int.mul_assoc, Int.mul_comm k, ← hk]
  exact Int.eq_of_mul_eq_mul_right (by omega) e
theorem lcm_comm {a b : Int} (ha : 1 ≤ a) (hb : 1 ≤ b) : lcmI a b = lcmI b a := by
  have h := lcm_mul_gcd (b := b) ha
  have h' := lcm_mul_gcd (b := a) hb
  have h1 := gcd_pos (b := b) ha
  rw [Int.gcd_comm b a, Int.mul_comm b a, ← h] at h'
  exact (Int.eq_of_mul_eq_mul_right (by omega) h').symm
theorem bezout_dvd {a b u v g x : Int} (e : u * a + v * b = g) (ha : x ∣ a) (hb : x ∣ b) : x ∣ g := by
  rw [← e]; exact Int.dvd_add (Int.dvd_mul_of_dvd_right ha) (Int.dvd_mul_of_dvd_right hb)
theorem lcm_least {a b x : Int} (ha : 1 ≤ a) (hb : 1 ≤ b) (h1 : a ∣ x) (h2 : b ∣ x) : lcmI a b ∣ x := by
  -- a * b divides x * gcd
  have hg := gcd_pos (b := b) ha
  have h := lcm_mul_gcd (b := b) ha
  have hd : a * b ∣ x * (Int.gcd a b : Nat) := by
    have e : x * ((Int.gcd a b : Nat) : Int) = ((Int.gcd (x * a) (x * b) : Nat) : Int) ∨ x * ((Int.gcd a b : Nat) : Int) = -((Int.gcd (x * a) (x * b) : Nat) : Int) := by
      rw [Int.gcd_mul_left, Int.natCast_mul]
      rcases Int.natAbs_eq x with hx | hx
      · left; rw [← hx]
      · right
        have : ((x.natAbs : Nat) : Int) = -x := by omega
        rw [this, Int.neg_mul, Int.neg_neg]
    have d1 : a * b ∣ x * a := by rw [Int.mul_comm x a]; exact Int.mul_dvd_mul (Int.dvd_refl a) h2
    have d2 : a * b ∣ x * b := by exact Int.mul_dvd_mul h1 (Int.dvd_refl b)
    have d3 := Int.dvd_coe_gcd d1 d2
    rcases e with e | e
    · rw [e]; exact d3
    · rw [e]; exact Int.dvd_neg.mpr d3
  rw [← h] at hd
  exact Int.dvd_of_mul_dvd_mul_right (by omega) hd
theorem lcm_le_mul {a b : Int} (ha : 1 ≤ a) (hb : 1 ≤ b) : lcmI a b ≤ a * b := by
  have h := lcm_mul_gcd (b := b) ha
  have hg := gcd_pos (b := b) ha
  have hl := lcm_pos ha hb
  have := Int.mul_le_mul_of_nonneg_left hg (show (0 : Int) ≤ lcmI a b by omega)
  omega
/-! ### the equation: one step, and how great its numbers grow -/
theorem eq_rest {r1 r2 : Int} (h : r2 ≠ 0) : (0 < r2 → 0 ≤ r1 - r1.fdiv r2 * r2 ∧ r1 - r1.fdiv r2 * r2 < r2) ∧ (r2 < 0 → r2 < r1 - r1.fdiv r2 * r2 ∧ r1 - r1.fdiv r2 * r2 ≤ 0) := by
  constructor
  · intro h0
    rw [Int.fdiv_eq_ediv_of_nonneg _ (by omega)]
    have e := Int.emod_def r1 r2
    rw [Int.mul_comm] at e
    rw [← e]
    exact ⟨Int.emod_nonneg _ h, Int.emod_lt_of_pos _ h0⟩
  · intro h0
    have e1 : r1.fdiv r2 = (-r1) / (-r2) := by
      rw [← Int.fdiv_eq_ediv_of_nonneg (-r1) (show 0 ≤ -r2 by omega), Int.neg_fdiv_neg]
    have e := Int.emod_def (-r1) (-r2)
    have p1 := Int.emod_nonneg (-r1) (show -r2 ≠ 0 by omega)
    have p2 := Int.emod_lt_of_pos (-r1) (show 0 < -r2 by omega)
    rw [e1]
    have : r1 - (-r1) / (-r2) * r2 = -((-r1) % (-r2)) := by
      rw [e, Int.neg_mul, Int.mul_comm r2]; omega
    rw [this]
    omega
theorem gcd_rest (r1 r2 q : Int) : Int.gcd r2 (r1 - q * r2) = Int.gcd r1 r2 := by
  rw [Int.gcd_comm, Int.gcd_sub_mul_right_left]
/-- the sum of both rests times the quotient is no more than four times the sum ahead -/
theorem eq_quot {r1 r2 : Int} (h : r2 ≠ 0) : (r1.fdiv r2).natAbs * r2.natAbs ≤ r1.natAbs + r2.natAbs := by
  have hr := eq_rest (r1 := r1) h
  rw [← Int.natAbs_mul]
  generalize r1.fdiv r2 * r2 = z at *
  rcases Int.lt_or_gt_of_ne h with h0 | h0
  · have := hr.2 h0; omega
  · have := hr.1 h0; omega
/-- numbers so far are at most M, M times the cube of the rests' sum at most B: it stays so -/
theorem eq_grow {r1 r2 : Int} {M B : Nat} (h : r2 ≠ 0) (hs : (0 < r1 ∧ 0 < r2) ∨ (r1 < 0 ∧ r2 < 0)) (hlt : r2.natAbs < r1.natAbs)
    (hB : M * (r1.natAbs + r2.natAbs) ^ 3 ≤ B) : (M * (1 + (r1.fdiv r2).natAbs)) * (r2.natAbs + (r1 - r1.fdiv r2 * r2).natAbs) ^ 3 ≤ B := by
  have hr := eq_rest (r1 := r1) h
  have key : (r1.fdiv r2).natAbs * r2.natAbs + (r1 - r1.fdiv r2 * r2).natAbs = r1.natAbs ∧ 1 ≤ (r1.fdiv r2).natAbs := by
    have e := Int.natAbs_mul (r1.fdiv r2) r2
    rw [← e]
    have q1 : r1.fdiv r2 ≠ 0 := by
      intro z
      rw [z, Int.zero_mul] at hr
      omega
    refine ⟨?_, by omega⟩
    have hq : 0 ≤ r1.fdiv r2 * r2 ∧ 0 < r2 ∨ r1.fdiv r2 * r2 ≤ 0 ∧ r2 < 0 := by
      rcases hs with hs | hs
      · left; refine ⟨?_, hs.2⟩
        have := hr.1 hs.2
        rw [Int.fdiv_eq_ediv_of_nonneg _ (by omega)]
        exact Int.mul_nonneg (Int.ediv_nonneg (by omega) (by omega)) (by omega)
      · right; refine ⟨?_, hs.2⟩
        have e1 : r1.fdiv r2 = (-r1) / (-r2) := by
          rw [← Int.fdiv_eq_ediv_of_nonneg (-r1) (show 0 ≤ -r2 by omega), Int.neg_fdiv_neg]
        rw [e1]
        exact Int.mul_nonpos_of_nonneg_of_nonpos (Int.ediv_nonneg (by omega) (by omega)) (by omega)
    generalize r1.fdiv r2 * r2 = z at *
    rcases hs with hs | hs
    · have := hr.1 hs.2; omega
    · have := hr.2 hs.2; omega
  have h3 : (r1 - r1.fdiv r2 * r2).natAbs < r2.natAbs := by
    generalize r1.fdiv r2 * r2 = z at *
    rcases hs with hs | hs
    · have := hr.1 hs.2; omega
    · have := hr.2 hs.2; omega
  generalize (r1 - r1.fdiv r2 * r2).natAbs = c at *
  generalize (r1.fdiv r2).natAbs = q at *
  generalize r2.natAbs = b at *
  generalize r1.natAbs = a at *
  obtain ⟨k1, k2⟩ := key
  -- S = a + b, S' = b + c; S' (1 + q) ≤ 2 S ; 3 S' ≤ 2 S
  have t1 : (b + c) * (1 + q) ≤ 2 * (a + b) := by
    have : (b + c) * (1 + q) ≤ (2 * b) * (1 + q) := Nat.mul_le_mul_right _ (by omega)
    have e : (2 * b) * (1 + q) = 2 * b + 2 * (q * b) := by rw [Nat.mul_add, Nat.mul_one, Nat.mul_assoc, Nat.mul_comm b q]
    omega
  have t2 : 3 * (b + c) ≤ 2 * (a + b) := by
    have : b ≤ q * b := Nat.le_mul_of_pos_left _ k2
    omega
  have t3 : (3 * (b + c)) * (3 * (b + c)) ≤ (2 * (a + b)) * (2 * (a + b)) := Nat.mul_le_mul t2 t2
  generalize a + b = S at *
  generalize b + c = S' at *
  have t4 : (M * (1 + q) * S') ≤ M * (2 * S) := by
    rw [Nat.mul_assoc, Nat.mul_comm (1 + q)]; exact Nat.mul_le_mul_left _ t1
  have t5 : (M * (1 + q) * S') * ((3 * S') * (3 * S')) ≤ (M * (2 * S)) * ((2 * S) * (2 * S)) := Nat.mul_le_mul t4 t3
  have e1 : (M * (1 + q) * S') * ((3 * S') * (3 * S')) = 9 * (M * (1 + q) * S' ^ 3) := by
    simp only [Nat.pow_succ, Nat.pow_zero, Nat.one_mul]; simp only [Nat.mul_assoc, Nat.mul_comm, Nat.mul_left_comm]
  have e2 : (M * (2 * S)) * ((2 * S) * (2 * S)) = 8 * (M * S ^ 3) := by
    simp only [Nat.pow_succ, Nat.pow_zero, Nat.one_mul]; simp only [Nat.mul_assoc, Nat.mul_comm, Nat.mul_left_comm]
  rw [e1, e2] at t5
  omega
/-- between two turns of the equation, behind the first one -/
structure Later (B : Nat) (u1 v1 r1 u2 v2 r2 : Int) : Prop where
  sg : (0 < r1 ∧ 0 < r2) ∨ (r1 < 0 ∧ r2 < 0) ∨ (r2 = 0 ∧ r1 ≠ 0)
  lt : r2.natAbs < r1.natAbs
  bd : ∃ M : Nat, u1.natAbs ≤ M ∧ v1.natAbs ≤ M ∧ u2.natAbs ≤ M ∧ v2.natAbs ≤ M ∧ M * (r1.natAbs + r2.natAbs) ^ 3 ≤ B
theorem Later.le {B : Nat} {u1 v1 r1 u2 v2 r2 : Int} (h : Later B u1 v1 r1 u2 v2 r2) : u1.natAbs ≤ B ∧ v1.natAbs ≤ B ∧ u2.natAbs ≤ B ∧ v2.natAbs ≤ B := by
  obtain ⟨M, a1, a2, a3, a4, hM⟩ := h.bd
  have hp : 0 < (r1.natAbs + r2.natAbs) ^ 3 := Nat.pow_pos (by have := h.lt; omega)
  have : M ≤ B := Nat.le_trans (Nat.le_mul_of_pos_right M hp) hM
  omega
theorem mul_sub_abs {u1 u2 q : Int} {M : Nat} (h1 : u1.natAbs ≤ M) (h2 : u2.natAbs ≤ M) : (u1 - q * u2).natAbs ≤ M * (1 + q.natAbs) := by
  have e : (q * u2).natAbs ≤ M * q.natAbs := by rw [Int.natAbs_mul, Nat.mul_comm]; exact Nat.mul_le_mul_right _ h2
  rw [Nat.mul_add, Nat.mul_one]
  omega
theorem Later.step {B : Nat} {u1 v1 r1 u2 v2 r2 : Int} (h : Later B u1 v1 r1 u2 v2 r2) (h0 : r2 ≠ 0) :
    Later B u2 v2 r2 (u1 - r1.fdiv r2 * u2) (v1 - r1.fdiv r2 * v2) (r1 - r1.fdiv r2 * r2) := by
  obtain ⟨M, a1, a2, a3, a4, hM⟩ := h.bd
  have hs : (0 < r1 ∧ 0 < r2) ∨ (r1 < 0 ∧ r2 < 0) := by have := h.sg; omega
  have hr := eq_rest (r1 := r1) h0
  refine ⟨?_, ?_, ⟨M * (1 + (r1.fdiv r2).natAbs), ?_, ?_, mul_sub_abs a1 a3, mul_sub_abs a2 a4, eq_grow h0 hs h.lt hM⟩⟩
  · generalize r1 - r1.fdiv r2 * r2 = z at *
    rcases hs with hs | hs
    · have := hr.1 hs.2; omega
    · have := hr.2 hs.2; omega
  · generalize r1 - r1.fdiv r2 * r2 = z at *
    rcases hs with hs | hs
    · have := hr.1 hs.2; omega
    · have := hr.2 hs.2; omega
  · exact Nat.le_trans a3 (Nat.le_mul_of_pos_right M (by omega))
  · exact Nat.le_trans a4 (Nat.le_mul_of_pos_right M (by omega))
theorem Later.first {a b : Int} {n : Nat} (ha : a.natAbs ≤ 2 ^ n) (hb : b.natAbs ≤ 2 ^ n) (h0 : b ≠ 0) :
    Later (2 ^ (4 * n + 6)) 0 1 b (1 - a.fdiv b * 0) (0 - a.fdiv b * 1) (a - a.fdiv b * b) := by
  have hr := eq_rest (r1 := a) h0
  have hq := eq_quot (r1 := a) h0
  have h1 : (a.fdiv b).natAbs ≤ 2 ^ n + 2 ^ n := by
    have : (a.fdiv b).natAbs * 1 ≤ (a.fdiv b).natAbs * b.natAbs := Nat.mul_le_mul_left _ (by omega)
    omega
  refine ⟨?_, ?_, ⟨1 + (a.fdiv b).natAbs, by omega, by omega, ?_, ?_, ?_⟩⟩
  · generalize a - a.fdiv b * b = z at *
    rcases Int.lt_or_gt_of_ne h0 with h | h
    · have := hr.2 h; omega
    · have := hr.1 h; omega
  · generalize a - a.fdiv b * b = z at *
    rcases Int.lt_or_gt_of_ne h0 with h | h
    · have := hr.2 h; omega
    · have := hr.1 h; omega
  · rw [Int.mul_zero]; omega
  · rw [Int.mul_one]; omega
  · have h2 : b.natAbs + (a - a.fdiv b * b).natAbs ≤ 2 * 2 ^ n := by
      generalize a - a.fdiv b * b = z at *
      rcases Int.lt_or_gt_of_ne h0 with h | h
      · have := hr.2 h; omega
      · have := hr.1 h; omega
    have hp : 1 ≤ 2 ^ n := Nat.pow_pos (by decide)
    have h3 : 1 + (a.fdiv b).natAbs ≤ 2 ^ (n + 2) := by rw [Nat.pow_add]; omega
    have h4 : (b.natAbs + (a - a.fdiv b * b).natAbs) ^ 3 ≤ (2 ^ (n + 1)) ^ 3 := Nat.pow_le_pow_left (by rw [Nat.pow_add]; omega) 3
    have h5 := Nat.mul_le_mul h3 h4
    rw [← Nat.pow_mul, ← Nat.pow_add] at h5
    exact Nat.le_trans h5 (Nat.pow_le_pow_right (by decide) (by omega))
theorem fdiv_abs_le {r1 r2 : Int} (h : r2 ≠ 0) : (r1.fdiv r2).natAbs ≤ r1.natAbs + r2.natAbs := by
  have hq := eq_quot (r1 := r1) h
  have : (r1.fdiv r2).natAbs * 1 ≤ (r1.fdiv r2).natAbs * r2.natAbs := Nat.mul_le_mul_left _ (by omega)
  omega
theorem rest_lt {r1 r2 : Int} (h : r2 ≠ 0) : (r1 - r1.fdiv r2 * r2).natAbs < r2.natAbs := by
  have hr := eq_rest (r1 := r1) h
  generalize r1 - r1.fdiv r2 * r2 = z at *
  rcases Int.lt_or_gt_of_ne h with h | h
  · have := hr.2 h; omega
  · have := hr.1 h; omega
theorem bez_step {a b u1 v1 r1 u2 v2 r2 q : Int} (h1 : u1 * a + v1 * b = r1) (h2 : u2 * a + v2 * b = r2) : (u1 - q * u2) * a + (v1 - q * v2) * b = r1 - q * r2 := by
  rw [← h1, ← h2, Int.sub_mul, Int.sub_mul, Int.mul_add, Int.mul_assoc, Int.mul_assoc]
  omega
theorem met_ok {n m r s u v : Int} (hn : 1 ≤ n) (hm : 1 ≤ m) (hb : u * n + v * m = (Int.gcd n m : Nat)) (hd : (s - r) % (Int.gcd n m : Nat) = 0) :
    n ∣ (r + n * u * ((s - r) / (Int.gcd n m : Nat))) % lcmI n m - r ∧ m ∣ (r + n * u * ((s - r) / (Int.gcd n m : Nat))) % lcmI n m - s := by
  have hg := gcd_pos (b := m) hn
  have hk : (Int.gcd n m : Nat) * ((s - r) / (Int.gcd n m : Nat)) = s - r := by
    have := Int.emod_add_mul_ediv (s - r) (Int.gcd n m : Nat)
    omega
  generalize ((Int.gcd n m : Nat) : Int) = g at *
  generalize (s - r) / g = k at *
  have hL1 := dvd_lcm_left (b := m) hn
  have hL2 := dvd_lcm_right n m
  have e := Int.emod_def (r + n * u * k) (lcmI n m)
  rw [e]
  generalize (r + n * u * k) / lcmI n m = z
  constructor
  · have : r + n * u * k - lcmI n m * z - r = n * (u * k) - lcmI n m * z := by rw [Int.mul_assoc]; omega
    rw [this]
    exact Int.dvd_sub (Int.dvd_mul_right _ _) (Int.dvd_mul_of_dvd_left hL1)
  · have h2 : n * u * k = g * k - m * (v * k) := by
      have : n * u = g - m * v := by rw [← hb, Int.mul_comm u n, Int.mul_comm v m]; omega
      rw [this, Int.sub_mul, Int.mul_assoc]
    have : r + n * u * k - lcmI n m * z - s = -(m * (v * k)) - lcmI n m * z := by omega
    rw [this]
    exact Int.dvd_sub (Int.dvd_neg.mpr (Int.dvd_mul_right _ _)) (Int.dvd_mul_of_dvd_left hL2)
theorem alike_both {n m r s x d : Int} (hn : 1 ≤ n) (hm : 1 ≤ m) (h1 : n ∣ x - r) (h2 : m ∣ x - s) : ((d - r) % n = 0 ∧ (d - s) % m = 0) ↔ (d - x) % lcmI n m = 0 := by
  constructor
  · rintro ⟨a1, a2⟩
    have b1 := Int.dvd_of_emod_eq_zero a1
    have b2 := Int.dvd_of_emod_eq_zero a2
    refine Int.emod_eq_zero_of_dvd (lcm_least hn hm ?_ ?_)
    · have := Int.dvd_sub b1 h1; rwa [show d - r - (x - r) = d - x by omega] at this
    · have := Int.dvd_sub b2 h2; rwa [show d - s - (x - s) = d - x by omega] at this
  · intro a
    have b := Int.dvd_of_emod_eq_zero a
    refine ⟨Int.emod_eq_zero_of_dvd ?_, Int.emod_eq_zero_of_dvd ?_⟩
    · have := Int.dvd_add (Int.dvd_trans (dvd_lcm_left hn) b) h1; rwa [show d - x + (x - r) = d - r by omega] at this
    · have := Int.dvd_add (Int.dvd_trans (dvd_lcm_right n m) b) h2; rwa [show d - x + (x - s) = d - s by omega] at this

end

/-! ### numbers by their bits -/
def ofB (f : Nat → Bool) : Nat → Nat
  | 0 => 0
  | k + 1 => ofB f k + if f k then 2 ^ k else 0
theorem ofB_lt (f : Nat → Bool) : ∀ n, ofB f n < 2 ^ n
  | 0 => by simp [ofB]
  | k + 1 => by
    have := ofB_lt f k
    unfold ofB
    rw [Nat.pow_succ]
    split <;> omega
theorem tb_ofB (f : Nat → Bool) : ∀ n i, (ofB f n).testBit i = (decide (i < n) && f i)
  | 0, i => by simp [ofB]
  | k + 1, i => by
    have ih := tb_ofB f k
    have hl := ofB_lt f k
    unfold ofB
    by_cases hf : f k = true
    · rw [if_pos hf]
      have e : ofB f k + 2 ^ k = 2 ^ k * 1 + ofB f k := by omega
      rw [e, Nat.testBit_two_pow_mul_add _ hl]
      by_cases h : i < k
      · rw [if_pos h, ih, decide_eq_true h, decide_eq_true (show i < k + 1 by omega)]
      · rw [if_neg h]
        by_cases h2 : i = k
        · subst h2; simp [hf]
        · rw [decide_eq_false (show ¬ i < k + 1 by omega)]
          have : i - k ≠ 0 := by omega
          
          have t1 : Nat.testBit 1 (i - k) = false := by
            cases e1 : Nat.testBit 1 (i - k) with
            | false => rfl
            | true => exact absurd (Nat.testBit_one_eq_true_iff_self_eq_zero.mp e1) this
          simp [t1]
    · rw [if_neg hf, Nat.add_zero, ih]
      by_cases h2 : i = k
      · subst h2
        have hf' : f i = false := by simpa using hf
        simp [hf']
      · have : (decide (i < k)) = decide (i < k + 1) := by
          by_cases h : i < k
          · rw [decide_eq_true h, decide_eq_true (show i < k + 1 by omega)]
          · rw [decide_eq_false h, decide_eq_false (show ¬ i < k + 1 by omega)]
        rw [this]
theorem ofB_ext {f g : Nat → Bool} {n : Nat} (h : ∀ i, i < n → f i = g i) : ofB f n = ofB g n := by
  apply Nat.eq_of_testBit_eq
  intro i
  rw [tb_ofB, tb_ofB]
  by_cases hi : i < n
  · rw [h i hi]
  · rw [decide_eq_false hi]; rfl
theorem eq_ofB {x n : Nat} {f : Nat → Bool} (hx : ∀ i, x.testBit i = (decide (i < n) && f i)) : x = ofB f n := by
  apply Nat.eq_of_testBit_eq
  intro i
  rw [tb_ofB]; exact hx i
theorem ofB_self {x n : Nat} (hx : x < 2 ^ n) : ofB x.testBit n = x := by
  symm
  apply eq_ofB
  intro i
  by_cases hi : i < n
  · rw [decide_eq_true hi]; rfl
  · rw [decide_eq_false hi, Bool.false_and]
    exact Nat.testBit_lt_two_pow (Nat.lt_of_lt_of_le hx (Nat.pow_le_pow_right (by decide) (by omega)))
/-- whether a round holds on a day -/
def hold (n b : Nat) (d : Int) : Bool := b.testBit (d % (n : Int)).toNat
/-- the bits of the days of one round -/
def bitsOf (n : Nat) (f : Int → Bool) : Nat := ofB (fun i => f i) n
theorem bitsOf_lt (n : Nat) (f : Int → Bool) : bitsOf n f < 2 ^ n := ofB_lt _ _
theorem mod_lt' {n : Nat} (hn : 1 ≤ n) (d : Int) : (d % (n : Int)).toNat < n ∧ (((d % (n : Int)).toNat : Nat) : Int) = d % (n : Int) := by
  have h1 := Int.emod_nonneg d (show (n : Int) ≠ 0 by omega)
  have h2 := Int.emod_lt_of_pos d (show (0 : Int) < n by omega)
  omega
theorem hold_bitsOf {n : Nat} (hn : 1 ≤ n) (f : Int → Bool) (d : Int) : hold n (bitsOf n f) d = f (d % (n : Int)) := by
  obtain ⟨h1, h2⟩ := mod_lt' hn d
  unfold hold bitsOf
  rw [tb_ofB, decide_eq_true h1, Bool.true_and, h2]
theorem hold_per (n b : Nat) (d : Int) : hold n b (d % (n : Int)) = hold n b d := by
  unfold hold
  rw [Int.emod_emod_of_dvd _ (Int.dvd_refl _)]
theorem hold_eq {n b : Nat} {d e : Int} (h : d % (n : Int) = e % (n : Int)) : hold n b d = hold n b e := by
  unfold hold; rw [h]
theorem hold_nat {n b i : Nat} (hi : i < n) : hold n b (i : Int) = b.testBit i := by
  unfold hold
  have : ((i : Int) % (n : Int)) = i := Int.emod_eq_of_lt (by omega) (by omega)
  rw [this]; rfl
theorem bitsOf_self {n b : Nat} (hb : b < 2 ^ n) : bitsOf n (hold n b) = b := by
  unfold bitsOf
  rw [ofB_ext (g := b.testBit) (fun i hi => hold_nat hi)]
  exact ofB_self hb
theorem bitsOf_ext {n : Nat} {f g : Int → Bool} (h : ∀ i : Nat, i < n → f i = g i) : bitsOf n f = bitsOf n g := ofB_ext h
theorem eq_bitsOf {x n : Nat} {f : Int → Bool} (hx : x < 2 ^ n) (h : ∀ i : Nat, i < n → x.testBit i = f i) : x = bitsOf n f := by
  apply eq_ofB
  intro i
  by_cases hi : i < n
  · rw [decide_eq_true hi, h i hi]; rfl
  · rw [decide_eq_false hi, Bool.false_and]
    exact Nat.testBit_lt_two_pow (Nat.lt_of_lt_of_le hx (Nat.pow_le_pow_right (by decide) (by omega)))
theorem hold_mod {n : Nat} {f : Int → Bool} (hn : 1 ≤ n) (hf : ∀ d : Int, f (d % (n : Int)) = f d) (d : Int) : hold n (bitsOf n f) d = f d := by
  rw [hold_bitsOf hn, hf]
/-! ### the machine's operators on numbers from 0 on -/
theorem and_c (a b : Nat) : Builtin.bitAnd (a : Int) (b : Int) = ((a &&& b : Nat) : Int) := by
  rw [bitAnd_pp (Int.natCast_nonneg _) (Int.natCast_nonneg _), Int.toNat_natCast, Int.toNat_natCast]
theorem or_c (a b : Nat) : Builtin.bitOr (a : Int) (b : Int) = ((a ||| b : Nat) : Int) := by
  rw [bitOr_nn (Int.natCast_nonneg _) (Int.natCast_nonneg _), Int.toNat_natCast, Int.toNat_natCast]
theorem xor_c (a b : Nat) : Builtin.bitXor (a : Int) (b : Int) = ((a ^^^ b : Nat) : Int) := by
  rw [Bits.bitXor_pp (Int.natCast_nonneg _) (Int.natCast_nonneg _), Int.toNat_natCast, Int.toNat_natCast]
theorem pow_c (k : Nat) : (2 : Int) ^ k = ((2 ^ k : Nat) : Int) := (PySem.W.kbt_cast k).symm
theorem shl_c (a k : Nat) : (a : Int) * 2 ^ k = ((a * 2 ^ k : Nat) : Int) := by rw [pow_c, Int.natCast_mul]
theorem shr_c (a k : Nat) : (a : Int) / 2 ^ k = ((a / 2 ^ k : Nat) : Int) := by rw [pow_c, Int.natCast_ediv]
theorem mask_c (k : Nat) : (2 : Int) ^ k - 1 = ((2 ^ k - 1 : Nat) : Int) := by
  have := Nat.two_pow_pos k
  rw [pow_c]; omega
/-- (bits >> place) & 1 == 1 -/
theorem on_val (b : Nat) (z : Int) : decide (Builtin.bitAnd ((b : Int) / 2 ^ z.toNat) 1 = 1) = b.testBit z.toNat := by
  rw [shr_c, bitAnd_m1, Nat.testBit_eq_decide_div_mod_eq]
  congr 1
  apply propext
  omega
/-- (bits >> place) % 2 == 1 -/
theorem on_val2 (b : Nat) (z : Int) : decide ((b : Int) / 2 ^ z.toNat % 2 = 1) = b.testBit z.toNat := by
  rw [shr_c, Nat.testBit_eq_decide_div_mod_eq]
  congr 1
  apply propext
  omega
theorem and_mask (a k : Nat) : Builtin.bitAnd (a : Int) (2 ^ k - 1) = ((a % 2 ^ k : Nat) : Int) := by
  rw [mask_c, and_c, Nat.and_two_pow_sub_one_eq_mod]
theorem sm_nat {x n : Nat} (h : x < 2 ^ n) : Sm n (x : Int) := ⟨by rw [Int.natAbs_natCast]; exact h⟩
theorem sm_ofB {f : Nat → Bool} {m : Nat} (h : m ≤ 400000) : Sm 400000 ((ofB f m : Nat) : Int) := sm_mono (sm_nat (ofB_lt f m)) h
theorem sm_bitsOf {f : Int → Bool} {m : Nat} (h : m ≤ 400000) : Sm 400000 ((bitsOf m f : Nat) : Int) := sm_mono (sm_nat (bitsOf_lt m f)) h
theorem cshl {i j : Int} {n : Nat} (hi : Sm n i) (h0 : 0 ≤ j) (hj : j ≤ 100000000) (hn : n ≤ 34217728) : CShl i j := by
  obtain ⟨k, rfl⟩ := Int.eq_ofNat_of_zero_le h0
  exact shl_ok hi.h (by omega)
theorem sm_modp {x k n : Nat} (h : Sm n (x : Int)) : Sm n ((x % 2 ^ k : Nat) : Int) := by
  have h1 := h.h
  rw [Int.natAbs_natCast] at h1
  exact sm_nat (Nat.lt_of_le_of_lt (Nat.mod_le _ _) h1)
theorem sm_divp {x k n : Nat} (h : Sm n (x : Int)) : Sm n ((x / 2 ^ k : Nat) : Int) := by
  have h1 := h.h
  rw [Int.natAbs_natCast] at h1
  exact sm_nat (Nat.lt_of_le_of_lt (Nat.div_le_self _ _) h1)
theorem sm_shl {x n : Nat} {j : Int} (h : Sm n (x : Int)) (hj : j ≤ 400000) : Sm (n + 400000) ((x * 2 ^ j.toNat : Nat) : Int) := by
  have h1 := h.h
  rw [Int.natAbs_natCast] at h1
  refine sm_nat ?_
  rw [Nat.pow_add]
  exact Nat.mul_lt_mul_of_lt_of_le h1 (Nat.pow_le_pow_right (by decide) (by omega)) (Nat.two_pow_pos _)
theorem sm_or {x y n m : Nat} (h : Sm n (x : Int)) (h' : Sm m (y : Int)) : Sm (n + m) ((x ||| y : Nat) : Int) := by
  have h1 := (sm_mono h (Nat.le_add_right n m)).h
  have h2 := (sm_mono h' (Nat.le_add_left m n)).h
  rw [Int.natAbs_natCast] at h1 h2
  exact sm_nat (Nat.or_lt_two_pow h1 h2)
theorem sm_xor {x y n m : Nat} (h : Sm n (x : Int)) (h' : Sm m (y : Int)) : Sm (n + m) ((x ^^^ y : Nat) : Int) := by
  have h1 := (sm_mono h (Nat.le_add_right n m)).h
  have h2 := (sm_mono h' (Nat.le_add_left m n)).h
  rw [Int.natAbs_natCast] at h1 h2
  exact sm_nat (Nat.xor_lt_two_pow h1 h2)
theorem sm_and {x y n : Nat} (h : Sm n (x : Int)) : Sm n ((x &&& y : Nat) : Int) := by
  have h1 := h.h
  rw [Int.natAbs_natCast] at h1
  exact sm_nat (Nat.lt_of_le_of_lt Nat.and_le_left h1)
theorem sm_mask {j : Int} (hj : j ≤ 400000) : Sm 400001 ((2 : Int) ^ j.toNat - 1) := by
  rw [mask_c]
  refine sm_nat ?_
  have : 2 ^ j.toNat ≤ 2 ^ 400000 := Nat.pow_le_pow_right (by decide) (by omega)
  have h2 : (2 : Nat) ^ 400001 = 2 ^ 400000 * 2 := Nat.pow_succ ..
  have := Nat.two_pow_pos 400000
  generalize (2 : Nat) ^ 400000 = X at *
  omega
/-! ### steps: the operators on numbers from 0 on -/
section
variable {H : Hp} {Q : VK} {x y k : Nat} {j : Int}
theorem k_andm (q : Q (.int ((x % 2 ^ k : Nat) : Int)) H) : rI0 (fun i j => .int (Builtin.bitAnd i j)) (.int (x : Int)) (.int (2 ^ k - 1)) H Q := ⟨_, _, rfl, rfl, by dsimp only; rw [and_mask]; exact q⟩
theorem k_andc (q : Q (.int ((x &&& y : Nat) : Int)) H) : rI0 (fun i j => .int (Builtin.bitAnd i j)) (.int (x : Int)) (.int (y : Int)) H Q := ⟨_, _, rfl, rfl, by dsimp only; rw [and_c]; exact q⟩
theorem k_orc (q : Q (.int ((x ||| y : Nat) : Int)) H) : rI0 (fun i j => .int (Builtin.bitOr i j)) (.int (x : Int)) (.int (y : Int)) H Q := ⟨_, _, rfl, rfl, by dsimp only; rw [or_c]; exact q⟩
theorem k_xorc (q : Q (.int ((x ^^^ y : Nat) : Int)) H) : rI0 (fun i j => .int (Builtin.bitXor i j)) (.int (x : Int)) (.int (y : Int)) H Q := ⟨_, _, rfl, rfl, by dsimp only; rw [xor_c]; exact q⟩
theorem k_xorm (q : Q (.int ((x ^^^ (2 ^ k - 1) : Nat) : Int)) H) : rI0 (fun i j => .int (Builtin.bitXor i j)) (.int (x : Int)) (.int (2 ^ k - 1)) H Q := ⟨_, _, rfl, rfl, by dsimp only; rw [mask_c, xor_c]; exact q⟩
theorem k_shlc (c : CShl (x : Int) j) (q : Q (.int ((x * 2 ^ j.toNat : Nat) : Int)) H) : rI CShl (fun i j => .int (i * 2 ^ j.toNat)) (.int (x : Int)) (.int j) H Q := ⟨_, _, rfl, rfl, c, by dsimp only; rw [shl_c]; exact q⟩
theorem k_shrc (c : 0 ≤ j) (q : Q (.int ((x / 2 ^ j.toNat : Nat) : Int)) H) : rI (fun _ j => 0 ≤ j) (fun i j => .int (i / 2 ^ j.toNat)) (.int (x : Int)) (.int j) H Q := ⟨_, _, rfl, rfl, c, by dsimp only; rw [shr_c]; exact q⟩
/-- 1 << k -/
theorem k_shl1 (c : 0 ≤ j ∧ j ≤ 100000000) (q : Q (.int ((2 ^ j.toNat : Nat) : Int)) H) : rI CShl (fun i j => .int (i * 2 ^ j.toNat)) (.int 1) (.int j) H Q :=
  ⟨_, _, rfl, rfl, cshl (sm41 (by omega) (by omega)) c.1 c.2 (by decide), by dsimp only; rw [Int.one_mul, pow_c]; exact q⟩
end
/-! ### rounds -/
/-- a round at an address: its size and its bits -/
structure RT (K : PySem.W.Frag) (H : Hp) (a : Addr) (n b : Nat) : Prop where
  t : SqT K H a [.int (n : Int), .int (b : Int)]
  n1 : 1 ≤ n
  n2 : n ≤ 150000
  lt : b < 2 ^ n
theorem RT.mono {K : PySem.W.Frag} {H H' : Hp} {a : Addr} {n b : Nat} (r : RT K H a n b) (e : Same H H') : RT K H' a n b := ⟨same_t e r.t, r.n1, r.n2, r.lt⟩
theorem RT.sm {K : PySem.W.Frag} {H : Hp} {a : Addr} {n b : Nat} (r : RT K H a n b) : Sm 400000 (b : Int) := sm_mono (sm_nat r.lt) (by have := r.n2; omega)
/-! ### stretched -/
theorem str_step {g : Nat → Bool} {h k n : Nat} (hg : ∀ i, g (i % n) = g i) (hn : n ∣ h) (hk : k ≤ h) :
    (ofB g h) ||| (ofB g h % 2 ^ k * 2 ^ h) = ofB g (h + k) := by
  apply eq_ofB
  intro i
  rw [Nat.testBit_or, tb_ofB, Nat.testBit_mul_two_pow, Nat.testBit_mod_two_pow, tb_ofB]
  by_cases h1 : i < h
  · rw [decide_eq_true h1, decide_eq_false (show ¬ h ≤ i by omega), decide_eq_true (show i < h + k by omega)]
    simp
  · rw [decide_eq_false h1, decide_eq_true (show h ≤ i by omega)]
    by_cases h2 : i < h + k
    · rw [decide_eq_true h2, decide_eq_true (show i - h < k by omega), decide_eq_true (show i - h < h by omega)]
      have : g (i - h) = g i := by
        rw [← hg (i - h), ← hg i]
        obtain ⟨c, rfl⟩ := hn
        congr 1
        have e : i = (i - n * c) + n * c := by omega
        conv => rhs; rw [e]
        rw [Nat.add_mul_mod_self_left]
      simp [this]
    · rw [decide_eq_false h2, decide_eq_false (show ¬ i - h < k by omega)]
      simp
/-- the bits of a round told by a multiple of its size -/
theorem str_bits {n b m : Nat} (hn : 1 ≤ n) : ofB (fun i => b.testBit (i % n)) m = bitsOf m (hold n b) := by
  unfold bitsOf
  apply ofB_ext
  intro i _
  unfold hold
  congr 1
theorem str_start {n b : Nat} (hb : b < 2 ^ n) : b = ofB (fun i => b.testBit (i % n)) n := by
  apply eq_ofB
  intro i
  by_cases hi : i < n
  · rw [decide_eq_true hi, Nat.mod_eq_of_lt hi]; rfl
  · rw [decide_eq_false hi, Bool.false_and]
    exact Nat.testBit_lt_two_pow (Nat.lt_of_lt_of_le hb (Nat.pow_le_pow_right (by decide) (by omega)))
/-! ### the other functions over rounds -/
theorem on_valc (b : Nat) (z : Nat) : decide (Builtin.bitAnd ((b / 2 ^ z : Nat) : Int) 1 = 1) = b.testBit z := by
  rw [bitAnd_m1, Nat.testBit_eq_decide_div_mod_eq]
  congr 1
  apply propext
  omega
theorem on_valc2 (b : Nat) (z : Nat) : decide (((b / 2 ^ z : Nat) : Int) % 2 = 1) = b.testBit z := by
  rw [Nat.testBit_eq_decide_div_mod_eq]
  congr 1
  apply propext
  omega
theorem hold_dvd {n b m : Nat} (hd : n ∣ m) (d : Int) : hold n b (d % (m : Int)) = hold n b d := by
  unfold hold
  rw [Int.emod_emod_of_dvd _ (Int.natCast_dvd_natCast.mpr hd)]
theorem hold_str {n b m : Nat} (hm : 1 ≤ m) (hd : n ∣ m) (d : Int) : hold m (bitsOf m (hold n b)) d = hold n b d := hold_mod hm (fun d => hold_dvd hd d) d
theorem tb_bitsOf (n : Nat) (f : Int → Bool) (i : Nat) : (bitsOf n f).testBit i = (decide (i < n) && f i) := tb_ofB _ _ _
theorem both_bits (m : Nat) (f g : Int → Bool) : bitsOf m f &&& bitsOf m g = bitsOf m (fun d => f d && g d) := by
  apply Nat.eq_of_testBit_eq; intro i
  simp only [Nat.testBit_and, tb_bitsOf]
  cases decide (i < m) <;> simp
theorem either_bits (m : Nat) (f g : Int → Bool) : bitsOf m f ||| bitsOf m g = bitsOf m (fun d => f d || g d) := by
  apply Nat.eq_of_testBit_eq; intro i
  simp only [Nat.testBit_or, tb_bitsOf]
  cases decide (i < m) <;> simp
theorem unlike_bits (m : Nat) (f g : Int → Bool) : bitsOf m f ^^^ bitsOf m g = bitsOf m (fun d => f d != g d) := by
  apply Nat.eq_of_testBit_eq; intro i
  simp only [Nat.testBit_xor, tb_bitsOf]
  cases decide (i < m) <;> simp
theorem without_bits (m : Nat) (f g : Int → Bool) : bitsOf m f ^^^ (bitsOf m f &&& bitsOf m g) = bitsOf m (fun d => f d && !g d) := by
  apply Nat.eq_of_testBit_eq; intro i
  simp only [Nat.testBit_xor, Nat.testBit_and, tb_bitsOf]
  cases decide (i < m) <;> simp
  cases f i <;> cases g i <;> rfl
theorem other_bits {n b : Nat} (hb : b < 2 ^ n) : b ^^^ (2 ^ n - 1) = bitsOf n (fun d => !hold n b d) := by
  apply Nat.eq_of_testBit_eq; intro i
  rw [Nat.testBit_xor, Nat.testBit_two_pow_sub_one, tb_bitsOf]
  by_cases h : i < n
  · rw [decide_eq_true h, hold_nat h]; cases b.testBit i <;> rfl
  · rw [decide_eq_false h, Nat.testBit_lt_two_pow (Nat.lt_of_lt_of_le hb (Nat.pow_le_pow_right (by decide) (by omega)))]; rfl
/-- ((b << s) | (b >> (n - s))) & mask(n), s the remainder of the number -/
theorem later_bits {n b : Nat} (hn : 1 ≤ n) (hb : b < 2 ^ n) (k : Int) :
    ((b * 2 ^ (k % (n : Int)).toNat) ||| (b / 2 ^ ((n : Int) - k % (n : Int)).toNat)) % 2 ^ n = bitsOf n (fun d => hold n b (d - k)) := by
  obtain ⟨h1, h2⟩ := mod_lt' hn k
  have ed := Int.emod_add_mul_ediv k (n : Int)
  generalize hs : (k % (n : Int)).toNat = s at *
  have e2 : ((n : Int) - k % (n : Int)).toNat = n - s := by omega
  rw [e2]
  apply Nat.eq_of_testBit_eq; intro i
  rw [Nat.testBit_mod_two_pow, Nat.testBit_or, Nat.testBit_mul_two_pow, Nat.testBit_div_two_pow, tb_bitsOf]
  by_cases h : i < n
  · rw [decide_eq_true h, Bool.true_and, Bool.true_and]
    by_cases h3 : s ≤ i
    · have e : ((i : Int) - k) % (n : Int) = ((i - s : Nat) : Int) % (n : Int) := by
        have : (i : Int) - k = ((i - s : Nat) : Int) - n * (k / n) := by omega
        rw [this, Int.sub_mul_emod_self_left]
      rw [decide_eq_true h3, hold_eq e, hold_nat (by omega), Nat.testBit_lt_two_pow (x := b) (i := i + (n - s)) (Nat.lt_of_lt_of_le hb (Nat.pow_le_pow_right (by decide) (by omega)))]
      simp
    · have e : ((i : Int) - k) % (n : Int) = ((i + (n - s) : Nat) : Int) % (n : Int) := by
        have : (i : Int) - k = ((i + (n - s) : Nat) : Int) - n * (k / n + 1) := by rw [Int.mul_add]; omega
        rw [this, Int.sub_mul_emod_self_left]
      rw [decide_eq_false h3, hold_eq e, hold_nat (by omega)]
      simp
  · rw [decide_eq_false h]; rfl
theorem lcm_c {n m : Nat} (hn : 1 ≤ n) : lcmI (n : Int) (m : Int) = ((Nat.lcm n m : Nat) : Int) := by
  have h1 := lcm_mul_gcd (a := (n : Int)) (b := (m : Int)) (by omega)
  have hg := gcd_pos (a := (n : Int)) (b := (m : Int)) (by omega)
  have h2 := Nat.gcd_mul_lcm n m
  have e : ((Int.gcd (n : Int) (m : Int) : Nat) : Int) = ((Nat.gcd n m : Nat) : Int) := by rw [Int.gcd_natCast_natCast]
  rw [e] at h1 hg
  have h3 : ((Nat.lcm n m : Nat) : Int) * ((Nat.gcd n m : Nat) : Int) = (n : Int) * m := by
    rw [← Int.natCast_mul, ← Int.natCast_mul, Nat.mul_comm, h2]
  exact Int.eq_of_mul_eq_mul_right (by omega) (h1.trans h3.symm)
theorem lcm1 {n m : Nat} (hn : 1 ≤ n) (hm : 1 ≤ m) : 1 ≤ Nat.lcm n m := Nat.lcm_pos hn hm
/-! ### drawn rounds -/
theorem pow_pos_c (k : Nat) : (0 : Int) < ((2 ^ k : Nat) : Int) := by have := Nat.two_pow_pos k; omega
theorem natmod (i : Int) (n : Nat) : ∃ x : Nat, i % ((2 ^ (n : Int).toNat : Nat) : Int) = (x : Int) ∧ x < 2 ^ n := by
  rw [Int.toNat_natCast]
  have hp := Nat.two_pow_pos n
  have h1 := Int.emod_nonneg i (show ((2 ^ n : Nat) : Int) ≠ 0 by omega)
  have h2 := Int.emod_lt_of_pos i (show (0 : Int) < ((2 ^ n : Nat) : Int) by omega)
  exact ⟨(i % ((2 ^ n : Nat) : Int)).toNat, by omega, by omega⟩
theorem mask_nat (n : Nat) : ((2 ^ (n : Int).toNat : Nat) : Int) - 1 = ((2 ^ n - 1 : Nat) : Int) := by
  rw [Int.toNat_natCast]
  have hp := Nat.two_pow_pos n
  omega
theorem one_lt {n : Nat} (hn : 1 ≤ n) (z : Int) : 2 ^ (z % (n : Int)).toNat < 2 ^ n := Nat.pow_lt_pow_right (by decide) (mod_lt' hn z).1
theorem pow_le {n : Nat} : 2 ^ n - 1 < 2 ^ n := by have := Nat.two_pow_pos n; omega
/-- what a law asks of a told round: from 0 on and below 1 << size -/
theorem told_bits {n b : Nat} (h : b < 2 ^ n) : ((b : Nat) : Int) < ((2 ^ (n : Int).toNat : Nat) : Int) := by rw [Int.toNat_natCast]; exact Int.ofNat_lt.mpr h
def sp_round (K : PySem.W.Frag) (S : Nat) : Sp := fun vs H Q _ => ∃ (x y : Int), vs = [.int x, .int y] ∧ Sm 1048576 x ∧ Sm 1048576 y ∧
  ∀ (p : Addr) (H' : Hp) (n b : Nat), Same H H' → RT K H' p n b → n ≤ S → Q (.ref p) H'
theorem k_round {K : PySem.W.Frag} {S : Nat} {H : Hp} {Q : VK} {E : XK} {x y : Int} (h1 : Sm 1048576 x) (h2 : Sm 1048576 y)
    (q : ∀ (p : Addr) (H' : Hp) (n b : Nat), Same H H' → RT K H' p n b → n ≤ S → Q (.ref p) H') : sp_round K S [.int x, .int y] H Q E := ⟨x, y, rfl, h1, h2, q⟩
/-! ### folded -/
/-- the days of a round by a divisor of its size -/
def foldB (s b : Nat) : Nat → Nat
  | 0 => 0
  | k + 1 => (b % 2 ^ s) ||| foldB s (b / 2 ^ s) k
theorem tb_fold (s : Nat) : ∀ (k b i : Nat), (foldB s b k).testBit i = true ↔ (i < s ∧ ∃ j, j < k ∧ b.testBit (i + j * s) = true)
  | 0, b, i => by simp [foldB]
  | k + 1, b, i => by
    have ih := tb_fold s k (b / 2 ^ s) i
    unfold foldB
    rw [Nat.testBit_or, Bool.or_eq_true, ih, Nat.testBit_mod_two_pow, Bool.and_eq_true, decide_eq_true_eq]
    constructor
    · rintro (⟨h1, h2⟩ | ⟨h1, j, h2, h3⟩)
      · exact ⟨h1, 0, by omega, by simpa using h2⟩
      · refine ⟨h1, j + 1, by omega, ?_⟩
        rw [Nat.testBit_div_two_pow] at h3
        rw [Nat.add_mul, Nat.one_mul, ← Nat.add_assoc]; exact h3
    · rintro ⟨h1, j, h2, h3⟩
      cases j with
      | zero => exact .inl ⟨h1, by simpa using h3⟩
      | succ j =>
        refine .inr ⟨h1, j, by omega, ?_⟩
        rw [Nat.testBit_div_two_pow]
        rw [Nat.add_mul, Nat.one_mul, ← Nat.add_assoc] at h3; exact h3
theorem fold_lt (s b k : Nat) : foldB s b k < 2 ^ s := by
  apply Nat.lt_pow_two_of_testBit
  intro i hi
  cases h : (foldB s b k).testBit i with
  | false => rfl
  | true =>
    have := (tb_fold s k b i).mp h
    omega
theorem fold_zero (s : Nat) : ∀ k, foldB s 0 k = 0
  | 0 => rfl
  | k + 1 => by unfold foldB; rw [Nat.zero_div, fold_zero s k]; simp
/-- it holds where the round holds on some day that is alike -/
theorem fold_hold {n s b : Nat} (hn : 1 ≤ n) (hs : 1 ≤ s) (hd : s ∣ n) (hb : b < 2 ^ n) (d : Int) : hold s (foldB s b (n / s)) d = true ↔ ∃ e : Int, hold n b e = true ∧ (e - d) % (s : Int) = 0 := by
  obtain ⟨c, rfl⟩ := hd
  have hc : s * c / s = c := Nat.mul_div_cancel_left c (by omega)
  rw [hc]
  obtain ⟨h1, h2⟩ := mod_lt' hs d
  unfold hold
  rw [tb_fold]
  constructor
  · rintro ⟨_, j, hj, hjb⟩
    refine ⟨((((d % (s : Int)).toNat + j * s : Nat)) : Int), ?_, ?_⟩
    · have hlt : (d % (s : Int)).toNat + j * s < s * c := by
        have : (j + 1) * s ≤ c * s := Nat.mul_le_mul_right _ hj
        rw [Nat.add_mul, Nat.one_mul, Nat.mul_comm c s] at this
        omega
      rw [Int.emod_eq_of_lt (by omega) (by omega), Int.toNat_natCast]
      exact hjb
    · rw [Int.natCast_add, h2, Int.natCast_mul]
      have e := Int.emod_add_mul_ediv d (s : Int)
      have : d % (s : Int) + (j : Int) * (s : Int) - d = (s : Int) * (j - d / s) := by rw [Int.mul_sub, Int.mul_comm (s : Int) j]; omega
      rw [this, Int.mul_emod_right]
  · rintro ⟨e, he, hed⟩
    have hsc : (1 : Nat) ≤ s * c := hn
    obtain ⟨g1, g2⟩ := mod_lt' hsc e
    refine ⟨h1, (e % ((s * c : Nat) : Int)).toNat / s, ?_, ?_⟩
    · exact Nat.div_lt_of_lt_mul g1
    · have hm : (e % ((s * c : Nat) : Int)).toNat % s = (d % (s : Int)).toNat := by
        have a1 : (((e % ((s * c : Nat) : Int)).toNat % s : Nat) : Int) = d % (s : Int) := by
          rw [Int.natCast_emod, g2, Int.emod_emod_of_dvd _ (by exact ⟨(c : Int), by rw [Int.natCast_mul]⟩)]
          have := Int.emod_emod_of_dvd e (Int.dvd_refl (s : Int))
          have h3 := Int.dvd_of_emod_eq_zero hed
          obtain ⟨z, hz⟩ := h3
          have : e = d + s * z := by omega
          rw [this, Int.add_mul_emod_self_left]
        omega
      have e2 := Nat.mod_add_div (e % ((s * c : Nat) : Int)).toNat s
      rw [← hm, Nat.mul_comm _ s, e2]; exact he

/-! ### how many bits are 1 -/
def cnt (f : Nat → Bool) : Nat → Nat
  | 0 => 0
  | k + 1 => cnt f k + if f k then 1 else 0
theorem cnt_ext {f g : Nat → Bool} : ∀ {n : Nat}, (∀ i, i < n → f i = g i) → cnt f n = cnt g n
  | 0, _ => rfl
  | n + 1, h => by
    unfold cnt
    rw [cnt_ext (n := n) (fun i hi => h i (by omega)), h n (by omega)]
theorem cnt_add (f : Nat → Bool) (m : Nat) : ∀ n, cnt f (m + n) = cnt f m + cnt (fun i => f (m + i)) n
  | 0 => rfl
  | n + 1 => by
    show cnt f (m + n) + (if f (m + n) then 1 else 0) = cnt f m + (cnt (fun i => f (m + i)) n + if f (m + n) then 1 else 0)
    rw [cnt_add f m n, Nat.add_assoc]
theorem cnt_le (f : Nat → Bool) : ∀ n, cnt f n ≤ n
  | 0 => Nat.le_refl 0
  | n + 1 => by
    have := cnt_le f n
    unfold cnt; split <;> omega
theorem cnt_mono (f : Nat → Bool) {m n : Nat} (h : m ≤ n) : cnt f m ≤ cnt f n := by
  obtain ⟨k, rfl⟩ := Nat.exists_eq_add_of_le h
  rw [cnt_add]; omega
theorem cnt_zero {f : Nat → Bool} : ∀ {n : Nat}, (∀ i, i < n → f i = false) → cnt f n = 0
  | 0, _ => rfl
  | n + 1, h => by
    unfold cnt
    rw [cnt_zero (n := n) (fun i hi => h i (by omega)), h n (by omega)]; rfl
theorem cnt_pos {f : Nat → Bool} {n i : Nat} (hi : i < n) (h : f i = true) : 0 < cnt f n := by
  have : cnt f (i + 1) ≤ cnt f n := cnt_mono f (by omega)
  have e : cnt f (i + 1) = cnt f i + if f i then 1 else 0 := rfl
  rw [e, if_pos h] at this
  omega
def pop (x : Nat) : Nat := if x = 0 then 0 else x % 2 + pop (x / 2)
termination_by x
decreasing_by omega
theorem pop_zero : pop 0 = 0 := by unfold pop; simp
theorem pop_step (x : Nat) : pop x = x % 2 + pop (x / 2) := by
  by_cases h : x = 0
  · subst h; simp [pop_zero]
  · rw [pop]; simp [h]
theorem pop_pos {x : Nat} (h : 0 < x) : 0 < pop x := by
  induction x using Nat.strongRecOn with
  | _ x ih =>
    rw [pop_step]
    by_cases h2 : x % 2 = 1
    · omega
    · have := ih (x / 2) (by omega) (by omega); omega
theorem pop_clear {x : Nat} (h : 0 < x) : pop (x &&& (x - 1)) + 1 = pop x := by
  induction x using Nat.strongRecOn with
  | _ x ih =>
    by_cases h2 : x % 2 = 1
    · have e : x &&& (x - 1) = 2 * (x / 2) := by
        apply Nat.eq_of_testBit_eq
        intro i
        rw [Nat.testBit_and]
        cases i with
        | zero =>
          rw [Nat.testBit_zero, Nat.testBit_zero, Nat.testBit_zero, decide_eq_false (show ¬ (x - 1) % 2 = 1 by omega), decide_eq_false (show ¬ 2 * (x / 2) % 2 = 1 by omega), Bool.and_false]
        | succ i =>
          rw [Nat.testBit_succ, Nat.testBit_succ, Nat.testBit_succ, show (x - 1) / 2 = x / 2 by omega, show 2 * (x / 2) / 2 = x / 2 by omega, Bool.and_self]
      rw [e, pop_step (2 * (x / 2)), pop_step x, show 2 * (x / 2) / 2 = x / 2 by omega]
      omega
    · have e : x &&& (x - 1) = 2 * ((x / 2) &&& (x / 2 - 1)) := by
        apply Nat.eq_of_testBit_eq
        intro i
        rw [Nat.testBit_and]
        cases i with
        | zero =>
          rw [Nat.testBit_zero, Nat.testBit_zero, Nat.testBit_zero, decide_eq_false (show ¬ x % 2 = 1 by omega), decide_eq_false (show ¬ 2 * (x / 2 &&& (x / 2 - 1)) % 2 = 1 by omega), Bool.false_and]
        | succ i =>
          rw [Nat.testBit_succ, Nat.testBit_succ, Nat.testBit_succ, show (x - 1) / 2 = x / 2 - 1 by omega, show 2 * (x / 2 &&& (x / 2 - 1)) / 2 = x / 2 &&& (x / 2 - 1) by omega, Nat.testBit_and]
      have := ih (x / 2) (by omega) (by omega)
      rw [e, pop_step (2 * _), show 2 * (x / 2 &&& (x / 2 - 1)) / 2 = x / 2 &&& (x / 2 - 1) by omega, pop_step x]
      omega
theorem pop_split (x : Nat) : ∀ k, pop (x % 2 ^ k) + pop (x / 2 ^ k) = pop x
  | 0 => by simp [Nat.mod_one, pop_zero]
  | k + 1 => by
    have h1 := pop_split x k
    have h2 := pop_step (x / 2 ^ k)
    have e1 : x / 2 ^ k / 2 = x / 2 ^ (k + 1) := by rw [Nat.div_div_eq_div_mul, Nat.pow_succ]
    have e2 : pop (x % 2 ^ (k + 1)) = pop (x % 2 ^ k) + x / 2 ^ k % 2 := by
      have e3 : x % 2 ^ (k + 1) = x % 2 ^ k + 2 ^ k * (x / 2 ^ k % 2) := by rw [Nat.pow_succ, Nat.mod_mul]
      rcases Nat.mod_two_eq_zero_or_one (x / 2 ^ k) with h | h
      · rw [e3, h]; simp
      · rw [e3, h, Nat.mul_one]
        exact pop_top (Nat.mod_lt _ (Nat.two_pow_pos k))
    rw [e1] at h2
    omega
where
  pop_top : ∀ {k y : Nat}, y < 2 ^ k → pop (y + 2 ^ k) = pop y + 1
    | 0, y, h => by
      have : y = 0 := by simpa using h
      subst this
      rw [pop_step]; simp [pop_zero]
    | k + 1, y, h => by
      rw [Nat.pow_succ] at h
      have ih := pop_top (k := k) (y := y / 2) (by omega)
      rw [pop_step, pop_step y, Nat.pow_succ, show (y + 2 ^ k * 2) / 2 = y / 2 + 2 ^ k by omega, ih]
      omega
theorem pop_cnt {x : Nat} : ∀ n, pop (x % 2 ^ n) = cnt x.testBit n
  | 0 => by simp [Nat.mod_one, pop_zero, cnt]
  | k + 1 => by
    have ih := pop_cnt (x := x) k
    have e3 : x % 2 ^ (k + 1) = x % 2 ^ k + 2 ^ k * (x / 2 ^ k % 2) := by rw [Nat.pow_succ, Nat.mod_mul]
    unfold cnt
    rcases Nat.mod_two_eq_zero_or_one (x / 2 ^ k) with h | h
    · rw [e3, h, Nat.mul_zero, Nat.add_zero, ih, Nat.testBit_eq_decide_div_mod_eq, decide_eq_false (by omega)]; rfl
    · rw [e3, h, Nat.mul_one, pop_split.pop_top (Nat.mod_lt _ (Nat.two_pow_pos k)), ih, Nat.testBit_eq_decide_div_mod_eq, decide_eq_true h]; rfl
theorem pop_eq {x n : Nat} (h : x < 2 ^ n) : pop x = cnt x.testBit n := by
  rw [← pop_cnt, Nat.mod_eq_of_lt h]
theorem pop_le {x n : Nat} (h : x < 2 ^ n) : pop x ≤ n := by rw [pop_eq h]; exact cnt_le _ _
theorem and_pred {x : Nat} (h : 0 < x) : Builtin.bitAnd (x : Int) ((x : Int) - 1) = ((x &&& (x - 1) : Nat) : Int) := by
  have : (x : Int) - 1 = ((x - 1 : Nat) : Int) := by omega
  rw [this, and_c]
theorem and_pred_lt {x : Nat} (h : 0 < x) : x &&& (x - 1) < x := Nat.lt_of_le_of_lt Nat.and_le_right (by omega)
/-! ### the lowest bit -/
theorem low_bit {x : Nat} (h : 0 < x) : ∃ k, x - (x &&& (x - 1)) = 2 ^ k ∧ x.testBit k = true ∧ ∀ i, i < k → x.testBit i = false := by
  induction x using Nat.strongRecOn with
  | _ x ih =>
    by_cases h2 : x % 2 = 1
    · refine ⟨0, ?_, by rw [Nat.testBit_zero, decide_eq_true h2], fun i hi => by omega⟩
      have e : x &&& (x - 1) = 2 * (x / 2) := by
        apply Nat.eq_of_testBit_eq
        intro i
        rw [Nat.testBit_and]
        cases i with
        | zero =>
          rw [Nat.testBit_zero, Nat.testBit_zero, Nat.testBit_zero, decide_eq_false (show ¬ (x - 1) % 2 = 1 by omega), decide_eq_false (show ¬ 2 * (x / 2) % 2 = 1 by omega), Bool.and_false]
        | succ i =>
          rw [Nat.testBit_succ, Nat.testBit_succ, Nat.testBit_succ, show (x - 1) / 2 = x / 2 by omega, show 2 * (x / 2) / 2 = x / 2 by omega, Bool.and_self]
      rw [e]; omega
    · obtain ⟨k, h3, h4, h5⟩ := ih (x / 2) (by omega) (by omega)
      have e : x &&& (x - 1) = 2 * ((x / 2) &&& (x / 2 - 1)) := by
        apply Nat.eq_of_testBit_eq
        intro i
        rw [Nat.testBit_and]
        cases i with
        | zero =>
          rw [Nat.testBit_zero, Nat.testBit_zero, Nat.testBit_zero, decide_eq_false (show ¬ x % 2 = 1 by omega), decide_eq_false (show ¬ 2 * (x / 2 &&& (x / 2 - 1)) % 2 = 1 by omega), Bool.false_and]
        | succ i =>
          rw [Nat.testBit_succ, Nat.testBit_succ, Nat.testBit_succ, show (x - 1) / 2 = x / 2 - 1 by omega, show 2 * (x / 2 &&& (x / 2 - 1)) / 2 = x / 2 &&& (x / 2 - 1) by omega, Nat.testBit_and]
      refine ⟨k + 1, ?_, by rw [Nat.testBit_succ]; exact h4, fun i hi => ?_⟩
      · have h6 : x / 2 &&& (x / 2 - 1) ≤ x / 2 := Nat.and_le_left
        rw [e, Nat.pow_succ]; omega
      · cases i with
        | zero => rw [Nat.testBit_zero, decide_eq_false h2]
        | succ i => rw [Nat.testBit_succ]; exact h5 i (by omega)
theorem and_neg {x : Nat} (h : 0 < x) : Builtin.bitAnd (x : Int) (-(x : Int)) = ((x - (x &&& (x - 1)) : Nat) : Int) := by
  have e : Builtin.bitNot (-(x : Int)) = ((x - 1 : Nat) : Int) := by
    show -(-(x : Int)) - 1 = _
    omega
  have h6 : x &&& (x - 1) ≤ x := Nat.and_le_left
  rw [bitAnd_pn (by omega) (by omega), e, Int.toNat_natCast, Int.toNat_natCast]
  omega
theorem bits_pow (k : Nat) : Builtin.Int.intBits ((2 ^ k : Nat) : Int) = k + 1 := by
  unfold Builtin.Int.intBits
  have hp := Nat.two_pow_pos k
  rw [if_neg (show ¬ (((2 ^ k : Nat) : Int) == 0) = true by simpa using (show ((2 ^ k : Nat) : Int) ≠ 0 by omega)), Int.natAbs_natCast, Nat.log2_two_pow]
theorem bits_nat {x : Nat} (h : 0 < x) : Builtin.Int.intBits (x : Int) = x.log2 + 1 := by
  unfold Builtin.Int.intBits
  rw [if_neg (show ¬ ((x : Int) == 0) = true by simpa using (show (x : Int) ≠ 0 by omega)), Int.natAbs_natCast]
/-- the lowest bit's place, as the program finds it -/
theorem low_place {x : Nat} (h : 0 < x) : ∃ k, Builtin.Int.intBits (Builtin.bitAnd (x : Int) (-(x : Int))) = k + 1 ∧ x.testBit k = true ∧ ∀ i, i < k → x.testBit i = false := by
  obtain ⟨k, h1, h2, h3⟩ := low_bit h
  exact ⟨k, by rw [and_neg h, h1, bits_pow], h2, h3⟩
theorem high_place {x : Nat} (h : 0 < x) : ∃ k, Builtin.Int.intBits (x : Int) = k + 1 ∧ x.testBit k = true ∧ ∀ i, k < i → x.testBit i = false := by
  refine ⟨x.log2, bits_nat h, Nat.testBit_log2 (by omega), fun i hi => ?_⟩
  exact Nat.testBit_lt_two_pow (Nat.lt_of_lt_of_le (Nat.lt_log2_self) (Nat.pow_le_pow_right (by decide) (by omega)))
/-! ### how many days -/
/-- the days of a round from day 0 on and ahead of a day -/
def rankI (n b : Nat) (d : Int) : Int := d / (n : Int) * (pop b : Nat) + (pop (b % 2 ^ (d % (n : Int)).toNat) : Nat)
theorem rank_step {n b : Nat} (hn : 1 ≤ n) (hb : b < 2 ^ n) (d : Int) : rankI n b (d + 1) = rankI n b d + if hold n b d then 1 else 0 := by
  obtain ⟨h1, h2⟩ := mod_lt' hn d
  have e := Int.emod_add_mul_ediv d (n : Int)
  unfold rankI
  have hc : ∀ k, pop (b % 2 ^ k) = cnt b.testBit k := fun k => pop_cnt k
  have hh : hold n b d = b.testBit (d % (n : Int)).toNat := rfl
  rw [hh]
  generalize hk : (d % (n : Int)).toNat = k at *
  generalize hq : d / (n : Int) = q at *
  by_cases hlast : k + 1 < n
  · have e1 : (d + 1) % (n : Int) = ((k + 1 : Nat) : Int) := by
      have : d + 1 = ((k + 1 : Nat) : Int) + n * q := by omega
      rw [this, Int.add_mul_emod_self_left, Int.emod_eq_of_lt (by omega) (by omega)]
    have e2 : (d + 1) / (n : Int) = q := by
      have : d + 1 = ((k + 1 : Nat) : Int) + n * q := by omega
      rw [this, Int.add_mul_ediv_left _ _ (by omega), Int.ediv_eq_zero_of_lt (by omega) (by omega)]
      omega
    rw [e1, e2, Int.toNat_natCast, hc, hc]
    show q * (pop b : Nat) + ((cnt b.testBit k + if b.testBit k then 1 else 0 : Nat) : Int) = _
    split <;> omega
  · have e0 : k + 1 = n := by omega
    have e1 : (d + 1) % (n : Int) = 0 := by
      have : d + 1 = n * (q + 1) := by rw [Int.mul_add]; omega
      rw [this, Int.mul_emod_right]
    have e2 : (d + 1) / (n : Int) = q + 1 := by
      have : d + 1 = n * (q + 1) := by rw [Int.mul_add]; omega
      rw [this, Int.mul_ediv_cancel_left _ (by omega)]
    rw [e1, e2, hc, hc]
    have e3 : pop b = cnt b.testBit k + if b.testBit k then 1 else 0 := by
      rw [pop_eq hb, ← e0]; rfl
    have e4 : cnt b.testBit (0 : Int).toNat = 0 := rfl
    rw [e4, Int.add_mul, e3]
    split <;> omega
theorem rank_add {n b : Nat} (hn : 1 ≤ n) (hb : b < 2 ^ n) (d : Int) : ∀ k : Nat, rankI n b (d + k) = rankI n b d + (cnt (fun i => hold n b (d + i)) k : Nat)
  | 0 => by simp [cnt]
  | k + 1 => by
    have ih := rank_add hn hb d k
    have e : d + ((k + 1 : Nat) : Int) = (d + k) + 1 := by omega
    rw [e, rank_step hn hb, ih]
    show _ = _ + ((cnt (fun i => hold n b (d + i)) k + if hold n b (d + k) then 1 else 0 : Nat) : Int)
    split <;> omega
theorem rank_round {n b : Nat} (hn : 1 ≤ n) (d : Int) : rankI n b (d + n) = rankI n b d + (pop b : Nat) := by
  unfold rankI
  have e1 : (d + n) % (n : Int) = d % n := by rw [Int.add_emod_right]
  have e2 : (d + n) / (n : Int) = d / n + 1 := by
    have := Int.add_mul_ediv_left d 1 (show (n : Int) ≠ 0 by omega)
    rw [Int.mul_one] at this; exact this
  rw [e1, e2, Int.add_mul]; omega
theorem rank_mono {n b : Nat} (hn : 1 ≤ n) (hb : b < 2 ^ n) {d e : Int} (h : d ≤ e) : rankI n b d ≤ rankI n b e := by
  obtain ⟨k, hk⟩ := Int.eq_ofNat_of_zero_le (show 0 ≤ e - d by omega)
  have : e = d + k := by omega
  rw [this, rank_add hn hb]; omega
theorem rank_sm {n b : Nat} (hn : 1 ≤ n) (hn2 : n ≤ 150000) (hb : b < 2 ^ n) {d : Int} {s : Nat} (h : Sm s d) : Sm (s + 40) (rankI n b d) := by
  have h1 := pop_le hb
  have h2 : pop (b % 2 ^ (d % (n : Int)).toNat) ≤ n := pop_le (Nat.lt_of_le_of_lt (Nat.mod_le _ _) hb)
  have h3 : (d / (n : Int)).natAbs ≤ d.natAbs := Int.natAbs_ediv_le_natAbs d n
  have h4 := h.h
  refine ⟨?_⟩
  unfold rankI
  have h5 : (d / (n : Int) * (pop b : Nat)).natAbs ≤ d.natAbs * 150000 := by
    rw [Int.natAbs_mul, Int.natAbs_natCast]
    exact Nat.mul_le_mul h3 (by omega)
  have h6 : 2 ^ (s + 40) = 2 ^ s * 1099511627776 := by rw [Nat.pow_add]
  have h7 := Nat.two_pow_pos s
  rw [h6]
  generalize (2 : Nat) ^ s = X at *
  omega

/-! ### a list that is written: all else stays -/
def Mut (p : Addr) (H H' : Hp) : Prop := ∀ a o, a ≠ p → H a = some o → H' a = some o
theorem Mut.of {p : Addr} {H H' : Hp} (s : Same H H') : Mut p H H' := fun a o _ h => s a o h
theorem Mut.trans {p : Addr} {H H' H2 : Hp} (m : Mut p H H') (m2 : Mut p H' H2) : Mut p H H2 := fun a o n h => m2 a o n (m a o n h)
theorem Mut.same {p : Addr} {H0 H H' : Hp} (s : Same H0 H) (m : Mut p H H') (h : H0 p = none) : Same H0 H' := fun a o e => m a o (fun e2 => by subst e2; rw [h] at e; exact nomatch e) (s a o e)
theorem mut_upd {p : Addr} {H : Hp} {o : HO} : Mut p H (upd H p o) := fun a x n h => by rw [upd_ne n]; exact h
theorem mut_t {K : PySem.W.Frag} {H H' : Hp} {p a : Addr} {xs ys : List V} (m : Mut p H H') (hp : H p = some (.lst xs)) (h : SqT K H a ys) : SqT K H' a ys := by
  rcases h with (h | ⟨o, h⟩) | h
  · exact .inl (.inl (m _ _ (fun e => by subst e; rw [hp] at h; exact nomatch h) h))
  · exact .inl (.inr ⟨o, m _ _ (fun e => by subst e; rw [hp] at h; exact nomatch h) h⟩)
  · exact .inr h
theorem mut_l {K : PySem.W.Frag} {H H' : Hp} {p a : Addr} {ys : List V} (m : Mut p H H') (n : a ≠ p) (h : SqL K H a ys) : SqL K H' a ys := by
  rcases h with (h | ⟨o, h⟩) | h
  · exact .inl (.inl (m _ _ n h))
  · exact .inl (.inr ⟨o, m _ _ n h⟩)
  · exact .inr h
theorem RT.mut {K : PySem.W.Frag} {H H' : Hp} {p a : Addr} {xs : List V} {n b : Nat} (m : Mut p H H') (hp : H p = some (.lst xs)) (r : RT K H a n b) : RT K H' a n b := ⟨mut_t m hp r.t, r.n1, r.n2, r.lt⟩
section
variable {K : PySem.W.Frag} {H : Hp} {Q : VK} {σ : L2.St} {l p : Addr} {xs : List V} {y : V}
def App (l : Addr) (ys : List V) (H : Hp) (Q : VK) : Prop := rAppend (.ref l) ys H Q
def BmR (K : PySem.W.Frag) (T : String) (r : V → List V → Hp → VK → Prop) (t : TA) (σ : L2.St) (x : V) (H : Hp) (Q : VK) : Prop := tyV K T x H ∧ t σ H fun xs H2 => r x xs H2 Q
theorem k_bm {T : String} {r : V → List V → Hp → VK → Prop} {to : TE} {t : TA} (h : to σ H fun x H1 => BmR K T r t σ x H1 Q) : tBM K T r to t σ H Q := h
theorem k_bmA {t : TA} (hl : SqL K H l xs) (h : t σ H fun ys H2 => App l ys H2 Q) : BmR K "list" rAppend t σ (.ref l) H Q := ⟨.inl ⟨rfl, xs, hl⟩, h⟩
theorem k_app (h : H l = some (.lst xs)) (hz : xs.length ≤ 1000000) (q : ∀ H', Mut l H H' → H' l = some (.lst (xs ++ [y])) → Q .non H') : App l [y] H Q :=
  ⟨l, xs, y, rfl, rfl, h, Nat.lt_of_le_of_lt hz (by decide), q _ mut_upd upd_same⟩
/-! ### slices -/
def SlV (K : PySem.W.Frag) (x : V) (lo hi : Option Int) (H : Hp) (Q : VK) : Prop := rSlL K x lo hi H Q
theorem k_sl {te : TE} {tl th : TO} (h : te σ H fun x H1 => tl σ H1 fun lo H2 => th σ H2 fun hi H3 => SlV K x lo hi H3 Q) : L2.tSl (rSlL K) te tl th σ H Q := h
theorem k_slV {lo hi : Option Int} (h : SqL K H p xs) (q : ∀ a H2, H a = none → Same H H2 → H2 a = some (.lst (cutV xs lo hi)) → Q (.ref a) H2) : SlV K (.ref p) lo hi H Q :=
  ⟨p, xs, rfl, h, fun a ha => q a _ ha (same_new ha) upd_same⟩
theorem cutV_ints (ns : List Int) (lo hi : Option Int) : ∃ ms : List Int, cutV (ns.map V.int) lo hi = ms.map V.int ∧ (∀ z ∈ ms, z ∈ ns) ∧ ms.length ≤ ns.length := by
  refine ⟨(ns.drop (HT.sIx (ns.map V.int).length 0 lo)).take (HT.sIx (ns.map V.int).length (ns.map V.int).length hi - HT.sIx (ns.map V.int).length 0 lo), ?_, fun z hz => List.mem_of_mem_drop (List.mem_of_mem_take hz), ?_⟩
  · unfold cutV; rw [List.map_take, List.map_drop]
  · rw [List.length_take, List.length_drop]; omega
theorem cutV_to (xs : List V) (k : Nat) : (cutV xs none (some (k : Int))).length ≤ k := by
  unfold cutV
  rw [List.length_take, HT.sIx_nat]
  omega
/-! ### list(a list), a[i] = y -/
def LofV (K : PySem.W.Frag) (xs : List V) (H : Hp) (Q : VK) : Prop := ∃ p ys, xs = [.ref p] ∧ (SqL K H p ys ∨ SqT K H p ys) ∧ ∀ l, H l = none → Q (.ref l) (upd H l (.lst ys))
def rLof (K : PySem.W.Frag) : List V → Hp → VK → Prop := fun xs H Q => LofV K xs H Q
theorem kb_lof {X : Cx} (K : PySem.W.Frag) (hk : X.K = K) : CallR X (.type "list") (rLof K) := by subst hk; exact call_list_of
theorem k_lofL {ys : List V} (h : SqL K H p ys) (q : ∀ a H2, H a = none → Same H H2 → H2 a = some (.lst ys) → Q (.ref a) H2) : rLof K [.ref p] H Q := ⟨p, ys, rfl, .inl h, fun a ha => q a _ ha (same_new ha) upd_same⟩
def SetV (o i v : V) (H : Hp) (Q : Hp → Prop) : Prop := rSetL o i v H Q
theorem k_gsub {to ti : TE} {v : V} {Q : L2.St → Hp → Prop} (h : to σ H fun o H1 => ti σ H1 fun i H2 => SetV o i v H2 fun H3 => Q σ H3) : gSub to ti rSetL v σ H Q := h
theorem k_setV {i : Int} {j : Nat} {v : V} {Q : Hp → Prop} (h : H p = some (.lst xs)) (hj : ixN xs.length i = some j) (q : ∀ H', Mut p H H' → H' p = some (.lst (xs.set j v)) → Q H') : SetV (.ref p) (.int i) v H Q :=
  ⟨p, xs, i, j, rfl, rfl, h, hj, q _ mut_upd upd_same⟩
end
theorem k_eqE {K : PySem.W.Frag} {H : Hp} {Q : VK} {p q : Addr} {l : List Int} (h1 : SqL K H p (l.map V.int)) (h2 : SqL K H q []) (r : Q (.bl (decide (l = []))) H) : rEqA K (.ref p) (.ref q) H Q := k_eqL (m := []) h1 h2 r
theorem k_neE {K : PySem.W.Frag} {H : Hp} {Q : VK} {p q : Addr} {l : List Int} (h1 : SqL K H p (l.map V.int)) (h2 : SqL K H q []) (r : Q (.bl (!decide (l = []))) H) : rNeA K (.ref p) (.ref q) H Q := k_neL (m := []) h1 h2 r
theorem atI_last {l : List Int} (h : l ≠ []) : ∃ z, z ∈ l ∧ atI (l.map V.int) (-1) = some (.int z) := by
  have hp : 0 < l.length := List.length_pos_iff.mpr h
  refine ⟨l[l.length - 1], List.getElem_mem _, ?_⟩
  unfold atI ixN
  rw [if_neg (by decide), if_pos (by rw [List.length_map]; omega), List.length_map, show ((-1 : Int) + (l.length : Int)).toNat = l.length - 1 by omega]
  show (l.map V.int)[l.length - 1]? = _
  rw [List.getElem?_map, List.getElem?_eq_getElem (by omega)]
  rfl
/-- days of a round, as a list -/
structure DL (K : PySem.W.Frag) (H : Hp) (L : Addr) (n : Nat) (l : List Int) : Prop where
  h : SqL K H L (l.map V.int)
  b : ∀ x ∈ l, 0 ≤ x ∧ x < n
  z : l.length ≤ 4000
theorem DL.mono {K : PySem.W.Frag} {H H' : Hp} {L : Addr} {n : Nat} {l : List Int} (r : DL K H L n l) (s : Same H H') : DL K H' L n l := ⟨same_l s r.h, r.b, r.z⟩
theorem tb_put {x d : Nat} {l : List Int} (hx : ∀ j, x.testBit j = true ↔ (j : Int) ∈ l) (j : Nat) : (x ||| 2 ^ d).testBit j = true ↔ (j : Int) ∈ l ++ [(d : Int)] := by
  rw [Nat.testBit_or, Nat.testBit_two_pow, Bool.or_eq_true, hx, List.mem_append, List.mem_singleton, decide_eq_true_iff]
  constructor <;> (rintro (h | h); exact .inl h; right; omega)
theorem tb_add {x e : Nat} (h : x.testBit e = false) (j : Nat) : (2 ^ e + x).testBit j = (decide (e = j) || x.testBit j) := by
  rcases Nat.lt_trichotomy j e with hj | hj | hj
  · rw [Nat.testBit_two_pow_add_gt hj, decide_eq_false (by omega), Bool.false_or]
  · subst hj; rw [Nat.testBit_two_pow_add_eq, h]; simp
  · obtain ⟨k, rfl⟩ := Nat.exists_eq_add_of_lt hj
    rw [decide_eq_false (by omega), Bool.false_or]
    have e1 : ∀ y : Nat, y.testBit (e + k + 1) = (y / 2 ^ e / 2).testBit k := fun y => by
      rw [Nat.div_div_eq_div_mul, ← Nat.pow_succ, Nat.testBit_div_two_pow]; congr 1; omega
    rw [e1, e1, Nat.add_div_left _ (Nat.two_pow_pos e)]
    rw [Nat.testBit_eq_decide_div_mod_eq] at h
    have := of_decide_eq_false h
    congr 1
    omega
theorem sum_bits {n : Nat} : ∀ {l : List Int}, l.Nodup → (∀ x ∈ l, 0 ≤ x ∧ x < (n : Int)) →
    ∃ x : Nat, (l.map fun e => ((2 ^ e.toNat : Nat) : Int)).sum = (x : Int) ∧ x < 2 ^ n ∧ ∀ j : Nat, x.testBit j = true ↔ (j : Int) ∈ l
  | [], _, _ => ⟨0, rfl, Nat.two_pow_pos n, fun j => by simp⟩
  | e :: r, hd, hb => by
    obtain ⟨x, h1, h2, h3⟩ := sum_bits (n := n) (List.nodup_cons.mp hd).2 (fun y hy => hb y (List.mem_cons_of_mem _ hy))
    obtain ⟨b0, b1⟩ := hb e List.mem_cons_self
    obtain ⟨k, rfl⟩ := Int.eq_ofNat_of_zero_le b0
    have hk : x.testBit k = false := by
      cases hx : x.testBit k with
      | false => rfl
      | true => exact absurd ((h3 k).mp hx) (List.nodup_cons.mp hd).1
    have ht := tb_add hk
    refine ⟨2 ^ k + x, ?_, ?_, fun j => ?_⟩
    · rw [List.map_cons, List.sum_cons, h1, Int.toNat_natCast, Int.natCast_add]
    · refine Nat.lt_pow_two_of_testBit _ fun i hi => ?_
      rw [ht, decide_eq_false (by omega), Bool.false_or]
      exact Nat.testBit_lt_two_pow (Nat.lt_of_lt_of_le h2 (Nat.pow_le_pow_right (by decide) hi))
    · rw [ht, Bool.or_eq_true, decide_eq_true_iff, h3, List.mem_cons]
      constructor
      · rintro (h | h)
        · left; omega
        · exact .inr h
      · rintro (h | h)
        · left; omega
        · exact .inr h

/-- where a bit comes from, the blocks of H turned about in W -/
def posT (W H j : Nat) : Nat := W - H - (j - j % H) + j % H
theorem split_mod {H : Nat} (hH : 0 < H) (j : Nat) : ∃ A r, j = A + r ∧ r < H ∧ j % H = r ∧ (∃ q, A = H * q) ∧ ∀ s, s < H → (A + s) % H = s := by
  refine ⟨H * (j / H), j % H, (Nat.div_add_mod j H).symm, Nat.mod_lt _ hH, rfl, ⟨_, rfl⟩, fun s hs => ?_⟩
  rw [Nat.mul_add_mod, Nat.mod_eq_of_lt hs]
theorem blk_le {H W A : Nat} (hW : H ∣ W) (hA : ∃ q, A = H * q) (h : A < W) : A + H ≤ W := by
  obtain ⟨c, rfl⟩ := hW
  obtain ⟨q, rfl⟩ := hA
  have := Nat.lt_of_mul_lt_mul_left h
  have h2 := Nat.mul_le_mul_left H (show q + 1 ≤ c by omega)
  rw [Nat.mul_add, Nat.mul_one] at h2
  exact h2
theorem mod_half {h A r : Nat} (hA : ∃ q, A = (h + h) * q) (hr : r < h + h) : (A + r) % h = if r < h then r else r - h := by
  obtain ⟨q, rfl⟩ := hA
  have e : (h + h) * q + r = h * (2 * q) + r := by rw [Nat.add_mul, Nat.mul_comm 2 q, ← Nat.mul_assoc, Nat.mul_two]
  rw [e, Nat.mul_add_mod]
  by_cases hlt : r < h
  · rw [if_pos hlt, Nat.mod_eq_of_lt hlt]
  · rw [if_neg hlt, Nat.mod_eq_sub_mod (by omega), Nat.mod_eq_of_lt (by omega)]
theorem turn_step {W h b x c : Nat} (hh : 0 < h) (hW : (h + h) ∣ W) (hc : ∀ j, c.testBit j = (decide (j < W) && decide (j % (h + h) < h)))
    (hx : ∀ j, j < W → x.testBit j = b.testBit (posT W (h + h) j)) (j : Nat) (hj : j < W) :
    (((x &&& c) * 2 ^ h) ||| ((x / 2 ^ h) &&& c)).testBit j = b.testBit (posT W h j) := by
  obtain ⟨A, r, rfl, hr, em, hA, hs⟩ := split_mod (show 0 < h + h by omega) j
  have hl := blk_le hW hA (by omega)
  rw [Nat.testBit_or, Nat.testBit_and, Nat.testBit_mul_two_pow, Nat.testBit_and, Nat.testBit_div_two_pow, hc, hc, em]
  unfold posT
  by_cases hlt : r < h
  · have e1 : decide (A + r < W) = true := decide_eq_true hj
    have e2 : decide (r < h) = true := decide_eq_true hlt
    have e3 : (decide (A + r ≥ h) && (x.testBit (A + r - h) && (decide (A + r - h < W) && decide ((A + r - h) % (h + h) < h)))) = false := by
      by_cases h0 : A = 0
      · rw [decide_eq_false (by omega), Bool.false_and]
      · obtain ⟨q, eq⟩ := hA
        obtain ⟨q', rfl⟩ : ∃ q', q = q' + 1 := ⟨q - 1, by
          have : q ≠ 0 := fun e => by subst e; omega
          omega⟩
        have e5 : (A + r - h) % (h + h) = r + h := by
          rw [eq, Nat.mul_add, Nat.mul_one, show (h + h) * q' + (h + h) + r - h = (h + h) * q' + (r + h) by omega, Nat.mul_add_mod, Nat.mod_eq_of_lt (by omega)]
        rw [e5, decide_eq_false (show ¬ r + h < h by omega)]; simp
    rw [e3, e1, e2, Bool.false_or, Bool.and_true, Bool.and_true, show A + r + h = A + (r + h) by omega, hx _ (by omega)]
    unfold posT
    rw [hs (r + h) (by omega), mod_half hA hr, if_pos hlt]
    congr 1; omega
  · have e2 : decide (r < h) = false := decide_eq_false hlt
    have e5 : A + r - h = A + (r - h) := by omega
    rw [e2, Bool.and_false, Bool.and_false, Bool.or_false, e5, hs (r - h) (by omega), decide_eq_true (show A + r ≥ h by omega), decide_eq_true (show A + (r - h) < W by omega), decide_eq_true (show r - h < h by omega), hx _ (by omega)]
    unfold posT
    rw [hs (r - h) (by omega), mod_half hA hr, if_neg hlt]
    simp only [Bool.true_and, Bool.and_true]
    congr 1; omega
theorem turn_lt {W h x c : Nat} (hh : 0 < h) (hW : (h + h) ∣ W) (hc : ∀ j, c.testBit j = (decide (j < W) && decide (j % (h + h) < h))) : ((x &&& c) * 2 ^ h) ||| ((x / 2 ^ h) &&& c) < 2 ^ W := by
  refine Nat.lt_pow_two_of_testBit _ fun j hj => ?_
  rw [Nat.testBit_or, Nat.testBit_and, Nat.testBit_mul_two_pow, Nat.testBit_and, hc, hc, decide_eq_false (show ¬ j < W by omega)]
  simp only [Bool.false_and, Bool.and_false, Bool.or_false]
  by_cases h1 : j - h < W
  · obtain ⟨A, r, e, hr, em, hA, hs⟩ := split_mod (show 0 < h + h by omega) (j - h)
    have hl := blk_le hW hA (by omega)
    by_cases h0 : j ≥ h
    · rw [em, decide_eq_false (show ¬ r < h by omega)]; simp
    · rw [decide_eq_false h0]; simp
  · rw [decide_eq_false h1]; simp
theorem comb_step {W k c : Nat} (hk : 0 < k) (hW : (k + k) + (k + k) ∣ W) (hc : ∀ j, c.testBit j = (decide (j < W) && decide (j % ((k + k) + (k + k)) < k + k))) (j : Nat) :
    (c ^^^ (c * 2 ^ k)).testBit j = (decide (j < W) && decide (j % (k + k) < k)) := by
  rw [Nat.testBit_xor, Nat.testBit_mul_two_pow, hc, hc]
  obtain ⟨A, r, rfl, hr, em, hA, hs⟩ := split_mod (show 0 < (k + k) + (k + k) by omega) j
  rw [em, mod_half hA hr]
  have hb : A < W → A + (k + k + (k + k)) ≤ W := fun h => blk_le hW hA h
  have h2 : ∀ {B : Nat}, (∃ q, B = (k + k + (k + k)) * q) → B < W → B + (k + k + (k + k)) ≤ W := fun hB h => blk_le hW hB h
  by_cases hj : A + r < W
  · rw [decide_eq_true hj, Bool.true_and]
    by_cases hrk : r < k
    · have e1 : (decide (A + r ≥ k) && (decide (A + r - k < W) && decide ((A + r - k) % (k + k + (k + k)) < k + k))) = false := by
        by_cases h0 : A = 0
        · rw [decide_eq_false (by omega), Bool.false_and]
        · obtain ⟨q, eq⟩ := hA
          obtain ⟨q', rfl⟩ : ∃ q', q = q' + 1 := ⟨q - 1, by
            have : q ≠ 0 := fun e => by subst e; omega
            omega⟩
          have e5 : (A + r - k) % (k + k + (k + k)) = r + k + k + k := by
            rw [eq, Nat.mul_add, Nat.mul_one, show (k + k + (k + k)) * q' + (k + k + (k + k)) + r - k = (k + k + (k + k)) * q' + (r + k + k + k) by omega, Nat.mul_add_mod, Nat.mod_eq_of_lt (by omega)]
          rw [e5, decide_eq_false (show ¬ r + k + k + k < k + k by omega)]; simp
      rw [e1, if_pos (by omega), decide_eq_true (show r < k + k by omega), decide_eq_true hrk]; rfl
    · rw [show A + r - k = A + (r - k) by omega, hs (r - k) (by omega), decide_eq_true (show A + r ≥ k by omega), decide_eq_true (show A + (r - k) < W by omega), Bool.true_and, Bool.true_and]
      by_cases h3 : r < k + k
      · rw [if_pos h3, decide_eq_true h3, decide_eq_true (show r - k < k + k by omega), decide_eq_false hrk]; rfl
      · rw [if_neg h3, decide_eq_false h3, Bool.false_xor]
        congr 1
        apply propext
        omega
  · rw [decide_eq_false hj, Bool.false_and, Bool.false_and, Bool.false_xor]
    by_cases h1 : A + r - k < W
    · by_cases hAW : A < W
      · have := hb hAW; omega
      · have e0 : W ≤ A := by omega
        have h0 : A ≠ 0 := by omega
        have hrk : r < k := by omega
        obtain ⟨q, eq⟩ := hA
        obtain ⟨q', rfl⟩ : ∃ q', q = q' + 1 := ⟨q - 1, by
          have : q ≠ 0 := fun e => by subst e; omega
          omega⟩
        have e5 : (A + r - k) % (k + k + (k + k)) = r + k + k + k := by
          rw [eq, Nat.mul_add, Nat.mul_one, show (k + k + (k + k)) * q' + (k + k + (k + k)) + r - k = (k + k + (k + k)) * q' + (r + k + k + k) by omega, Nat.mul_add_mod, Nat.mod_eq_of_lt (by omega)]
        rw [e5, decide_eq_false (show ¬ r + k + k + k < k + k by omega)]; simp
    · rw [decide_eq_false h1]; simp

/-- a carry into a place of a sum -/
def car (a b i : Nat) : Bool := decide (2 ^ i ≤ a % 2 ^ i + b % 2 ^ i)
theorem mod_succ (a i : Nat) : a % 2 ^ (i + 1) = a % 2 ^ i + (if a.testBit i then 2 ^ i else 0) := by
  rw [Nat.mod_pow_succ, Nat.testBit_eq_decide_div_mod_eq]
  rcases Nat.mod_two_eq_zero_or_one (a / 2 ^ i) with h | h <;> simp [h]
theorem car_zero (a b : Nat) : car a b 0 = false := by simp [car, Nat.mod_one]
theorem car_succ (a b i : Nat) : car a b (i + 1) = ((a.testBit i && b.testBit i) || (car a b i && (a.testBit i || b.testBit i))) := by
  unfold car
  rw [mod_succ, mod_succ, Nat.pow_succ]
  have h1 := Nat.mod_lt a (Nat.two_pow_pos i)
  have h2 := Nat.mod_lt b (Nat.two_pow_pos i)
  generalize 2 ^ i = X at *
  generalize a % X = y at *
  generalize b % X = z at *
  cases ha : a.testBit i <;> cases hb : b.testBit i <;> simp <;> omega
theorem add_bit (a b i : Nat) : (a + b).testBit i = ((a.testBit i ^^ b.testBit i) ^^ car a b i) := by
  have e : (a + b).testBit i = decide ((a + b) / 2 ^ i % 2 = 1) := Nat.testBit_eq_decide_div_mod_eq
  have ea : a.testBit i = decide (a / 2 ^ i % 2 = 1) := Nat.testBit_eq_decide_div_mod_eq
  have eb : b.testBit i = decide (b / 2 ^ i % 2 = 1) := Nat.testBit_eq_decide_div_mod_eq
  have h1 := Nat.mod_lt a (Nat.two_pow_pos i)
  have h2 := Nat.mod_lt b (Nat.two_pow_pos i)
  have hd := Nat.add_div (a := a) (b := b) (Nat.two_pow_pos i)
  rw [e, ea, eb, hd]
  unfold car
  generalize a / 2 ^ i = u at *
  generalize b / 2 ^ i = v at *
  by_cases hc : 2 ^ i ≤ a % 2 ^ i + b % 2 ^ i
  · rw [if_pos hc, decide_eq_true hc]
    by_cases h3 : u % 2 = 1 <;> by_cases h4 : v % 2 = 1 <;> simp [h3, h4] <;> omega
  · rw [if_neg hc, decide_eq_false hc]
    by_cases h3 : u % 2 = 1 <;> by_cases h4 : v % 2 = 1 <;> simp [h3, h4] <;> omega
/-- where what is added lies within the number: a carry comes from a place below, over ones -/
theorem car_run {f x : Nat} (h : ∀ i, x.testBit i = true → f.testBit i = true) : ∀ i, car f x i = true ↔ ∃ p, p < i ∧ x.testBit p = true ∧ ∀ j, p ≤ j → j < i → f.testBit j = true
  | 0 => by rw [car_zero]; simp
  | i + 1 => by
    rw [car_succ]
    have ih := car_run h i
    constructor
    · intro hc
      cases hx : x.testBit i with
      | true => exact ⟨i, by omega, hx, fun j h1 h2 => by rw [show j = i by omega]; exact h i hx⟩
      | false =>
        rw [hx] at hc
        simp only [Bool.and_false, Bool.or_false, Bool.false_or, Bool.and_eq_true] at hc
        obtain ⟨p, h1, h2, h3⟩ := ih.mp hc.1
        exact ⟨p, by omega, h2, fun j h4 h5 => by
          by_cases e : j = i
          · subst e; exact hc.2
          · exact h3 j h4 (by omega)⟩
    · rintro ⟨p, h1, h2, h3⟩
      have hf := h3 i (by omega) (by omega)
      rw [hf]
      by_cases e : p = i
      · subst e; rw [h2]; rfl
      · have := ih.mpr ⟨p, by omega, h2, fun j h4 h5 => h3 j h4 (by omega)⟩
        rw [this]; simp
def PerF (m : Nat) (r : Int → Bool) : Prop := ∀ d : Int, r (d + m) = r d
theorem PerF.mul {m : Nat} {r : Int → Bool} (h : PerF m r) (d : Int) : ∀ k : Nat, r (d + k * m) = r d
  | 0 => by simp
  | k + 1 => by
    have := PerF.mul h d k
    rw [← this, ← h (d + k * m)]
    congr 1
    rw [Int.natCast_add, Int.add_mul]; omega
theorem PerF.mod {m : Nat} {r : Int → Bool} (h : PerF m r) (d : Int) : r (d % (m : Int)) = r d := by
  have e := Int.emod_add_mul_ediv d (m : Int)
  by_cases hq : 0 ≤ d / (m : Int)
  · obtain ⟨k, hk⟩ := Int.eq_ofNat_of_zero_le hq
    have := h.mul (d % (m : Int)) k
    rw [hk, Int.mul_comm] at e
    rw [← this, e]
  · obtain ⟨k, hk⟩ := Int.eq_ofNat_of_zero_le (show 0 ≤ - (d / (m : Int)) by omega)
    have := h.mul d k
    have e2 : d / (m : Int) = - (k : Int) := by omega
    rw [e2, Int.mul_neg, Int.mul_comm] at e
    rw [← this]; congr 1; omega
/-- the first R day from an S day on -/
def uponP (r s : Int → Bool) (d : Int) : Prop := r d = true ∧ ∃ k : Nat, s (d - k) = true ∧ ∀ j : Nat, 1 ≤ j → j ≤ k → r (d - j) = false
theorem upon_bits {m A B : Nat} {r s : Int → Bool} (hm : 1 ≤ m) (hr : PerF m r)
    (hA : ∀ i : Nat, A.testBit i = (decide (i < m + m) && r i)) (hB : ∀ i : Nat, B.testBit i = (decide (i < m + m) && s i)) {F : Nat}
    (hF : ∀ i : Nat, F.testBit i = (decide (i < m + m) && !r i)) (i : Nat) (hi : i < m) :
    ((A &&& (B ||| (F + (F &&& B)))) / 2 ^ m).testBit i = true ↔ uponP r s (i + m) := by
  have hx : ∀ j, (F &&& B).testBit j = true → F.testBit j = true := fun j h => by
    rw [Nat.testBit_and, Bool.and_eq_true] at h; exact h.1
  rw [Nat.testBit_div_two_pow, Nat.testBit_and, Nat.testBit_or, Bool.and_eq_true, Bool.or_eq_true, hA, hB, add_bit, Nat.testBit_and, hF, hB]
  have h2 : decide (i + m < m + m) = true := decide_eq_true (by omega)
  rw [h2]
  simp only [Bool.true_and, Int.natCast_add]
  unfold uponP
  constructor
  · rintro ⟨h1, h3⟩
    refine ⟨h1, ?_⟩
    by_cases hs : s (i + m) = true
    · exact ⟨0, by simpa using hs, fun j h4 h5 => by omega⟩
    · rw [h1] at h3
      have h4 := h3.resolve_left hs
      simp only [Bool.not_true, Bool.false_and, Bool.false_xor] at h4
      obtain ⟨p, h5, h6, h7⟩ := (car_run hx _).mp h4
      rw [Nat.testBit_and, hB, Bool.and_eq_true, Bool.and_eq_true] at h6
      refine ⟨i + m - p, ?_, fun j h8 h9 => ?_⟩
      · rw [show (i : Int) + m - ((i + m - p : Nat) : Int) = p by omega]; exact h6.2.2
      · have := h7 (i + m - j) (by omega) (by omega)
        rw [hF, Bool.and_eq_true] at this
        have h10 := this.2
        rw [show ((i + m - j : Nat) : Int) = i + m - j by omega] at h10
        simpa using h10
  · rintro ⟨h1, k, h3, h4⟩
    refine ⟨h1, ?_⟩
    rw [h1]
    have hk : k < m := by
      by_cases h : k < m
      · exact h
      · have := h4 m (by omega) (by omega)
        have h5 := hr ((i : Int) + m - m)
        rw [this, show (i : Int) + m - m + m = i + m by omega, h1] at h5
        exact absurd h5 (by decide)
    by_cases hs : s (i + m) = true
    · exact .inl hs
    · right
      simp only [Bool.not_true, Bool.false_and, Bool.false_xor]
      refine (car_run hx _).mpr ⟨i + m - k, ?_, ?_, fun j h8 h9 => ?_⟩
      · have : k ≠ 0 := fun e => by subst e; exact hs (by simpa using h3)
        omega
      · have e : ((i + m - k : Nat) : Int) = i + m - k := by omega
        rw [Nat.testBit_and, hF, hB, e, h3, decide_eq_true (show i + m - k < m + m by omega)]
        have : k ≠ 0 := fun e => by subst e; exact hs (by simpa using h3)
        have := h4 k (by omega) (by omega)
        rw [this]; rfl
      · have := h4 (i + m - j) (by omega) (by omega)
        rw [show (i : Int) + m - ((i + m - j : Nat) : Int) = j by omega] at this
        rw [hF, this, decide_eq_true (show j < m + m by omega)]; rfl
/-- from an R day on up to ahead of the next S day behind it -/
def tillP (r s : Int → Bool) (d : Int) : Prop := (r d = true ∧ s d = true) ∨ (s d = false ∧ ∃ k : Nat, (r (d - k) = true ∨ (r (d - k - 1) = true ∧ s (d - k - 1) = true)) ∧ ∀ j : Nat, j ≤ k → s (d - j) = false)
theorem till_bits {m A B : Nat} {r s : Int → Bool} (hm : 1 ≤ m) (hr : PerF m r) (hs : PerF m s)
    (hA : ∀ i : Nat, A.testBit i = (decide (i < m + m) && r i)) (hB : ∀ i : Nat, B.testBit i = (decide (i < m + m) && s i)) {F M : Nat}
    (hF : ∀ i : Nat, F.testBit i = (decide (i < m + m) && !s i)) (hM : ∀ i : Nat, M.testBit i = decide (i < m + m)) (i : Nat) (hi : i < m)
    {G : Nat} (hG : G = F &&& (A ||| ((A &&& B) * 2 ^ 1))) :
    (((F ^^^ ((F &&& (F + G)) &&& (G ^^^ M))) ||| (A &&& B)) / 2 ^ m).testBit i = true ↔ tillP r s (i + m) := by
  have hx : ∀ j, G.testBit j = true → F.testBit j = true := fun j h => by
    rw [hG, Nat.testBit_and, Bool.and_eq_true] at h; exact h.1
  have gb : ∀ p, p < m + m → (G.testBit p = true ↔ s p = false ∧ (r p = true ∨ (1 ≤ p ∧ r (p - 1) = true ∧ s (p - 1) = true))) := fun p hp => by
    rw [hG, Nat.testBit_and, Nat.testBit_or, Nat.testBit_mul_two_pow, Nat.testBit_and, hF, hA, hA, hB, decide_eq_true hp, decide_eq_true (show p - 1 < m + m by omega)]
    by_cases h1 : 1 ≤ p
    · rw [decide_eq_true (show p ≥ 1 by omega), show ((p - 1 : Nat) : Int) = p - 1 by omega]
      simp [h1]
    · rw [decide_eq_false (show ¬ p ≥ 1 by omega)]
      simp [h1]
  have hcc := add_bit F G (i + m)
  rw [Nat.testBit_div_two_pow]
  have him : i + m < m + m := by omega
  have e1 : F.testBit (i + m) = !s (i + m : Nat) := by rw [hF, decide_eq_true him, Bool.true_and]
  simp only [Nat.testBit_or, Nat.testBit_xor, Nat.testBit_and, hM, hA, hB, e1, decide_eq_true him, Bool.true_and] at hcc ⊢
  have main : s ((i + m : Nat) : Int) = false → (((!s ((i + m : Nat) : Int)) ^^ (((!s ((i + m : Nat) : Int)) && (F + G).testBit (i + m)) && (G.testBit (i + m) ^^ true))) = true ↔ ∃ p, p ≤ i + m ∧ G.testBit p = true ∧ ∀ j, p ≤ j → j < i + m → F.testBit j = true) := fun h0 => by
    rw [h0] at hcc
    rw [h0]
    cases hg : G.testBit (i + m) with
    | true =>
      simp only [Bool.not_false, Bool.true_and, Bool.xor_self, Bool.and_false, Bool.xor_false, true_iff]
      exact ⟨i + m, Nat.le_refl _, hg, fun j h1 h2 => by omega⟩
    | false =>
      rw [hg] at hcc
      constructor
      · intro h1
        have h2 : (F + G).testBit (i + m) = false := by
          cases h : (F + G).testBit (i + m) with
          | false => rfl
          | true => rw [h] at h1; exact absurd h1 (by decide)
        rw [h2] at hcc
        have h3 : car F G (i + m) = true := by simpa using hcc
        obtain ⟨p, h4, h5, h6⟩ := (car_run hx _).mp h3
        exact ⟨p, by omega, h5, h6⟩
      · rintro ⟨p, h4, h5, h6⟩
        have hp : p < i + m := by
          by_cases e : p = i + m
          · subst e; rw [hg] at h5; exact absurd h5 (by decide)
          · omega
        rw [(car_run hx _).mpr ⟨p, hp, h5, h6⟩] at hcc
        rw [hcc]; rfl
  rw [Bool.or_eq_true, Bool.and_eq_true]
  unfold tillP
  have ec : ((i : Int) + m) = ((i + m : Nat) : Int) := by omega
  rw [ec]
  cases hs0 : s ((i + m : Nat) : Int) with
  | true => rw [hs0] at main; simp
  | false =>
    rw [hs0] at main
    rw [main rfl]
    simp only [Bool.false_eq_true, and_false, or_false, false_or, true_and]
    constructor
    · rintro ⟨p, h1, h2, h3⟩
      obtain ⟨h4, h5⟩ := (gb p (by omega)).mp h2
      refine ⟨i + m - p, ?_, fun j hj => ?_⟩
      · rw [show ((i + m : Nat) : Int) - ((i + m - p : Nat) : Int) = p by omega]
        rcases h5 with h5 | h5
        · exact .inl h5
        · exact .inr ⟨h5.2.1, h5.2.2⟩
      · by_cases hj0 : j = 0
        · subst hj0; simpa using hs0
        have := h3 (i + m - j) (by omega) (by omega)
        rw [hF, Bool.and_eq_true] at this
        have h10 := this.2
        rw [show ((i + m - j : Nat) : Int) = ((i + m : Nat) : Int) - j by omega] at h10
        simpa using h10
    · rintro ⟨k, h1, h2⟩
      -- a k below i + m can be chosen
      have key : ∃ k : Nat, k < i + m ∧ (r (((i + m : Nat) : Int) - k) = true ∨ (r (((i + m : Nat) : Int) - k - 1) = true ∧ s (((i + m : Nat) : Int) - k - 1) = true)) ∧ ∀ j : Nat, j ≤ k → s (((i + m : Nat) : Int) - j) = false := by
        by_cases hk : k < i + m
        · exact ⟨k, hk, h1, h2⟩
        · have hall : ∀ e : Int, s e = false := fun e => by
            have h5 := hs.mod (((i + m : Nat) : Int) - e)
            have h6 := Int.emod_nonneg (((i + m : Nat) : Int) - e) (show (m : Int) ≠ 0 by omega)
            have h7 := Int.emod_lt_of_pos (((i + m : Nat) : Int) - e) (show (0 : Int) < m by omega)
            have h8 := h2 ((((i + m : Nat) : Int) - e) % (m : Int)).toNat (by omega)
            have h9 : (((((((i + m : Nat) : Int) - e) % (m : Int)).toNat : Nat)) : Int) = (((i + m : Nat) : Int) - e) % (m : Int) := by omega
            rw [h9] at h8
            have h10 := Int.emod_add_mul_ediv (((i + m : Nat) : Int) - e) (m : Int)
            have h11 : (((i + m : Nat) : Int) - (((i + m : Nat) : Int) - e) % (m : Int)) % (m : Int) = e % (m : Int) := by
              rw [Int.sub_emod_emod, show ((i + m : Nat) : Int) - (((i + m : Nat) : Int) - e) = e by omega]
            have h12 := hs.mod (((i + m : Nat) : Int) - (((i + m : Nat) : Int) - e) % (m : Int))
            rw [h11, hs.mod, h8] at h12
            exact h12
          have hrr : ∃ e : Int, r e = true := by
            rcases h1 with h | h
            · exact ⟨_, h⟩
            · exact ⟨_, h.1⟩
          obtain ⟨e, he⟩ := hrr
          have h6 := Int.emod_nonneg (((i + m : Nat) : Int) - e) (show (m : Int) ≠ 0 by omega)
          have h7 := Int.emod_lt_of_pos (((i + m : Nat) : Int) - e) (show (0 : Int) < m by omega)
          refine ⟨((((i + m : Nat) : Int) - e) % (m : Int)).toNat, by omega, .inl ?_, fun j _ => hall _⟩
          have h9 : (((((((i + m : Nat) : Int) - e) % (m : Int)).toNat : Nat)) : Int) = (((i + m : Nat) : Int) - e) % (m : Int) := by omega
          rw [h9]
          have h11 : (((i + m : Nat) : Int) - (((i + m : Nat) : Int) - e) % (m : Int)) % (m : Int) = e % (m : Int) := by
            rw [Int.sub_emod_emod, show ((i + m : Nat) : Int) - (((i + m : Nat) : Int) - e) = e by omega]
          rw [← hr.mod, h11, hr.mod, he]
      obtain ⟨k, hk, h1, h2⟩ := key
      refine ⟨i + m - k, by omega, (gb _ (by omega)).mpr ⟨?_, ?_⟩, fun j h8 h9 => ?_⟩
      · have := h2 k (Nat.le_refl _)
        rw [show ((i + m - k : Nat) : Int) = ((i + m : Nat) : Int) - k by omega]; exact this
      · rw [show ((i + m - k : Nat) : Int) = ((i + m : Nat) : Int) - k by omega]
        rcases h1 with h | h
        · exact .inl h
        · exact .inr ⟨by omega, h⟩
      · have := h2 (i + m - j) (by omega)
        rw [show ((i + m : Nat) : Int) - ((i + m - j : Nat) : Int) = j by omega] at this
        rw [hF, this, decide_eq_true (show j < m + m by omega)]; rfl
/-- the last R day up to an S day -/
def untilP (r s : Int → Bool) (d : Int) : Prop := r d = true ∧ ∃ k : Nat, s (d + k) = true ∧ ∀ j : Nat, 1 ≤ j → j ≤ k → r (d + j) = false
theorem until_neg {r s r' s' : Int → Bool} (hr : ∀ d, r' d = r (-d)) (hs : ∀ d, s' d = s (-d)) (d : Int) : uponP r' s' (-d) ↔ untilP r s d := by
  have e : ∀ k : Nat, -(-d - (k : Int)) = d + k := fun k => by omega
  unfold uponP untilP
  simp only [hr, hs, e, Int.neg_neg]
theorem PerF.cong {m : Nat} {r : Int → Bool} (h : PerF m r) {d e : Int} (hde : d % (m : Int) = e % (m : Int)) (x : Int) : r (d + x) = r (e + x) := by
  rw [← h.mod (d + x), ← h.mod (e + x), Int.add_emod, hde, ← Int.add_emod]
theorem PerF.congS {m : Nat} {r : Int → Bool} (h : PerF m r) {d e : Int} (hde : d % (m : Int) = e % (m : Int)) (x : Int) : r (d - x) = r (e - x) := h.cong hde (-x)
theorem PerF.cong0 {m : Nat} {r : Int → Bool} (h : PerF m r) {d e : Int} (hde : d % (m : Int) = e % (m : Int)) : r d = r e := by
  rw [← h.mod d, hde, h.mod]
theorem upon_cong {m : Nat} {r s : Int → Bool} (hr : PerF m r) (hs : PerF m s) {d e : Int} (h : d % (m : Int) = e % (m : Int)) : uponP r s d ↔ uponP r s e := by
  unfold uponP; simp only [hr.cong0 h, hr.congS h, hs.congS h]
theorem till_cong {m : Nat} {r s : Int → Bool} (hr : PerF m r) (hs : PerF m s) {d e : Int} (h : d % (m : Int) = e % (m : Int)) : tillP r s d ↔ tillP r s e := by
  have e1 : ∀ k : Int, d - k - 1 = d - (k + 1) := fun k => by omega
  have e2 : ∀ k : Int, e - k - 1 = e - (k + 1) := fun k => by omega
  unfold tillP; simp only [e1, e2, hr.cong0 h, hs.cong0 h, hr.congS h, hs.congS h]
theorem hold_iff {m x : Nat} {P : Int → Prop} (hm : 1 ≤ m) (hx : ∀ i : Nat, i < m → (x.testBit i = true ↔ P i)) (hp : ∀ d : Int, P (d % (m : Int)) ↔ P d) (d : Int) : hold m x d = true ↔ P d := by
  obtain ⟨h1, h2⟩ := mod_lt' hm d
  show x.testBit (d % (m : Int)).toNat = true ↔ P d
  rw [hx _ h1, h2, hp]
theorem mod_mod' (d : Int) (m : Nat) : d % (m : Int) % (m : Int) = d % (m : Int) := Int.emod_emod_of_dvd _ (Int.dvd_refl _)
theorem hold_Per {n b m : Nat} (hd : n ∣ m) : PerF m (hold n b) := fun d => by
  rw [← hold_dvd hd (d + m), Int.add_emod_right, hold_dvd hd]
theorem two_bits {m : Nat} {f : Int → Bool} (i : Nat) : (bitsOf (m + m) f).testBit i = (decide (i < m + m) && f i) := tb_bitsOf _ _ _
theorem two_not {m : Nat} {f : Int → Bool} (i : Nat) : (bitsOf (m + m) f ^^^ (2 ^ (m + m) - 1)).testBit i = (decide (i < m + m) && !f i) := by
  rw [Nat.testBit_xor, Nat.testBit_two_pow_sub_one, two_bits]
  by_cases h : i < m + m <;> simp [h]
theorem two_mask {m : Nat} (i : Nat) : (2 ^ (m + m) - 1).testBit i = decide (i < m + m) := Nat.testBit_two_pow_sub_one ..
theorem div_two {x m : Nat} (h : x < 2 ^ (m + m)) : x / 2 ^ m < 2 ^ m := Nat.div_lt_of_lt_mul (by rw [← Nat.pow_add]; exact h)

/-! ### the places of the bits that are 1, rising -/
structure Row (l : List Int) (f : Int → Bool) (n : Nat) : Prop where
  up : l.Pairwise (· < ·)
  mem : ∀ z, z ∈ l ↔ 0 ≤ z ∧ z < n ∧ f z = true
theorem row_len : ∀ (l : List Int) (lo n : Int), lo ≤ n → l.Pairwise (· < ·) → (∀ z ∈ l, lo ≤ z ∧ z < n) → (l.length : Int) ≤ n - lo
  | [], lo, n, h0, _, _ => by simp; omega
  | a :: r, lo, n, h0, hp, hb => by
    have h1 := List.pairwise_cons.mp hp
    have h2 := hb a List.mem_cons_self
    have := row_len r (a + 1) n (by omega) h1.2 (fun z hz => ⟨by have := h1.1 z hz; omega, (hb z (List.mem_cons_of_mem _ hz)).2⟩)
    rw [List.length_cons]; omega
theorem Row.len {l : List Int} {f : Int → Bool} {n : Nat} (h : Row l f n) : l.length ≤ n := by
  have := row_len l 0 n (by omega) h.up (fun z hz => ⟨((h.mem z).mp hz).1, ((h.mem z).mp hz).2.1⟩)
  omega
theorem up_lt {l : List Int} (h : l.Pairwise (· < ·)) {i j : Nat} (hij : i < j) (hj : j < l.length) : l.getD i 0 < l.getD j 0 := by
  rw [List.getD_eq_getElem?_getD, List.getD_eq_getElem?_getD, List.getElem?_eq_getElem (by omega), List.getElem?_eq_getElem hj]
  exact List.pairwise_iff_getElem.mp h i j (by omega) hj hij
theorem getD_mem {l : List Int} {i : Nat} (h : i < l.length) : l.getD i 0 ∈ l := by
  rw [List.getD_eq_getElem?_getD, List.getElem?_eq_getElem h]; exact List.getElem_mem _
theorem mem_getD {l : List Int} {z : Int} (h : z ∈ l) : ∃ i, i < l.length ∧ l.getD i 0 = z := by
  obtain ⟨i, hi, e⟩ := List.mem_iff_getElem.mp h
  exact ⟨i, hi, by rw [List.getD_eq_getElem?_getD, List.getElem?_eq_getElem hi]; exact e⟩
/-- one stretch of days and the first one behind it -/
structure Arnd (m : Nat) (f : Int → Bool) (l : List Int) : Prop where
  two : l ≠ [] → 2 ≤ l.length
  len : l.length ≤ m + 1
  step : ∀ k, k + 1 < l.length → (0 ≤ l.getD k 0 ∧ l.getD k 0 < m ∧ l.getD k 0 < l.getD (k + 1) 0 ∧ l.getD (k + 1) 0 ≤ l.getD k 0 + m) ∧ f (l.getD k 0) = true ∧ f (l.getD (k + 1) 0) = true ∧ ∀ e, l.getD k 0 < e → e < l.getD (k + 1) 0 → f e = false
  cov : ∀ d : Int, 0 ≤ d → d < m → f d = true → ∃ k, k + 1 < l.length ∧ l.getD k 0 = d
  cov2 : ∀ d : Int, 0 ≤ d → d < m → f d = true → ∃ k, k + 1 < l.length ∧ (l.getD (k + 1) 0 = d ∨ l.getD (k + 1) 0 = d + m)
theorem arnd_nil {m : Nat} {f : Int → Bool} (h : Row [] f m) : Arnd m f [] := by
  have hc : ∀ d : Int, 0 ≤ d → d < m → f d = true → False := fun d h1 h2 h3 => by have := (h.mem d).mpr ⟨h1, h2, h3⟩; simp at this
  exact ⟨fun h => absurd rfl h, by simp, fun k hk => by simp at hk, fun d h1 h2 h3 => (hc d h1 h2 h3).elim, fun d h1 h2 h3 => (hc d h1 h2 h3).elim⟩
theorem arnd_of {m : Nat} {f : Int → Bool} {l : List Int} (hf : PerF m f) (hm : 1 ≤ m) (h : Row l f m) (h0 : l ≠ []) : Arnd m f (l ++ [l.getD 0 0 + m]) := by
  have hp : 0 < l.length := List.length_pos_iff.mpr h0
  have hl := h.len
  have g1 : ∀ k, k < l.length → (l ++ [l.getD 0 0 + (m : Int)]).getD k 0 = l.getD k 0 := fun k hk => by
    rw [List.getD_eq_getElem?_getD, List.getElem?_append_left hk, ← List.getD_eq_getElem?_getD]
  have g2 : (l ++ [l.getD 0 0 + (m : Int)]).getD l.length 0 = l.getD 0 0 + m := by
    rw [List.getD_eq_getElem?_getD, List.getElem?_append_right (Nat.le_refl _), Nat.sub_self]; rfl
  have hb : ∀ k, k < l.length → 0 ≤ l.getD k 0 ∧ l.getD k 0 < m ∧ f (l.getD k 0) = true := fun k hk => (h.mem _).mp (getD_mem hk)
  have hz := hb 0 hp
  have hmin : ∀ d : Int, 0 ≤ d → d < m → f d = true → l.getD 0 0 ≤ d := fun d h1 h2 h3 => by
    obtain ⟨i, hi, rfl⟩ := mem_getD ((h.mem d).mpr ⟨h1, h2, h3⟩)
    by_cases e : i = 0
    · subst e; omega
    · have := up_lt h.up (show 0 < i by omega) hi; omega
  refine ⟨fun _ => by rw [List.length_append, List.length_singleton]; omega, by rw [List.length_append, List.length_singleton]; omega, fun k hk => ?_, fun d h1 h2 h3 => ?_, fun d h1 h2 h3 => ?_⟩
  · rw [List.length_append, List.length_singleton] at hk
    have hk1 : k < l.length := by omega
    rw [g1 k hk1]
    have hbk := hb k hk1
    by_cases e : k + 1 < l.length
    · rw [g1 _ e]
      have hbk2 := hb _ e
      have hlt := up_lt h.up (show k < k + 1 by omega) e
      refine ⟨⟨hbk.1, hbk.2.1, hlt, by omega⟩, hbk.2.2, hbk2.2.2, fun x hx1 hx2 => ?_⟩
      cases hfx : f x with
      | false => rfl
      | true =>
        obtain ⟨i, hi, rfl⟩ := mem_getD ((h.mem x).mpr ⟨by omega, by omega, hfx⟩)
        exfalso
        by_cases h1 : i ≤ k
        · by_cases h2 : i = k
          · subst h2; omega
          · have := up_lt h.up (show i < k by omega) hk1; omega
        · by_cases h2 : i = k + 1
          · subst h2; omega
          · have := up_lt h.up (show k + 1 < i by omega) hi; omega
    · have e1 : k + 1 = l.length := by omega
      rw [e1, g2]
      have hk0 : l.getD 0 0 ≤ l.getD k 0 := hmin _ hbk.1 hbk.2.1 hbk.2.2
      refine ⟨⟨hbk.1, hbk.2.1, by omega, by omega⟩, hbk.2.2, by rw [hf]; exact hz.2.2, fun x hx1 hx2 => ?_⟩
      cases hfx : f x with
      | false => rfl
      | true =>
        exfalso
        by_cases hxm : x < m
        · obtain ⟨i, hi, rfl⟩ := mem_getD ((h.mem x).mpr ⟨by omega, hxm, hfx⟩)
          by_cases h2 : i = k
          · subst h2; omega
          · have := up_lt h.up (show i < k by omega) hk1; omega
        · have h4 : f (x - m) = true := by rw [← hf, show x - m + m = x by omega]; exact hfx
          have := hmin (x - m) (by omega) (by omega) h4
          omega
  · obtain ⟨i, hi, rfl⟩ := mem_getD ((h.mem d).mpr ⟨h1, h2, h3⟩)
    exact ⟨i, by rw [List.length_append, List.length_singleton]; omega, g1 i hi⟩
  · obtain ⟨i, hi, rfl⟩ := mem_getD ((h.mem d).mpr ⟨h1, h2, h3⟩)
    by_cases e : i = 0
    · subst e
      exact ⟨l.length - 1, by rw [List.length_append, List.length_singleton]; omega, by rw [show l.length - 1 + 1 = l.length by omega, g2]; exact .inr rfl⟩
    · exact ⟨i - 1, by rw [List.length_append, List.length_singleton]; omega, by rw [show i - 1 + 1 = i by omega, g1 i hi]; exact .inl rfl⟩
theorem ix_getD {l : List Int} {i : Int} {k : Nat} (hi : i = k) (h : k < l.length) : atI (l.map V.int) i = some (.int (l.getD k 0)) := by
  refine at_of hi ?_
  rw [List.getElem?_map, List.getD_eq_getElem?_getD, List.getElem?_eq_getElem h]; rfl
theorem xor_low {x k : Nat} (i : Nat) : (x ^^^ 2 ^ k).testBit i = (x.testBit i ^^ decide (k = i)) := by rw [Nat.testBit_xor, Nat.testBit_two_pow]
/-- the lowest bit taken out -/
theorem place_step {x n k : Nat} (hx : x < 2 ^ n) (hk : x.testBit k = true) (hlow : ∀ i, i < k → x.testBit i = false) : k < n ∧ x ^^^ 2 ^ k < 2 ^ n ∧ ∀ i, (x ^^^ 2 ^ k).testBit i = (x.testBit i && !decide (i = k)) := by
  have hkn : k < n := by
    by_cases h : k < n
    · exact h
    · rw [Nat.testBit_lt_two_pow (Nat.lt_of_lt_of_le hx (Nat.pow_le_pow_right (by decide) (by omega)))] at hk; exact absurd hk (by decide)
  refine ⟨hkn, Nat.xor_lt_two_pow hx (Nat.pow_lt_pow_right (by decide) hkn), fun i => ?_⟩
  rw [xor_low]
  by_cases e : i = k
  · subst e; simp [hk]
  · rw [decide_eq_false (show ¬ k = i by omega), decide_eq_false e]; simp
theorem low_pow {x : Nat} (h : 0 < x) : ∃ k, Builtin.bitAnd (x : Int) (-(x : Int)) = ((2 ^ k : Nat) : Int) ∧ x.testBit k = true ∧ ∀ i, i < k → x.testBit i = false := by
  obtain ⟨k, h1, h2, h3⟩ := low_bit h
  exact ⟨k, by rw [and_neg h, h1], h2, h3⟩
/-! ### near -/
def nearP (r s : Int → Bool) (d : Int) : Prop := r d = true ∧ ((∃ k : Nat, 1 ≤ k ∧ s (d + k) = true ∧ ∀ j : Nat, 1 ≤ j → j < 2 * k → r (d + j) = false) ∨ (∃ k : Nat, s (d - k) = true ∧ ∀ j : Nat, 1 ≤ j → j ≤ 2 * k → r (d - j) = false))
def nearC (s : Int → Bool) (x y : Int) : Prop := ∃ e, x < e ∧ e ≤ y ∧ s e = true
theorem near_bits {m : Nat} {r s : Int → Bool} {l : List Int} (hr : PerF m r) (hs : PerF m s) (hm : 1 ≤ m) (h : Arnd m r l) (j : Nat) (hj : j < m) :
    (∃ k, k + 1 < l.length ∧ ((l.getD k 0 = j ∧ nearC s (l.getD k 0) ((l.getD k 0 + l.getD (k + 1) 0) / 2)) ∨ (l.getD (k + 1) 0 % m = j ∧ nearC s ((l.getD k 0 + l.getD (k + 1) 0) / 2) (l.getD (k + 1) 0)))) ↔ nearP r s j := by
  constructor
  · rintro ⟨k, hk, h1⟩
    obtain ⟨⟨h2, h3, h4, h5⟩, h6, h7, h8⟩ := h.step k hk
    generalize l.getD k 0 = x at *
    generalize l.getD (k + 1) 0 = y at *
    rcases h1 with ⟨rfl, e, e1, e2, e3⟩ | ⟨h9, e, e1, e2, e3⟩
    · refine ⟨h6, .inl ⟨(e - j).toNat, by omega, ?_, fun i hi hi2 => h8 _ (by omega) (by omega)⟩⟩
      rw [show (j : Int) + ((e - j).toNat : Nat) = e by omega]; exact e3
    · have ed := Int.emod_add_mul_ediv y (m : Int)
      have hq : y / (m : Int) = 0 ∨ y / (m : Int) = 1 := by
        by_cases hy : y < m
        · left; exact Int.ediv_eq_zero_of_lt (by omega) hy
        · right
          have e1 : y = (y - m) + m * 1 := by omega
          rw [e1, Int.add_mul_ediv_left _ _ (by omega), Int.ediv_eq_zero_of_lt (by omega) (by omega)]; rfl
      have hper : ∀ {g : Int → Bool}, PerF m g → ∀ z : Int, g ((j : Int) - z) = g (y - z) := fun {g} hg z => by
        rcases hq with hq | hq
        · rw [hq, Int.mul_zero] at ed
          rw [show y = (j : Int) by omega]
        · rw [hq, Int.mul_one] at ed
          rw [show y - z = (j : Int) - z + m by omega, hg]
      have h7' : r j = true := by
        have := hper hr 0
        simp only [Int.sub_zero] at this
        rw [this]; exact h7
      refine ⟨h7', .inr ⟨(y - e).toNat, ?_, fun i hi hi2 => ?_⟩⟩
      · rw [hper hs, show y - ((y - e).toNat : Nat) = e by omega]; exact e3
      · rw [hper hr]; exact h8 _ (by omega) (by omega)
  · rintro ⟨h1, ⟨t, ht, h2, h3⟩ | ⟨t, h2, h3⟩⟩
    · obtain ⟨k, hk, hkd⟩ := h.cov j (by omega) (by omega) h1
      obtain ⟨⟨h4, h5, h6, h7⟩, h8, h9, h10⟩ := h.step k hk
      refine ⟨k, hk, .inl ⟨hkd, (j : Int) + t, by omega, ?_, h2⟩⟩
      rw [hkd]
      have : (j : Int) + 2 * t ≤ l.getD (k + 1) 0 := by
        refine Classical.byContradiction fun hc => ?_
        have := h3 (l.getD (k + 1) 0 - j).toNat (by omega) (by omega)
        rw [show (j : Int) + ((l.getD (k + 1) 0 - j).toNat : Nat) = l.getD (k + 1) 0 by omega, h9] at this
        exact absurd this (by decide)
      omega
    · obtain ⟨k, hk, hkd⟩ := h.cov2 j (by omega) (by omega) h1
      obtain ⟨⟨h4, h5, h6, h7⟩, h8, h9, h10⟩ := h.step k hk
      have hper : ∀ {g : Int → Bool}, PerF m g → ∀ z : Int, g (l.getD (k + 1) 0 - z) = g ((j : Int) - z) := fun {g} hg z => by
        rcases hkd with e | e
        · rw [e]
        · rw [e, show (j : Int) + m - z = (j : Int) - z + m by omega, hg]
      refine ⟨k, hk, .inr ⟨?_, l.getD (k + 1) 0 - t, ?_, by omega, by rw [hper hs]; exact h2⟩⟩
      · rcases hkd with e | e
        · rw [e]; exact Int.emod_eq_of_lt (by omega) (by omega)
        · rw [e, Int.add_emod_right]; exact Int.emod_eq_of_lt (by omega) (by omega)
      · have : l.getD k 0 < l.getD (k + 1) 0 - 2 * t := by
          refine Classical.byContradiction fun hc => ?_
          have := h3 (l.getD (k + 1) 0 - l.getD k 0).toNat (by omega) (by omega)
          rw [← hper hr, show l.getD (k + 1) 0 - ((l.getD (k + 1) 0 - l.getD k 0).toNat : Nat) = l.getD k 0 by omega, h8] at this
          exact absurd this (by decide)
        omega
/-! ### the so-many-th bit -/
theorem cnt_succ (f : Nat → Bool) (c : Nat) : cnt f (c + 1) = cnt f c + if f c then 1 else 0 := rfl
/-- which bit is the so-many-th -/
def chosenP (z : Int) (f : Nat → Bool) (c : Nat) : Prop := f c = true ∧ (cnt f (c + 1) : Int) = z
theorem cnt_clear {f g : Nat → Bool} {k : Nat} (hk : f k = true) (hlow : ∀ i, i < k → f i = false) (hg : ∀ i, g i = (f i && !decide (i = k))) : ∀ c, cnt f c = cnt g c + if k < c then 1 else 0
  | 0 => by simp [cnt]
  | c + 1 => by
    have ih := cnt_clear hk hlow hg c
    rw [cnt_succ, cnt_succ, ih, hg c]
    by_cases e : c = k
    · subst e; simp [hk]
    · by_cases h : k < c
      · rw [if_pos h, if_pos (show k < c + 1 by omega)]
        cases f c <;> simp [e] <;> omega
      · rw [if_neg h, if_neg (show ¬ k < c + 1 by omega), hlow c (by omega)]; simp
theorem chosen_step {f g : Nat → Bool} {k : Nat} {z : Int} (hz : 1 < z) (hk : f k = true) (hlow : ∀ i, i < k → f i = false) (hg : ∀ i, g i = (f i && !decide (i = k))) (c : Nat) : chosenP z f c ↔ chosenP (z - 1) g c := by
  have hc := cnt_clear hk hlow hg (c + 1)
  have h0 : cnt f (k + 1) = 1 := by rw [cnt_succ, cnt_zero hlow, hk]; rfl
  unfold chosenP
  rw [hg c]
  constructor
  · rintro ⟨h1, h2⟩
    have hck : k < c := by
      rcases Nat.lt_trichotomy c k with h | h | h
      · rw [hlow c h] at h1; exact absurd h1 (by decide)
      · subst h; omega
      · exact h
    rw [if_pos (by omega)] at hc
    exact ⟨by rw [h1, decide_eq_false (by omega)]; rfl, by omega⟩
  · rintro ⟨h1, h2⟩
    rw [Bool.and_eq_true] at h1
    have hck : k < c := by
      rcases Nat.lt_trichotomy c k with h | h | h
      · rw [hlow c h] at h1; exact absurd h1.1 (by decide)
      · subst h; simp at h1
      · exact h
    rw [if_pos (by omega)] at hc
    exact ⟨h1.1, by omega⟩
theorem chosen_one {f : Nat → Bool} {k : Nat} (hk : f k = true) (hlow : ∀ i, i < k → f i = false) (c : Nat) : chosenP 1 f c ↔ c = k := by
  have h0 : cnt f (k + 1) = 1 := by rw [cnt_succ, cnt_zero hlow, hk]; rfl
  unfold chosenP
  constructor
  · rintro ⟨h1, h2⟩
    rcases Nat.lt_trichotomy c k with h | h | h
    · rw [hlow c h] at h1; exact absurd h1 (by decide)
    · exact h
    · have := cnt_mono f (show k + 1 ≤ c by omega)
      rw [cnt_succ, h1] at h2; simp at h2; omega
  · rintro rfl; exact ⟨hk, by omega⟩
theorem chosen_none {f : Nat → Bool} {z : Int} {c : Nat} (hz : z < 1) : ¬ chosenP z f c := fun ⟨h1, h2⟩ => by
  rw [cnt_succ, h1] at h2; simp at h2; omega
theorem chosen_far {f : Nat → Bool} {z : Int} {c n : Nat} (hn : ∀ i, n ≤ i → f i = false) (hz : n < z) : ¬ chosenP z f c := fun ⟨h1, h2⟩ => by
  have hc : c < n := by
    by_cases h : c < n
    · exact h
    · rw [hn c (by omega)] at h1; exact absurd h1 (by decide)
  have := cnt_le f (c + 1)
  omega
theorem chosen_nil {f : Nat → Bool} {z : Int} {c : Nat} (hf : ∀ i, f i = false) : ¬ chosenP z f c := fun ⟨h1, h2⟩ => by
  rw [hf] at h1; exact absurd h1 (by decide)
/-! ### kth -/
def kthP (z : Int) (r s : Int → Bool) (d : Int) : Prop := r d = true ∧
  if 0 < z then ∃ k : Nat, s (d - k) = true ∧ (∀ j : Nat, j < k → s (d - j) = false) ∧ (cnt (fun i => r (d - k + i)) (k + 1) : Int) = z
  else ∃ k : Nat, 1 ≤ k ∧ s (d + k) = true ∧ (∀ j : Nat, 1 ≤ j → j < k → s (d + j) = false) ∧ (cnt (fun i => r (d + i)) k : Int) = -z
/-- of one span from x to ahead of y: which of its days is told -/
theorem kth_span {z : Int} {r s : Int → Bool} {x y : Int} (hz : z ≠ 0) (hxy : x < y) (hsx : s x = true) (hsy : s y = true) (hno : ∀ e, x < e → e < y → s e = false) (c : Nat) (hc : x + c < y) :
    chosenP (if z < 0 then (cnt (fun i => r (x + i)) (y - x).toNat : Int) + z + 1 else z) (fun i => decide (x + i < y) && r (x + i)) c ↔ kthP z r s (x + c) := by
  have hext : cnt (fun i => decide (x + (i : Int) < y) && r (x + i)) (c + 1) = cnt (fun i => r (x + i)) (c + 1) := cnt_ext fun i hi => by
    rw [decide_eq_true (by omega)]; rfl
  unfold chosenP kthP
  rw [hext]
  show (decide (x + (c : Int) < y) && r (x + c)) = true ∧ _ ↔ _
  rw [decide_eq_true hc, Bool.true_and]
  refine and_congr_right fun h1 => ?_
  by_cases h0 : 0 < z
  · rw [if_pos h0, if_neg (by omega)]
    constructor
    · intro h2
      refine ⟨c, by rw [show x + (c : Int) - c = x by omega]; exact hsx, fun j hj => hno _ (by omega) (by omega), ?_⟩
      rw [show x + (c : Int) - c = x by omega]; exact h2
    · rintro ⟨k, h2, h3, h4⟩
      have : k = c := by
        rcases Nat.lt_trichotomy k c with h | h | h
        · have := hno (x + c - k) (by omega) (by omega)
          rw [this] at h2; exact absurd h2 (by decide)
        · exact h
        · have := h3 c h
          rw [show x + (c : Int) - c = x by omega, hsx] at this; exact absurd this (by decide)
      subst this
      rw [show x + (k : Int) - k = x by omega] at h4; exact h4
  · rw [if_neg h0, if_pos (by omega)]
    have hsplit : cnt (fun i => r (x + i)) (y - x).toNat = cnt (fun i => r (x + i)) c + cnt (fun i => r (x + c + i)) ((y - x).toNat - c) := by
      have := cnt_add (fun i => r (x + i)) c ((y - x).toNat - c)
      rw [show c + ((y - x).toNat - c) = (y - x).toNat by omega] at this
      rw [this]; congr 1
      exact cnt_ext fun i _ => by show r _ = r _; congr 1; omega
    have hlast : cnt (fun i => r (x + i)) (c + 1) = cnt (fun i => r (x + i)) c + 1 := by rw [cnt_succ, h1]; rfl
    constructor
    · intro h2
      refine ⟨(y - x).toNat - c, by omega, ?_, fun j hj hj2 => hno _ (by omega) (by omega), ?_⟩
      · rw [show x + (c : Int) + (((y - x).toNat - c : Nat) : Int) = y by omega]; exact hsy
      · omega
    · rintro ⟨k, hk, h2, h3, h4⟩
      have : k = (y - x).toNat - c := by
        rcases Nat.lt_trichotomy k ((y - x).toNat - c) with h | h | h
        · have := hno (x + c + k) (by omega) (by omega)
          rw [this] at h2; exact absurd h2 (by decide)
        · exact h
        · have := h3 ((y - x).toNat - c) (by omega) h
          rw [show x + (c : Int) + (((y - x).toNat - c : Nat) : Int) = y by omega, hsy] at this; exact absurd this (by decide)
      subst this
      omega
theorem kth_per {m : Nat} {z : Int} {r s : Int → Bool} (hr : PerF m r) (hs : PerF m s) (d : Int) : kthP z r s (d + m) ↔ kthP z r s d := by
  have e1 : ∀ k : Nat, s (d + m - k) = s (d - k) := fun k => by rw [show d + (m : Int) - k = d - k + m by omega, hs]
  have e2 : ∀ k : Nat, s (d + m + k) = s (d + k) := fun k => by rw [show d + (m : Int) + k = d + k + m by omega, hs]
  have e3 : ∀ k i : Nat, r (d + m - k + i) = r (d - k + i) := fun k i => by rw [show d + (m : Int) - k + i = d - k + i + m by omega, hr]
  have e4 : ∀ i : Nat, r (d + m + i) = r (d + i) := fun i => by rw [show d + (m : Int) + i = d + i + m by omega, hr]
  unfold kthP
  simp only [e1, e2, e3, e4, hr d]
theorem least_nat {p : Nat → Bool} {n : Nat} (h : p n = true) : ∃ k, k ≤ n ∧ p k = true ∧ ∀ j, j < k → p j = false := by
  induction n using Nat.strongRecOn with
  | _ n ih =>
    by_cases hx : ∃ j, j < n ∧ p j = true
    · obtain ⟨j, h1, h2⟩ := hx
      obtain ⟨k, h3, h4, h5⟩ := ih j h1 h2
      exact ⟨k, by omega, h4, h5⟩
    · exact ⟨n, Nat.le_refl _, h, fun j hj => by
        cases hp : p j with
        | false => rfl
        | true => exact absurd ⟨j, hj, hp⟩ hx⟩
theorem last_ex {m : Nat} {s : Int → Bool} (hs : PerF m s) (hm : 1 ≤ m) {e : Int} (he : s e = true) (d : Int) : ∃ k : Nat, k < m ∧ s (d - k) = true ∧ ∀ j : Nat, j < k → s (d - j) = false := by
  have h1 := Int.emod_nonneg (d - e) (show (m : Int) ≠ 0 by omega)
  have h2 := Int.emod_lt_of_pos (d - e) (show (0 : Int) < m by omega)
  have h3 : s (d - ((d - e) % (m : Int)).toNat) = true := by
    rw [show (((d - e) % (m : Int)).toNat : Int) = (d - e) % (m : Int) by omega, ← hs.mod, Int.sub_emod_emod, show d - (d - e) = e by omega, hs.mod, he]
  obtain ⟨k, h4, h5, h6⟩ := least_nat (p := fun k : Nat => s (d - k)) h3
  exact ⟨k, by omega, h5, h6⟩
theorem next_ex {m : Nat} {s : Int → Bool} (hs : PerF m s) (hm : 1 ≤ m) {e : Int} (he : s e = true) (d : Int) : ∃ k : Nat, k < m ∧ s (d + k) = true ∧ ∀ j : Nat, j < k → s (d + j) = false := by
  have h1 := Int.emod_nonneg (e - d) (show (m : Int) ≠ 0 by omega)
  have h2 := Int.emod_lt_of_pos (e - d) (show (0 : Int) < m by omega)
  have h3 : s (d + ((e - d) % (m : Int)).toNat) = true := by
    rw [show (((e - d) % (m : Int)).toNat : Int) = (e - d) % (m : Int) by omega, ← hs.mod, Int.add_emod_emod, show d + (e - d) = e by omega, hs.mod, he]
  obtain ⟨k, h4, h5, h6⟩ := least_nat (p := fun k : Nat => s (d + k)) h3
  exact ⟨k, by omega, h5, h6⟩
theorem kth_final {m : Nat} {z : Int} {r s : Int → Bool} {l : List Int} (hr : PerF m r) (hs : PerF m s) (hm : 1 ≤ m) (h : Arnd m s l) (j : Nat) (hj : j < m) {B : Nat}
    (hB : ∀ p : Nat, B.testBit p = true ↔ ∃ k, k + 1 < l.length ∧ l.getD k 0 ≤ p ∧ p < l.getD (k + 1) 0 ∧ kthP z r s p) :
    ((B ||| (B / 2 ^ m)) % 2 ^ m).testBit j = true ↔ kthP z r s j := by
  rw [Nat.testBit_mod_two_pow, decide_eq_true hj, Bool.true_and, Nat.testBit_or, Bool.or_eq_true, Nat.testBit_div_two_pow, hB, hB]
  have hper := kth_per (z := z) hr hs (j : Int)
  have ec : ((j + m : Nat) : Int) = (j : Int) + m := by omega
  rw [ec]
  constructor
  · rintro (⟨k, h1, h2, h3, h4⟩ | ⟨k, h1, h2, h3, h4⟩)
    · exact h4
    · exact hper.mp h4
  · intro hk
    have hse : ∃ e, s e = true := by
      have h1 := hk.2
      by_cases h0 : 0 < z
      · rw [if_pos h0] at h1; obtain ⟨k, h2, _⟩ := h1; exact ⟨_, h2⟩
      · rw [if_neg h0] at h1; obtain ⟨k, _, h2, _⟩ := h1; exact ⟨_, h2⟩
    obtain ⟨e, he⟩ := hse
    obtain ⟨t, ht, h1, h2⟩ := last_ex hs hm he (j : Int)
    have g1 := Int.emod_nonneg ((j : Int) - t) (show (m : Int) ≠ 0 by omega)
    have g2 := Int.emod_lt_of_pos ((j : Int) - t) (show (0 : Int) < m by omega)
    obtain ⟨k, hk1, hk2⟩ := h.cov _ g1 g2 (by rw [hs.mod]; exact h1)
    obtain ⟨⟨h4, h5, h6, h7⟩, h8, h9, h10⟩ := h.step k hk1
    have hq : ((j : Int) - t) % (m : Int) = j - t ∨ ((j : Int) - t) % (m : Int) = j - t + m := by
      by_cases hjt : t ≤ j
      · left; exact Int.emod_eq_of_lt (by omega) (by omega)
      · right
        have := Int.add_emod_right (a := (j : Int) - t) (b := m)
        rw [← this]; exact Int.emod_eq_of_lt (by omega) (by omega)
    have hlt : ((j : Int) - t) % (m : Int) + t < l.getD (k + 1) 0 := by
      refine Classical.byContradiction fun hc => ?_
      have a1 : 0 < l.getD (k + 1) 0 - ((j : Int) - t) % (m : Int) := by omega
      have := h2 (t - (l.getD (k + 1) 0 - ((j : Int) - t) % (m : Int)).toNat) (by omega)
      have e1 : s ((j : Int) - ((t - (l.getD (k + 1) 0 - ((j : Int) - t) % (m : Int)).toNat : Nat) : Int)) = s (l.getD (k + 1) 0) := by
        rcases hq with hq | hq
        · rw [hq] at hc a1 ⊢; congr 1; omega
        · rw [hq] at hc a1 ⊢
          rw [← hs]; congr 1; omega
      rw [e1, h9] at this
      exact absurd this (by decide)
    rcases hq with hq | hq
    · left; exact ⟨k, hk1, by rw [hk2, hq]; omega, by rw [hq] at hlt; omega, hk⟩
    · right; exact ⟨k, hk1, by rw [hk2, hq]; omega, by rw [hq] at hlt; omega, hper.mpr hk⟩
/-! ### every -/
theorem row_cnt {l : List Int} {f : Int → Bool} {n : Nat} (h : Row l f n) : ∀ k, k < l.length → cnt (fun i => f i) (l.getD k 0).toNat = k
  | 0, hk => by
    refine cnt_zero fun i hi => ?_
    cases hf : f i with
    | false => rfl
    | true =>
      have h0 := (h.mem _).mp (getD_mem hk)
      obtain ⟨j, hj, e⟩ := mem_getD ((h.mem (i : Int)).mpr ⟨by omega, by omega, hf⟩)
      by_cases ej : j = 0
      · subst ej; omega
      · have := up_lt h.up (show 0 < j by omega) hj; omega
  | k + 1, hk => by
    have ih := row_cnt h k (by omega)
    have hlt := up_lt h.up (show k < k + 1 by omega) hk
    have hb0 := (h.mem _).mp (getD_mem (show k < l.length by omega))
    have hb1 := (h.mem _).mp (getD_mem hk)
    have e : (l.getD (k + 1) 0).toNat = (l.getD k 0).toNat + 1 + ((l.getD (k + 1) 0).toNat - ((l.getD k 0).toNat + 1)) := by omega
    rw [e, cnt_add, cnt_succ, ih, cnt_zero (n := (l.getD (k + 1) 0).toNat - ((l.getD k 0).toNat + 1)), show (((l.getD k 0).toNat : Nat) : Int) = l.getD k 0 by omega, hb0.2.2]
    · rfl
    · intro i hi
      cases hf : f (((l.getD k 0).toNat + 1 + i : Nat)) with
      | false => rfl
      | true =>
        obtain ⟨j, hj, e⟩ := mem_getD ((h.mem _).mpr ⟨by omega, by omega, hf⟩)
        exfalso
        by_cases h1 : j ≤ k
        · by_cases h2 : j = k
          · subst h2; omega
          · have := up_lt h.up (show j < k by omega) (by omega); omega
        · by_cases h2 : j = k + 1
          · subst h2; omega
          · have := up_lt h.up (show k + 1 < j by omega) hj; omega
theorem row_pop {l : List Int} {f : Int → Bool} {n : Nat} (h : Row l f n) : cnt (fun i => f i) n = l.length := by
  by_cases h0 : l.length = 0
  · rw [h0]
    refine cnt_zero fun i hi => ?_
    cases hf : f i with
    | false => rfl
    | true =>
      obtain ⟨j, hj, _⟩ := mem_getD ((h.mem (i : Int)).mpr ⟨by omega, by omega, hf⟩)
      omega
  · have hk : l.length - 1 < l.length := by omega
    have hc := row_cnt h _ hk
    have hb := (h.mem _).mp (getD_mem hk)
    have e : n = (l.getD (l.length - 1) 0).toNat + 1 + (n - ((l.getD (l.length - 1) 0).toNat + 1)) := by omega
    rw [e, cnt_add, cnt_succ, hc, cnt_zero (n := n - ((l.getD (l.length - 1) 0).toNat + 1)), show (((l.getD (l.length - 1) 0).toNat : Nat) : Int) = l.getD (l.length - 1) 0 by omega, hb.2.2]
    · show l.length - 1 + 1 + 0 = _; omega
    · intro i hi
      cases hf : f (((l.getD (l.length - 1) 0).toNat + 1 + i : Nat)) with
      | false => rfl
      | true =>
        obtain ⟨j, hj, e⟩ := mem_getD ((h.mem _).mpr ⟨by omega, by omega, hf⟩)
        exfalso
        by_cases h2 : j = l.length - 1
        · subst h2; omega
        · have := up_lt h.up (show j < l.length - 1 by omega) hk; omega
/-- every so-many-th day of a round, counted from a day -/
def everyP (z n b : Nat) (d e : Int) : Prop := hold n b e = true ∧ (rankI n b e - rankI n b d) % (z : Int) = 0
theorem every_at {n b : Nat} {l : List Int} (hn : 1 ≤ n) (hb : b < 2 ^ n) (h : Row l (hold n b) n) {q : Int} {t : Nat} (ht : t < l.length) :
    hold n b (q * n + l.getD t 0) = true ∧ rankI n b (q * n + l.getD t 0) = q * l.length + t := by
  have hb1 := (h.mem _).mp (getD_mem ht)
  have hc := row_cnt h t ht
  have hp := row_pop h
  have e1 : (q * (n : Int) + l.getD t 0) % (n : Int) = l.getD t 0 := by
    rw [Int.add_comm, Int.add_mul_emod_self_right, Int.emod_eq_of_lt hb1.1 hb1.2.1]
  have e2 : (q * (n : Int) + l.getD t 0) / (n : Int) = q := by
    rw [Int.add_comm, Int.add_mul_ediv_right _ _ (by omega), Int.ediv_eq_zero_of_lt hb1.1 hb1.2.1, Int.zero_add]
  have hcn : ∀ k, k ≤ n → cnt b.testBit k = cnt (fun i => hold n b i) k := fun k hk => cnt_ext fun i hi => (hold_nat (by omega)).symm
  refine ⟨?_, ?_⟩
  · rw [← hold_per, e1]; exact hb1.2.2
  · unfold rankI
    rw [e1, e2, pop_cnt, pop_eq hb, hcn _ (Nat.le_refl n), hp, hcn _ (by omega), hc]
theorem every_from {n b : Nat} {l : List Int} (hn : 1 ≤ n) (h : Row l (hold n b) n) {e : Int} (he : hold n b e = true) : ∃ t : Nat, t < l.length ∧ e = e / (n : Int) * n + l.getD t 0 := by
  have h1 := Int.emod_nonneg e (show (n : Int) ≠ 0 by omega)
  have h2 := Int.emod_lt_of_pos e (show (0 : Int) < n by omega)
  obtain ⟨t, ht, ht2⟩ := mem_getD ((h.mem (e % (n : Int))).mpr ⟨h1, h2, by rw [hold_per]; exact he⟩)
  have h3 := Int.emod_add_mul_ediv e (n : Int)
  exact ⟨t, ht, by rw [ht2, Int.mul_comm]; omega⟩
/-- the place of the at-th day of a round, from day 0 on -/
def atPlace (n : Nat) (l : List Int) (at_ : Int) : Int := at_ / (l.length : Int) * n + l.getD (at_ % (l.length : Int)).toNat 0
theorem at_ok {n b : Nat} {l : List Int} (hn : 1 ≤ n) (hb : b < 2 ^ n) (h : Row l (hold n b) n) (h0 : 0 < l.length) {x : Int} : hold n b (atPlace n l x) = true ∧ rankI n b (atPlace n l x) = x := by
  have h1 := Int.emod_nonneg x (show (l.length : Int) ≠ 0 by omega)
  have h2 := Int.emod_lt_of_pos x (show (0 : Int) < l.length by omega)
  have h3 := Int.emod_add_mul_ediv x (l.length : Int)
  obtain ⟨h4, h5⟩ := every_at (q := x / (l.length : Int)) hn hb h (show (x % (l.length : Int)).toNat < l.length by omega)
  refine ⟨h4, ?_⟩
  unfold atPlace
  rw [h5, Int.mul_comm]; omega
theorem at_rank {n b : Nat} {l : List Int} (hn : 1 ≤ n) (hb : b < 2 ^ n) (h : Row l (hold n b) n) {e : Int} (he : hold n b e = true) : atPlace n l (rankI n b e) = e := by
  obtain ⟨t, ht, ht2⟩ := every_from hn h he
  obtain ⟨_, h5⟩ := every_at (q := e / (n : Int)) hn hb h ht
  rw [← ht2] at h5
  unfold atPlace
  rw [h5, show e / (n : Int) * (l.length : Int) + (t : Int) = (t : Int) + e / (n : Int) * (l.length : Int) from Int.add_comm _ _, Int.add_mul_ediv_right _ _ (by omega), Int.ediv_eq_zero_of_lt (by omega) (by omega), Int.zero_add, Int.add_mul_emod_self_right, Int.emod_eq_of_lt (by omega) (by omega), Int.toNat_natCast]
  exact ht2.symm
theorem at_bound {n b z : Nat} {l : List Int} (hn : 1 ≤ n) (h : Row l (hold n b) n) (h0 : 0 < l.length) {x : Int} (hx0 : 0 ≤ x) (hx : x < (l.length : Int) * z) : 0 ≤ atPlace n l x ∧ atPlace n l x < (n : Int) * z := by
  have h1 := Int.emod_nonneg x (show (l.length : Int) ≠ 0 by omega)
  have h2 := Int.emod_lt_of_pos x (show (0 : Int) < l.length by omega)
  have hq1 : 0 ≤ x / (l.length : Int) := Int.ediv_nonneg hx0 (by omega)
  have hq2 : x / (l.length : Int) < z := Int.ediv_lt_of_lt_mul (by omega) (by rw [Int.mul_comm]; exact hx)
  have hb1 := (h.mem _).mp (getD_mem (show (x % (l.length : Int)).toNat < l.length by omega))
  unfold atPlace
  have h3 : 0 ≤ x / (l.length : Int) * n := Int.mul_nonneg hq1 (by omega)
  have h4 : (x / (l.length : Int) + 1) * n ≤ z * n := Int.mul_le_mul_of_nonneg_right (by omega) (by omega)
  rw [Int.add_mul, Int.one_mul, Int.mul_comm (z : Int)] at h4
  omega
theorem every_bits {n b z : Nat} {l : List Int} {d : Int} (hn : 1 ≤ n) (hz : 1 ≤ z) (hb : b < 2 ^ n) (h : Row l (hold n b) n) {N : Nat} (hN : ∀ i : Nat, i < N ↔ rankI n b d % (z : Int) + i * z < (l.length : Int) * z) (j : Nat) (hj : j < n * z) :
    (∃ i, i < N ∧ atPlace n l (rankI n b d % (z : Int) + (i : Nat) * z) = j) ↔ everyP z n b d j := by
  constructor
  · rintro ⟨i, hi, he⟩
    have h0 : 0 < l.length := by
      have := (hN i).mp hi
      by_cases h : 0 < l.length
      · exact h
      · have e : l.length = 0 := by omega
        rw [e] at this
        have h1 := Int.emod_nonneg (rankI n b d) (show (z : Int) ≠ 0 by omega)
        have h2 : 0 ≤ (i : Int) * z := Int.mul_nonneg (by omega) (by omega)
        simp at this; omega
    obtain ⟨h1, h2⟩ := at_ok hn hb h h0 (x := rankI n b d % (z : Int) + (i : Nat) * z)
    rw [he] at h1 h2
    refine ⟨h1, ?_⟩
    rw [h2, Int.sub_emod, Int.add_mul_emod_self_right, Int.emod_emod_of_dvd _ (Int.dvd_refl _), Int.sub_self, Int.zero_emod]
  · rintro ⟨h1, h2⟩
    have h3 := at_rank hn hb h h1
    obtain ⟨t, ht, ht2⟩ := every_from hn h h1
    obtain ⟨_, h5⟩ := every_at (q := (j : Int) / (n : Int)) hn hb h ht
    rw [← ht2] at h5
    have hq0 : 0 ≤ (j : Int) / (n : Int) := Int.ediv_nonneg (by omega) (by omega)
    have hq1 : (j : Int) / (n : Int) < z := Int.ediv_lt_of_lt_mul (by omega) (by rw [Int.mul_comm, ← Int.natCast_mul]; omega)
    have hr0 : 0 ≤ rankI n b j := by
      rw [h5]
      have := Int.mul_nonneg hq0 (show (0 : Int) ≤ (l.length : Int) by omega)
      omega
    have hr1 : rankI n b j < (l.length : Int) * z := by
      rw [h5]
      have : ((j : Int) / (n : Int) + 1) * (l.length : Int) ≤ z * (l.length : Int) := Int.mul_le_mul_of_nonneg_right (by omega) (by omega)
      rw [Int.add_mul, Int.one_mul, Int.mul_comm (z : Int)] at this
      omega
    have h6 : rankI n b j % (z : Int) = rankI n b d % (z : Int) := Int.emod_eq_emod_iff_emod_sub_eq_zero.mpr h2
    have h7 := Int.emod_add_mul_ediv (rankI n b j) (z : Int)
    have h8 : 0 ≤ rankI n b j / (z : Int) := Int.ediv_nonneg hr0 (by omega)
    obtain ⟨i, hi⟩ := Int.eq_ofNat_of_zero_le h8
    have h9 : rankI n b d % (z : Int) + (i : Nat) * z = rankI n b j := by
      rw [← h6, ← hi, Int.mul_comm]; exact h7
    exact ⟨i, (hN i).mpr (by rw [h9]; exact hr1), by rw [h9]; exact h3⟩
theorem and_pred_bits {x : Nat} (h : 0 < x) : ∃ k, x.testBit k = true ∧ (∀ i, i < k → x.testBit i = false) ∧ ∀ i, (x &&& (x - 1)).testBit i = (x.testBit i && !decide (i = k)) := by
  obtain ⟨k, h1, h2, h3⟩ := low_bit h
  have hy : ∀ i, (x ^^^ 2 ^ k).testBit i = (x.testBit i && !decide (i = k)) := fun i => by
    rw [xor_low]
    by_cases e : i = k
    · subst e; simp [h2]
    · rw [decide_eq_false (show ¬ k = i by omega), decide_eq_false e]; simp
  have h0 : (x ^^^ 2 ^ k).testBit k = false := by rw [hy]; simp
  have e1 : 2 ^ k + (x ^^^ 2 ^ k) = x := by
    apply Nat.eq_of_testBit_eq; intro i
    rw [tb_add h0, hy]
    by_cases e : k = i
    · subst e; simp [h2]
    · rw [decide_eq_false e, decide_eq_false (show ¬ i = k by omega)]; simp
  have h6 : x &&& (x - 1) ≤ x := Nat.and_le_left
  have e2 : x &&& (x - 1) = x ^^^ 2 ^ k := by omega
  exact ⟨k, h2, h3, fun i => by rw [e2]; exact hy i⟩

theorem int_ind {P : Int → Prop} {d : Int} (h0 : P d) (hs : ∀ e, P e ↔ P (e + 1)) (e : Int) : P e := by
  have up : ∀ k : Nat, P (d + k) := fun k => by
    induction k with
    | zero => simpa using h0
    | succ k ih => have := (hs _).mp ih; rw [show d + ((k + 1 : Nat) : Int) = d + k + 1 by omega]; exact this
  have dn : ∀ k : Nat, P (d - k) := fun k => by
    induction k with
    | zero => simpa using h0
    | succ k ih => exact (hs _).mpr (by rw [show d - ((k + 1 : Nat) : Int) + 1 = d - k by omega]; exact ih)
  by_cases h : d ≤ e
  · have := up (e - d).toNat
    rwa [show d + ((e - d).toNat : Nat) = e by omega] at this
  · have := dn (d - e).toNat
    rwa [show d - ((d - e).toNat : Nat) = e by omega] at this
/-! ### days of a list between two days -/
def manyL (l : List Int) (n : Nat) (d e : Int) : Int := (l.map fun r => (e - 1 - r) / (n : Int) - (d - 1 - r) / (n : Int)).sum
theorem div_step {n : Nat} (hn : 1 ≤ n) {r d : Int} (h0 : 0 ≤ r) (h1 : r < n) : (d + 1 - 1 - r) / (n : Int) = (d - 1 - r) / (n : Int) + if d % (n : Int) = r then 1 else 0 := by
  have e1 := Int.emod_add_mul_ediv (d - 1 - r) (n : Int)
  have e2 := Int.emod_nonneg (d - 1 - r) (show (n : Int) ≠ 0 by omega)
  have e3 := Int.emod_lt_of_pos (d - 1 - r) (show (0 : Int) < n by omega)
  generalize (d - 1 - r) % (n : Int) = m at *
  generalize (d - 1 - r) / (n : Int) = q at *
  have hd : d = (m + 1 + r) + n * q := by omega
  by_cases h : m + 1 = n
  · have e4 : (d + 1 - 1 - r) = n * (q + 1) := by rw [Int.mul_add]; omega
    have e5 : d % (n : Int) = r := by
      rw [show d = r + n * (q + 1) by rw [Int.mul_add]; omega, Int.add_mul_emod_self_left, Int.emod_eq_of_lt h0 h1]
    rw [e4, Int.mul_ediv_cancel_left _ (by omega), if_pos e5]
  · have e4 : (d + 1 - 1 - r) = (m + 1) + n * q := by omega
    rw [e4, Int.add_mul_ediv_left _ _ (by omega), Int.ediv_eq_zero_of_lt (by omega) (by omega)]
    rw [if_neg]
    · omega
    · intro e5
      rw [hd, Int.add_mul_emod_self_left] at e5
      by_cases h6 : m + 1 + r < n
      · rw [Int.emod_eq_of_lt (by omega) h6] at e5; omega
      · rw [show m + 1 + r = (m + 1 + r - n) + n * 1 by omega, Int.add_mul_emod_self_left, Int.emod_eq_of_lt (by omega) (by omega)] at e5; omega
theorem many_step {n : Nat} (hn : 1 ≤ n) (d e : Int) : ∀ {l : List Int}, l.Nodup → (∀ x ∈ l, 0 ≤ x ∧ x < (n : Int)) → manyL l n d (e + 1) = manyL l n d e + if e % (n : Int) ∈ l then 1 else 0
  | [], _, _ => by simp [manyL]
  | a :: r, hd, hb => by
    have ih := many_step hn d e (List.nodup_cons.mp hd).2 (fun x hx => hb x (List.mem_cons_of_mem _ hx))
    have ha := hb a List.mem_cons_self
    have hs := div_step hn (d := e) ha.1 ha.2
    unfold manyL at *
    rw [List.map_cons, List.sum_cons, List.map_cons, List.sum_cons, ih, hs]
    by_cases h : e % (n : Int) = a
    · have h2 : e % (n : Int) ∉ r := h ▸ (List.nodup_cons.mp hd).1
      rw [if_pos h, if_neg h2, if_pos (by rw [h]; exact List.mem_cons_self)]; omega
    · rw [if_neg h]
      by_cases h2 : e % (n : Int) ∈ r
      · rw [if_pos h2, if_pos (List.mem_cons_of_mem _ h2)]; omega
      · rw [if_neg h2, if_neg (fun h3 => (List.mem_cons.mp h3).elim h h2)]; omega
theorem many_rank {n b : Nat} {l : List Int} (hn : 1 ≤ n) (hb : b < 2 ^ n) (hd : l.Nodup) (hl : ∀ x ∈ l, 0 ≤ x ∧ x < (n : Int)) (hm : ∀ d, hold n b d = true ↔ d % (n : Int) ∈ l) (d e : Int) : manyL l n d e = rankI n b e - rankI n b d := by
  refine int_ind (P := fun e => manyL l n d e = rankI n b e - rankI n b d) (d := d) ?_ (fun e => ?_) e
  · show manyL l n d d = _
    unfold manyL
    have : (l.map fun r => (d - 1 - r) / (n : Int) - (d - 1 - r) / (n : Int)) = l.map fun _ => (0 : Int) := by
      apply List.map_congr_left; intro x _; omega
    rw [this]
    have hz : ∀ l : List Int, (l.map fun _ => (0 : Int)).sum = 0 := fun l => by
      induction l with
      | nil => rfl
      | cons x t ih => rw [List.map_cons, List.sum_cons, ih]; rfl
    rw [hz]; omega
  · rw [many_step hn d e hd hl, rank_step hn hb]
    by_cases h : hold n b e = true
    · rw [if_pos h, if_pos ((hm e).mp h)]; omega
    · rw [if_neg h, if_neg (fun h2 => h ((hm e).mpr h2))]; omega
/-! ### every of every -/
theorem every_every {n b z m N x : Nat} {d : Int} (hn : 1 ≤ n) (hb : b < 2 ^ n) (hz : 1 ≤ z) (hm : 1 ≤ m) (hN : 1 ≤ N) (hx : x < 2 ^ N) (h : ∀ e, hold N x e = true ↔ everyP z n b d e) (e : Int) :
    everyP m N x d e ↔ everyP (m * z) n b d e := by
  have key : ∀ e, rankI N x e - rankI N x d = (rankI n b e - rankI n b d + z - 1) / (z : Int) := by
    refine int_ind (d := d) ?_ fun e => ?_
    · rw [Int.sub_self, Int.sub_self, Int.ediv_eq_zero_of_lt (by omega) (by omega)]
    · rw [rank_step hN hx, rank_step hn hb]
      generalize hu : rankI n b e - rankI n b d = u
      have e1 := Int.emod_add_mul_ediv (u + z - 1) (z : Int)
      have e2 := Int.emod_nonneg (u + z - 1) (show (z : Int) ≠ 0 by omega)
      have e3 := Int.emod_lt_of_pos (u + z - 1) (show (0 : Int) < z by omega)
      by_cases hbe : hold n b e = true
      · rw [if_pos hbe, show rankI n b e + 1 - rankI n b d + z - 1 = u + z by omega]
        by_cases hr : u % (z : Int) = 0
        · have hxe : hold N x e = true := (h e).mpr ⟨hbe, by rw [hu]; exact hr⟩
          rw [if_pos hxe]
          have e4 := Int.emod_add_mul_ediv u (z : Int)
          have q1 : (u + z - 1) / (z : Int) = u / z := by
            rw [show u + z - 1 = ((z : Int) - 1) + z * (u / z) by omega, Int.add_mul_ediv_left _ _ (by omega), Int.ediv_eq_zero_of_lt (by omega) (by omega), Int.zero_add]
          have q2 : (u + z) / (z : Int) = u / z + 1 := by
            rw [show u + z = u + z * 1 by omega, Int.add_mul_ediv_left _ _ (by omega)]
          rw [q1, q2]; omega
        · have hxe : ¬ hold N x e = true := fun hc => hr (by have := ((h e).mp hc).2; rwa [hu] at this)
          rw [if_neg hxe]
          have e4 := Int.emod_add_mul_ediv u (z : Int)
          have e5 := Int.emod_nonneg u (show (z : Int) ≠ 0 by omega)
          have e6 := Int.emod_lt_of_pos u (show (0 : Int) < z by omega)
          have q1 : (u + z - 1) / (z : Int) = u / z + 1 := by
            rw [show u + z - 1 = (u % z - 1) + z * (u / z + 1) by rw [Int.mul_add]; omega, Int.add_mul_ediv_left _ _ (by omega), Int.ediv_eq_zero_of_lt (by omega) (by omega), Int.zero_add]
          have q2 : (u + z) / (z : Int) = u / z + 1 := by
            rw [show u + z = u + z * 1 by omega, Int.add_mul_ediv_left _ _ (by omega)]
          rw [q1, q2]; omega
      · have hxe : ¬ hold N x e = true := fun hc => hbe ((h e).mp hc).1
        rw [if_neg hbe, if_neg hxe, show rankI n b e + 0 - rankI n b d + z - 1 = u + z - 1 by omega]; omega
  have e1 := key e
  constructor
  · rintro ⟨h1, h2⟩
    obtain ⟨h3, h4⟩ := (h e).mp h1
    refine ⟨h3, ?_⟩
    rw [e1] at h2
    generalize rankI n b e - rankI n b d = u at *
    have e4 := Int.emod_add_mul_ediv u (z : Int)
    have q1 : (u + z - 1) / (z : Int) = u / z := by
      rw [show u + z - 1 = ((z : Int) - 1) + z * (u / z) by omega, Int.add_mul_ediv_left _ _ (by omega), Int.ediv_eq_zero_of_lt (by omega) (by omega), Int.zero_add]
    rw [q1] at h2
    obtain ⟨c, hc⟩ := Int.dvd_of_emod_eq_zero h2
    refine Int.emod_eq_zero_of_dvd ⟨c, ?_⟩
    rw [Int.natCast_mul, Int.mul_comm (m : Int), Int.mul_assoc, ← hc]; omega
  · rintro ⟨h1, h2⟩
    have hdv : (z : Int) ∣ (rankI n b e - rankI n b d) := Int.dvd_trans ⟨(m : Int), by rw [Int.natCast_mul, Int.mul_comm]⟩ (Int.dvd_of_emod_eq_zero h2)
    refine ⟨(h e).mpr ⟨h1, Int.emod_eq_zero_of_dvd hdv⟩, ?_⟩
    rw [e1]
    generalize rankI n b e - rankI n b d = u at *
    obtain ⟨v, rfl⟩ := hdv
    have q1 : ((z : Int) * v + z - 1) / (z : Int) = v := by
      rw [show (z : Int) * v + z - 1 = ((z : Int) - 1) + z * v by omega, Int.add_mul_ediv_left _ _ (by omega), Int.ediv_eq_zero_of_lt (by omega) (by omega), Int.zero_add]
    rw [q1]
    obtain ⟨c, hc⟩ := Int.dvd_of_emod_eq_zero h2
    refine Int.emod_eq_zero_of_dvd ⟨c, ?_⟩
    rw [Int.natCast_mul, Int.mul_comm (m : Int), Int.mul_assoc] at hc
    exact Int.eq_of_mul_eq_mul_left (by omega) hc

theorem rt_eq {N x y : Nat} (hx : x < 2 ^ N) (hy : y < 2 ^ N) (h : ∀ d, hold N x d = true ↔ hold N y d = true) : x = y := by
  rw [← bitsOf_self hx, ← bitsOf_self hy]
  refine bitsOf_ext fun i _ => ?_
  have := h (i : Int)
  cases h1 : hold N x i <;> cases h2 : hold N y i <;> simp_all
/-! ### wheels by their number -/
def wheelN (w z : Int) (n m : Nat) : Nat := if w = 5 then n * z.toNat else Nat.lcm n m
def wheelP (w z : Int) (n b m c : Nat) (day d : Int) : Prop :=
  if w = 0 then uponP (hold n b) (hold m c) d
  else if w = 1 then untilP (hold n b) (hold m c) d
  else if w = 2 then nearP (hold n b) (hold m c) d
  else if w = 3 then tillP (hold n b) (hold m c) d
  else if w = 4 then kthP z (hold n b) (hold m c) d
  else everyP z.toNat n b day d
theorem sub_sub' (d k o : Int) : d - k - o = d - o - k := by omega
theorem add_sub' (d k o : Int) : d + k - o = d - o + k := by omega
theorem wheel_later {w z : Int} {n b b' m c c' : Nat} {day o : Int} (hn : 1 ≤ n) (hb : b < 2 ^ n) (hb' : b' < 2 ^ n) (h1 : ∀ d, hold n b' d = hold n b (d - o)) (h2 : ∀ d, hold m c' d = hold m c (d - o)) (d : Int) :
    wheelP w z n b' m c' (day + o) d ↔ wheelP w z n b m c day (d - o) := by
  have f1 : hold n b' = fun d => hold n b (d - o) := funext h1
  have f2 : hold m c' = fun d => hold m c (d - o) := funext h2
  have hr : ∀ e, rankI n b' e - rankI n b' (day + o) = rankI n b (e - o) - rankI n b day := by
    refine int_ind (d := day + o) ?_ fun e => ?_
    · rw [show day + o - o = day by omega]; omega
    · rw [rank_step hn hb', h1, show e + 1 - o = e - o + 1 by omega, rank_step hn hb]
      omega
  unfold wheelP everyP
  rw [hr, h1]
  unfold uponP untilP nearP tillP kthP
  simp only [f1, f2, sub_sub', add_sub', Int.sub_sub, Int.add_comm, Int.add_left_comm, Int.add_assoc]

section
open NdefX LamX
/-! ### a def that leaves the def that made it: its cell stands in the heap by itself -/
/-- the one object at a -/
def exV (a : Addr) (oe : Obj) : HO := .ext fun h => h.get? a = some oe
theorem exV_ok {P : Program} {w : World} {H : Hp} {h : Heap} {a : Addr} {oe : Obj} (e : h.get? a = some oe) : ObjOk P w H h a (exV a oe) :=
  ⟨e, ⟨_, e⟩, fun _ _ z k => k _ z⟩
theorem exV_at {P : Program} {w : World} {H : Hp} {h : Heap} {a : Addr} {oe : Obj} (hok : HOk P w H h) (e : H a = some (exV a oe)) : h.get? a = some oe := by
  have x : ObjOk P w H h a (.ext fun h => h.get? a = some oe) := hok a _ e
  exact x.1
theorem exV_own {a x : Addr} {oe : Obj} : exV a oe ≠ .own x := fun z => by
  have z' : HO.ext _ = HO.own x := z
  cases z'
theorem exV_tup {a : Addr} {oe : Obj} {xs : List V} : exV a oe ≠ .tup xs := fun z => by
  have z' : HO.ext _ = HO.tup xs := z
  cases z'
theorem exV_frz {a : Addr} {oe o : Obj} {u : HO} : exV a oe ≠ .frz o u := fun z => by
  have z' : HO.ext _ = HO.frz o u := z
  cases z'
theorem exV_tbl {a : Addr} {oe : Obj} {ps : Array Value} : exV a oe ≠ .tbl ps := fun z => by
  have z' : HO.ext _ = HO.tbl ps := z
  cases z'
def dlH (H : Hp) (a : Addr) : Hp := fun b => if b = a then none else H b
theorem dlH_same {H : Hp} {a : Addr} : dlH H a a = none := if_pos rfl
theorem dlH_ne {H : Hp} {a b : Addr} (h : b ≠ a) : dlH H a b = H b := if_neg h
theorem hok_upd {P : Program} {w : World} {H : Hp} {h : Heap} {a : Addr} {oe : Obj} (hok : HOk P w H h) (ha : H a = none) (e : h.get? a = some oe) : HOk P w (upd H a (exV a oe)) h := fun b o eb => by
  by_cases hb : b = a
  · subst hb
    rw [upd_same] at eb; cases eb
    exact exV_ok e
  · rw [upd_ne hb] at eb
    exact (hok b o eb).stay (fun _ _ _ z => z) (fun c z => by rw [upd_ne (fun y => by rw [y, ha] at z; cases z)]; exact z) fun c xs z => by rw [upd_ne (fun y => by rw [y, ha] at z; cases z)]; exact z
theorem hok_dl {P : Program} {w : World} {H : Hp} {h : Heap} {a : Addr} {oe : Obj} (hok : HOk P w H h) (ha : H a = some (exV a oe)) : HOk P w (dlH H a) h := fun b o e => by
  have hba : b ≠ a := fun z => by rw [z, dlH_same] at e; cases e
  rw [dlH_ne hba] at e
  exact (hok b o e).stay (fun _ _ _ z => z) (fun c z => by rw [dlH_ne (fun y => by rw [y, ha] at z; exact exV_own (Option.some.inj z))]; exact z) fun c xs z => by rw [dlH_ne (fun y => by rw [y, ha] at z; exact exV_tup (Option.some.inj z))]; exact z
/-- THE RULE: a def that sets names, makes a def that captures the name y, and returns it -/
theorem fn_ofClo {CX : CXT} {P : Program} {w : World} {K : PySem.W.Frag} {mg : Str → Option Value} {base : Heap} {k : Nat} {f : Addr} {name qual : Str} {params : Arguments} {body : List Stmt} {scope : Scope} {dV kV doc pm cdv ct oc : Value} {an od : Option Addr}
    {osl : Array (Option Value)} {N ps : List Str} {sp : Sp} {y : Str} {j : Nat} {s1 s2 : Stmt} {er : Expr} {pr : Pos} (lk : K.lookup f = some ⟨oc, od, .func (PySem.W.fnOf name qual params body scope dV kV doc pm an cdv ct), osl⟩) (hcd : PySem.W.codeIn K cdv qual = true) (S : FnScope N ps scope)
    (len : ∀ vs H Q E, sp vs H Q E → vs.length = ps.length) (hbd : body = [s1, s2, .Return (some er) pr]) (hj : N[j]? = some y) (hy : scope.names.lookup y = some .cell)
    (hbody : ∀ (A : Around) (outer : List Env) (s : Shared) (H : Hp) (vs : List V) (Q : VK) (E : XK), Room k (A.deeper (envOfC qual scope s.heap.objs.size f cdv)) → sp vs H Q E →
      ∃ t1 t2 te, PS (cxOf CX P w K mg base N qual scope f cdv A outer s H E) s1 t1 ∧ PS (cxOf CX P w K mg base N qual scope f cdv A outer s H E) s2 t2 ∧ PE (cxOf CX P w K mg base N qual scope f cdv A outer s H E) er te ∧
        t1 { nx := fun σ1 H1 => t2 { nx := fun σ2 H2 => te σ2 H2 fun v H3 => ∃ x : V, σ2[j]? = some (some x) ∧ ∀ (ca : Addr) (ob : Obj) (u : Value), (cellsFrom (s.heap.objs.size + 1) scope.names []).lookup y = some ca → H ca = none → H3 ca = none → ob.data = .cell (some u) → RelV x u → Q v (upd H3 ca (exV ca ob)), rt := fun _ _ => False } σ1 H1, rt := fun _ _ => False } (start N vs) H) :
    FnOk P w K mg base CX (k + 1) f (PySem.W.fnOf name qual params body scope dV kV doc pm an cdv ct) ps sp := by
  refine ⟨len, fun A outer s H args us vs Q E hr e0 hb r hsp => ?_⟩
  have hl := len _ _ _ _ hsp
  have KX : K.In s.heap := e0.mod.kin.keeps fun b o e => (e0.bs b o e).1
  have lim : s.heap.NoLimit := e0.mod.nolimit.keeps fun b o e => (e0.bs b o e).1
  have hkind : ∀ y ∈ ps.zip us, scope.names.lookup y.1 = some .local ∨ (scope.names.lookup y.1 = some .cell ∧ ((cellsFrom (s.heap.objs.size + 1) scope.names []).lookup y.1).isSome = true) := fun ⟨n, v⟩ hy => by
    rcases S.par n (List.of_mem_zip hy).1 with q | q
    · exact .inl q
    · exact .inr ⟨q, PySem.W.cellsFrom_some _ _ _ (.inl q)⟩
  refine codeAny_call_function hr.depth (KX _ _ lk) rfl S.co S.gen rfl (PySem.W.codeRec_of KX hcd) (hb _ _ _ _ ?_)
  refine wpAny_newFunctionEnv_cells S.kind hkind fun env he s1 x => ?_
  subst he
  refine ⟨lim.keeps x.toInCall.keep, codeAny_func ?_⟩
  obtain ⟨t1, t2, te, h1, h2, he, hq⟩ := hbody A outer s H vs Q E (hr.deeper _) hsp
  have I : Inv (cxOf CX P w K mg base N qual scope f cdv A outer s H E) [] (start N vs) H s1 := inv_start S hr.hd e0 hl r x
  subst hbd
  have fin : ∀ {σ2 : L2.St} {H3 : Hp} {s' : Shared} {v : V} {u : Value}, Inv (cxOf CX P w K mg base N qual scope f cdv A outer s H E) [] σ2 H3 s' → RelV v u →
      (∃ x : V, σ2[j]? = some (some x) ∧ ∀ (ca : Addr) (ob : Obj) (u : Value), (cellsFrom (s.heap.objs.size + 1) scope.names []).lookup y = some ca → H ca = none → H3 ca = none → ob.data = .cell (some u) → RelV x u → Q v (upd H3 ca (exV ca ob))) → CE outer P w H s Q u s' := by
    intro σ2 H3 s' v u J rv ⟨x, hx, hq⟩
    obtain ⟨m, hns, hloc⟩ := J.loc
    obtain ⟨ux, rx, look⟩ := hloc j y x hj hx (.inr (.inl hy))
    rcases look with ⟨kl, _⟩ | ⟨_, ca, hca, ob, ho, hd⟩
    · have kl' : scope.names.lookup y = some .local := kl
      rw [hy] at kl'; cases kl'
    have f3 : H3 ca = none := J.freeC y ca hca
    have above : s.heap.objs.size ≤ ca := J.ok.cab y ca rfl hca
    have nin : ∀ {b : Addr} {o : Obj}, s.heap.get? b = some o → b ≠ ca := fun {b o} e => Nat.ne_of_lt (Nat.lt_of_lt_of_le (Heap.lt_size e) above)
    have B := J.base
    refine ⟨v, upd H3 ca (exV ca ob), J.os, J.bare, ⟨B.keep, B.slot, fun b o e n hx => ?_, B.there, fun b xs e => ?_, fun b o u e => ?_, fun b ps e => ?_⟩, hok_upd J.hok f3 ho, rv, hq ca ob ux hca (e0.hok.fresh above) f3 hd rx⟩
    · rw [upd_ne (nin e)]; exact B.free b o e n hx
    · have z := B.tups b xs e
      rw [upd_ne (fun y => by rw [y, f3] at z; cases z)]; exact z
    · have z := B.frzs b o u e
      rw [upd_ne (fun y => by rw [y, f3] at z; cases z)]; exact z
    · obtain ⟨more, z⟩ := B.tbls b ps e
      refine ⟨more, ?_⟩
      rw [upd_ne (fun y => by rw [y, f3] at z; cases z)]; exact z
  refine wpAny_execs_cons (wpAny_mono (h1.run [] s1 (start N vs) H _ I hq) (fun fl s2 hs => ?_) fun e s' hs => hs)
  cases fl with
  | ret u => obtain ⟨_, _, _, _, _, z⟩ := hs; exact False.elim z
  | brk => obtain ⟨_, _, _, z⟩ := hs; exact False.elim z
  | cont => obtain ⟨_, _, _, z⟩ := hs; exact False.elim z
  | next =>
    obtain ⟨σ1, H1, I1, q1⟩ := hs
    refine wpAny_execs_cons (wpAny_mono (h2.run [] s2 σ1 H1 _ I1 q1) (fun fl s3 hs => ?_) fun e s' hs => hs)
    cases fl with
    | ret u => obtain ⟨_, _, _, _, _, z⟩ := hs; exact False.elim z
    | brk => obtain ⟨_, _, _, z⟩ := hs; exact False.elim z
    | cont => obtain ⟨_, _, _, z⟩ := hs; exact False.elim z
    | next =>
      obtain ⟨σ2, H2, I2, q2⟩ := hs
      refine wpAny_execs_cons (wpAny_Return_some (wpAny_mono (he.run [] s3 σ2 H2 _ I2 q2) (fun u s4 hs => ?_) fun e s' hs => hs))
      obtain ⟨v, H3, I3, rv, q3⟩ := hs
      exact fin I3 rv q3
structure FunC (K : PySem.W.Frag) (x qual : Str) (st : Stmt) (f : Addr) (fd : FuncData) (c : Addr) : Prop where
  ex : ∃ (oc : Value) (od : Option Addr) (kV doc pm : Value) (an : Option Addr) (ct : Value) (osl : Array (Option Value)),
    fd = PySem.W.fnOf x qual (defArgs st) (defBody st) (defScope st) .none kV doc pm an (.ref c) ct ∧ K.lookup f = some ⟨oc, od, .func fd, osl⟩ ∧ PySem.W.codeIn K (.ref c) qual = true
  kp : PySem.W.keepIn K (.ref f) = true
theorem funC_mk {K : PySem.W.Frag} {x qual : Str} {st : Stmt} {f c : Addr} {oc : Value} {od an : Option Addr} {osl : Array (Option Value)} {kV doc pm ct : Value} (l : K.lookup f = some ⟨oc, od, .func (PySem.W.fnOf x qual (defArgs st) (defBody st) (defScope st) .none kV doc pm an (.ref c) ct), osl⟩)
    (h : PySem.W.codeIn K (.ref c) qual = true) (k : PySem.W.keepIn K (.ref f) = true) : FunC K x qual st f (PySem.W.fnOf x qual (defArgs st) (defBody st) (defScope st) .none kV doc pm an (.ref c) ct) c := ⟨⟨oc, od, kV, doc, pm, an, ct, osl, rfl, l, h⟩, k⟩
theorem FunC.binds {K : PySem.W.Frag} {x qual : Str} {st : Stmt} {f c : Addr} {fd : FuncData} {ps : List Str} (F : FunC K x qual st f fd c)
    (h : ∀ (kV doc pm : Value) (an : Option Addr) (cdv ct : Value) (us : List Value), us.length = ps.length → bindArgs (PySem.W.fnOf x qual (defArgs st) (defBody st) (defScope st) .none kV doc pm an cdv ct) ⟨us, []⟩ = pure (ps.zip us)) : Binds K fd ps [] := by
  obtain ⟨oc, od, kV, doc, pm, an, ct, osl, rfl, lk, hcd⟩ := F.ex
  exact .all (h kV doc pm an (.ref c) ct)
theorem FunC.okClo {CX : CXT} {P : Program} {w : World} {K : PySem.W.Frag} {mg : Str → Option Value} {base : Heap} {x qual : Str} {st : Stmt} {f c : Addr} {fd : FuncData} {N ps : List Str} {k : Nat} {sp : Sp} {y : Str} {j : Nat} {s1 s2 : Stmt} {er : Expr} {pr : Pos}
    (F : FunC K x qual st f fd c) (S : FnScope N ps (defScope st)) (len : ∀ vs H Q E, sp vs H Q E → vs.length = ps.length) (hbd : defBody st = [s1, s2, .Return (some er) pr]) (hj : N[j]? = some y) (hy : (defScope st).names.lookup y = some .cell)
    (hbody : ∀ (A : Around) (outer : List Env) (s : Shared) (H : Hp) (vs : List V) (Q : VK) (E : XK), Room k (A.deeper (envOfC qual (defScope st) s.heap.objs.size f (.ref c))) → sp vs H Q E →
      ∃ t1 t2 te, PS (cxOf CX P w K mg base N qual (defScope st) f (.ref c) A outer s H E) s1 t1 ∧ PS (cxOf CX P w K mg base N qual (defScope st) f (.ref c) A outer s H E) s2 t2 ∧ PE (cxOf CX P w K mg base N qual (defScope st) f (.ref c) A outer s H E) er te ∧
        t1 { nx := fun σ1 H1 => t2 { nx := fun σ2 H2 => te σ2 H2 fun v H3 => ∃ x : V, σ2[j]? = some (some x) ∧ ∀ (ca : Addr) (ob : Obj) (u : Value), (cellsFrom (s.heap.objs.size + 1) (defScope st).names []).lookup y = some ca → H ca = none → H3 ca = none → ob.data = .cell (some u) → RelV x u → Q v (upd H3 ca (exV ca ob)), rt := fun _ _ => False } σ1 H1, rt := fun _ _ => False } (start N vs) H) :
    FnOk P w K mg base CX (k + 1) f fd ps sp := by
  obtain ⟨oc, od, kV, doc, pm, an, ct, osl, rfl, lk, hcd⟩ := F.ex
  exact fn_ofClo lk hcd S len hbd hj hy hbody
/-! ### the one table -/
abbrev NT (P : Addr) : List NTab := [(P, fun _ _ => "counter.<locals>.summed")]
theorem tabs_nil {P : Addr} {H : Hp} (h : H P = some (.tbl #[])) : TabsN (NT P) H := fun p hp => by
  cases List.mem_singleton.mp hp
  exact TabN.nil h
theorem tabs_of {K : PySem.W.Frag} {h : Heap} {ts : List Addr} {c P : Addr} {x : Str} (ht : ∀ P ∈ ts, h.get? P = some (PySem.W.tabObj #[])) (e : PySem.W.tabIn K x = some (c, P))
    (q : (match PySem.W.tabIn K x with | some (c0, P0) => PySem.W.codeHdIn K c0 P0 && (K.lookup P0).isNone && ts.contains P0 | none => false) = true) : PySem.W.codeHdIn K c P = true ∧ K.lookup P = none ∧ h.get? P = some { cls := .none, data := .fields #[] } := by
  rw [e] at q
  simp only [Bool.and_eq_true, Option.isNone_iff_eq_none] at q
  exact ⟨q.1.1, q.1.2, ht P (by simpa using q.2)⟩
/-- all that was tracked is as it was, but for the tables of code objects -/
structure SameT (T : List NTab) (H H' : Hp) : Prop where
  ext : ExtN H H'
  tab : TabsN T H → TabsN T H'
theorem SameT.refl (T : List NTab) (H : Hp) : SameT T H H := ⟨ExtN.refl H, id⟩
theorem SameT.trans {T : List NTab} {H H1 H2 : Hp} (a : SameT T H H1) (b : SameT T H1 H2) : SameT T H H2 := ⟨a.ext.trans b.ext, fun t => b.tab (a.tab t)⟩
theorem SameT.of {T : List NTab} {H H' : Hp} (s : Same H H') : SameT T H H' := ⟨ExtN.of s, fun t => t.ext s⟩
theorem SameT.lst {T : List NTab} {H H' : Hp} {a : Addr} {xs : List V} (s : SameT T H H') (h : H a = some (.lst xs)) : H' a = some (.lst xs) := s.ext _ _ h (fun _ z => nomatch z)
theorem SameT.tup {T : List NTab} {H H' : Hp} {a : Addr} {xs : List V} (s : SameT T H H') (h : H a = some (.tup xs)) : H' a = some (.tup xs) := s.ext _ _ h (fun _ z => nomatch z)
theorem SameT.ins {T : List NTab} {H H' : Hp} {a C d : Addr} {fs : List (Str × V)} (s : SameT T H H') (h : H a = some (.ins C d fs)) : H' a = some (.ins C d fs) := s.ext _ _ h (fun _ z => nomatch z)
/-- f(..), f a name that holds a def that left the one that made it; its one captured cell ca stands in the heap -/
def tCallClo (mk : Addr → Addr → NF) (i : Nat) (sp : V → Sp) (t : TA) : TE := fun σ H Q => ∃ (f c' ca : Addr) (ob : Obj) (u : Value) (x : V), σ[i]? = some (some (.ref f)) ∧ H f = some (FnO f (mk ca c')) ∧
  t σ H fun vs H1 => H1 f = some (FnO f (mk ca c')) ∧ H1 (mk ca c').c = some (CodeO (mk ca c').c (mk ca c').qual) ∧ H1 ca = some (exV ca ob) ∧ ob.data = .cell (some u) ∧ RelV x u ∧ f ≠ ca ∧ (mk ca c').c ≠ ca ∧
    sp x vs (dlH H1 ca) (fun v H2 => Q v (upd H2 ca (exV ca ob))) (fun _ _ _ => False)
section
variable {X : Cx} {CX : CXT} {mk : Addr → Addr → NF} {ps : List Str} {y : Str} {i k : Nat} {x : Str} {sp : V → Sp} {t : TA} {e : Expr} {es : List Expr} {p pos : Pos}
theorem pe_callClo (Fn : ∀ f ca c', NOk X.prog X.w X.K X.mg X.base CX k f (mk ca c') ps [y] (fun ws vs H Q E => ∃ x, ws = [some x] ∧ sp x vs H Q E)) (hcl : ∀ ca c', (mk ca c').cl = [(y, ca)]) (hr : Room k X.A)
    (hx : ∀ (l : List Env) (H : Hp) (s : Shared) (e : Value) (s' : Shared), ¬ CX l H s (fun _ _ _ => False) e s') (hN : X.N[i]? = some x) (hv : Vis X.env.scope x) (ha : PA X (e :: es) t)
    (hd : (x == ("__debug__" : Str)) = false := by decide) (hcd : (x == ("__classdict__" : Str)) = false := by decide)
    (he : starEach (e :: es) X.env = (false, eval e X.env) :: starEach es X.env := by rfl) (hpl : (backTo pos (starEach es X.env)).any (·.1) = false := by rfl) :
    PE X (.Call (.Name x p) (e :: es) [] pos) (tCallClo mk i sp t) := by
  refine ⟨fun pins s σ H Q I h => ?_⟩
  obtain ⟨f, c', ca, ob, u0, w, hs, hf, ht⟩ := h
  refine wpAny_Call_Name_kw (thn ((pe_var (pos := p) hN hv hd hcd).run pins s σ H (fun v H1 => v = .ref f ∧ H1 = H) I ⟨.ref f, hs, rfl, rfl⟩) fun u s1 ⟨v, H1, I1, r1, q1⟩ => ?_)
  obtain ⟨ev, eH⟩ := q1
  subst ev
  rw [eH] at I1
  obtain rfl : u = Value.ref f := r1
  refine PySem.W.callWith_F (first := []) (fnAt_of I1 hf) (thn (ha.run pos pins s1 σ H _ I1 ht) fun us s2 ⟨vs, H2, I2, r, h1, h2, h3, h4, h5, n1, n2, q⟩ => ⟨fnAt_of I2 h1, ?_⟩) he hpl
  show wpAny _ _ (call (.ref f) us) _ _ _
  have hget := exV_at I2.hok h3
  have E0 := I2.env0
  have hst : ca ∉ frs X.stack := fun z => by
    have := I2.stkFree ca z
    rw [h3] at this; cases this
  have E1 : Env0 X.prog X.w X.K X.mg X.base X.A X.stack s2 (dlH H2 ca) :=
    ⟨E0.frames, E0.mod, fun b o e => ⟨(E0.bs b o e).1, by
        by_cases z : b = ca
        · rw [z]; exact dlH_same
        · rw [dlH_ne z]; exact (E0.bs b o e).2⟩, E0.bsz, E0.funs,
      fun b hb => (dlH_ne (fun z => hst (by rw [← z]; exact hb))).trans (E0.frf b hb), hok_dl I2.hok h3, E0.bare⟩
  have C : CellsAt (mk ca c').cl [y] [some w] s2.heap (dlH H2 ca) := by
    rw [hcl]
    refine ⟨rfl, fun y' c e => ?_, fun x1 x2 c e1 e2 => ?_, fun j y' e => ?_⟩
    · by_cases hy : y' = y
      · subst hy
        have : c = ca := by simpa [List.lookup] using e.symm
        subst this
        exact ⟨dlH_same, some u0, ob, hget, h4⟩
      · have hb : (y' == y) = false := by simpa using hy
        simp [List.lookup, hb] at e
    · have key : ∀ {z : Str} {c : Addr}, List.lookup z [(y, ca)] = some c → z = y := fun {z c} e => by
        by_cases hy : z = y
        · exact hy
        · have hb : (z == y) = false := by simpa using hy
          simp [List.lookup, hb] at e
      rw [key e1, key e2]
    · match j, e with
      | 0, e =>
        have : y' = y := (Option.some.inj e).symm
        subst this
        refine ⟨ca, by simp [List.lookup], fun v ev => ?_⟩
        have : v = w := (Option.some.inj (Option.some.inj ev)).symm
        subst this
        exact ⟨u0, h5, ob, hget, h4⟩
      | j + 1, e => simp at e
  refine wpAny_call (codeAny_mono ((Fn f ca c').run X.A X.stack s2 (dlH H2 ca) us vs [some w] _ (fun _ _ _ => False) hr E1 (by rw [dlH_ne n1]; exact h1) (by rw [dlH_ne n2]; exact h2) C r ⟨w, rfl, q⟩) fun r s' hq => ?_)
  cases r with
  | error e => exact absurd hq (hx _ _ _ _ _)
  | ok fl =>
    cases fl with
    | ret u =>
      obtain ⟨v, H3, os, bare, un, hok, rv, q2⟩ := hq
      have hga : s'.heap.get? ca = some ob := un.keep ca ob hget dlH_same hst (by simp)
      have f3 : H3 ca = none := un.free ca ob hget dlH_same (by simp)
      have bk : ∀ {b : Addr}, H2 b = none → dlH H2 ca b = none := fun {b} n => by
        by_cases z : b = ca
        · rw [z]; exact dlH_same
        · rw [dlH_ne z]; exact n
      refine ⟨v, upd H3 ca (exV ca ob), I2.call' (ch := []) os ⟨fun b o e n hb hx => un.keep b o e (bk n) hb hx, fun b o e n hb hx => un.slot b o e (bk n) hb hx, fun b o e n hx => ?_, fun b o e hx => un.there b o e hx, fun b xs e => ?_, fun b o u e => ?_, fun b ps e => ?_⟩ (hok_upd hok f3 hga) bare (fun _ z => nomatch z), rv, q2⟩
      · rw [upd_ne (fun z => by rw [z, h3] at n; cases n)]; exact un.free b o e (bk n) hx
      · have hba : b ≠ ca := fun z => by rw [z, h3] at e; exact exV_tup (Option.some.inj e)
        rw [upd_ne hba]; exact un.tups b xs (by rw [dlH_ne hba]; exact e)
      · have hba : b ≠ ca := fun z => by rw [z, h3] at e; exact exV_frz (Option.some.inj e)
        rw [upd_ne hba]; exact un.frzs b o u (by rw [dlH_ne hba]; exact e)
      · have hba : b ≠ ca := fun z => by rw [z, h3] at e; exact exV_tbl (Option.some.inj e)
        obtain ⟨more, z⟩ := un.tbls b ps (by rw [dlH_ne hba]; exact e)
        exact ⟨more, by rw [upd_ne hba]; exact z⟩
    | next => exact False.elim hq
    | brk => exact False.elim hq
    | cont => exact False.elim hq
end

end

section
open NdefX LamX
/-! ### terms -/
structure Tm where
  s : Int
  a : Int
  b : Int
  n : Int
def tmV (t : Tm) : List V := [.int t.s, .int t.a, .int t.b, .int t.n]
structure TmOk (t : Tm) : Prop where
  s : t.s = 1 ∨ t.s = -1
  n1 : 1 ≤ t.n
  n2 : t.n ≤ 1000
  a0 : 0 ≤ t.a
  an : t.a ≤ t.n
  b0 : 0 ≤ t.b
  bn : t.b < t.n
theorem SameT.sql {T : List NTab} {K : PySem.W.Frag} {H H' : Hp} {a : Addr} {xs : List V} (s : SameT T H H') (h : SqL K H a xs) : SqL K H' a xs := by
  rcases h with (h | ⟨o, h⟩) | h
  · exact .inl (.inl (s.ext _ _ h fun _ z => nomatch z))
  · exact .inl (.inr ⟨o, s.ext _ _ h fun _ z => nomatch z⟩)
  · exact .inr h
theorem SameT.sqt {T : List NTab} {K : PySem.W.Frag} {H H' : Hp} {a : Addr} {xs : List V} (s : SameT T H H') (h : SqT K H a xs) : SqT K H' a xs := by
  rcases h with (h | ⟨o, h⟩) | h
  · exact .inl (.inl (s.ext _ _ h fun _ z => nomatch z))
  · exact .inl (.inr ⟨o, s.ext _ _ h fun _ z => nomatch z⟩)
  · exact .inr h
theorem sql_dl {K : PySem.W.Frag} {H : Hp} {a ca : Addr} {ob : Obj} {xs : List V} (e : H ca = some (exV ca ob)) (h : SqL K H a xs) : SqL K (dlH H ca) a xs := by
  have key : ∀ {o : HO}, H a = some o → (∀ z, o ≠ .ext z) → dlH H ca a = some o := fun {o} ho hn => by
    have : a ≠ ca := fun z => by
      rw [z, e] at ho
      exact hn _ (Option.some.inj ho).symm
    rw [dlH_ne this]; exact ho
  rcases h with (h | ⟨o, h⟩) | h
  · exact .inl (.inl (key h fun _ z => nomatch z))
  · exact .inl (.inr ⟨o, key h fun _ z => nomatch z⟩)
  · exact .inr h
theorem sqt_dl {K : PySem.W.Frag} {H : Hp} {a ca : Addr} {ob : Obj} {xs : List V} (e : H ca = some (exV ca ob)) (h : SqT K H a xs) : SqT K (dlH H ca) a xs := by
  have key : ∀ {o : HO}, H a = some o → (∀ z, o ≠ .ext z) → dlH H ca a = some o := fun {o} ho hn => by
    have : a ≠ ca := fun z => by
      rw [z, e] at ho
      exact hn _ (Option.some.inj ho).symm
    rw [dlH_ne this]; exact ho
  rcases h with (h | ⟨o, h⟩) | h
  · exact .inl (.inl (key h fun _ z => nomatch z))
  · exact .inl (.inr ⟨o, key h fun _ z => nomatch z⟩)
  · exact .inr h
/-- the terms that a list's tuples are -/
def TmsAt (K : PySem.W.Frag) (H : Hp) (qs : List Addr) (ts : List Tm) : Prop := qs.length = ts.length ∧ ∀ (i : Nat) (q : Addr) (t : Tm), qs[i]? = some q → ts[i]? = some t → SqT K H q (tmV t)
def TmsL (K : PySem.W.Frag) (H : Hp) (l : Addr) (ts : List Tm) : Prop := ∃ qs : List Addr, SqL K H l (qs.map V.ref) ∧ TmsAt K H qs ts
theorem sqt_updL {K : PySem.W.Frag} {H : Hp} {a D : Addr} {xs : List V} {zs ys : List V} (e : H D = some (.lst zs)) (h : SqT K H a xs) : SqT K (upd H D (.lst ys)) a xs := by
  have ne : ∀ {o : HO}, H a = some o → (∀ z, o ≠ .lst z) → upd H D (.lst ys) a = some o := fun {o} ho hn => by
    rw [upd_ne (fun z => by rw [z, e] at ho; exact hn _ (Option.some.inj ho).symm)]; exact ho
  rcases h with (h | ⟨o, h⟩) | h
  · exact .inl (.inl (ne h fun _ z => nomatch z))
  · exact .inl (.inr ⟨o, ne h fun _ z => nomatch z⟩)
  · exact .inr h
theorem TmsAt.updL {K : PySem.W.Frag} {H : Hp} {D : Addr} {zs ys : List V} {qs : List Addr} {ts : List Tm} (e : H D = some (.lst zs)) (h : TmsAt K H qs ts) : TmsAt K (upd H D (.lst ys)) qs ts := ⟨h.1, fun i q t h1 h2 => sqt_updL e (h.2 i q t h1 h2)⟩
theorem TmsAt.snoc {K : PySem.W.Frag} {H : Hp} {qs : List Addr} {ts : List Tm} {q : Addr} {t : Tm} (h : TmsAt K H qs ts) (hq : SqT K H q (tmV t)) : TmsAt K H (qs ++ [q]) (ts ++ [t]) := by
  refine ⟨by rw [List.length_append, List.length_append, h.1]; rfl, fun i q' t' h1 h2 => ?_⟩
  by_cases hi : i < qs.length
  · rw [List.getElem?_append_left hi] at h1
    rw [List.getElem?_append_left (by rw [← h.1]; exact hi)] at h2
    exact h.2 i q' t' h1 h2
  · rw [List.getElem?_append_right (by omega)] at h1
    rw [List.getElem?_append_right (by rw [← h.1]; omega), ← h.1] at h2
    cases hj : i - qs.length with
    | zero =>
      rw [hj] at h1 h2
      cases Option.some.inj h1; cases Option.some.inj h2
      exact hq
    | succ j => rw [hj] at h1; simp at h1
theorem TmsAt.nil {K : PySem.W.Frag} {H : Hp} : TmsAt K H [] [] := ⟨rfl, fun i q t h => by simp at h⟩
theorem TmsAt.same {K : PySem.W.Frag} {H H' : Hp} {qs : List Addr} {ts : List Tm} (s : Same H H') (h : TmsAt K H qs ts) : TmsAt K H' qs ts := ⟨h.1, fun i q t h1 h2 => same_t s (h.2 i q t h1 h2)⟩
theorem TmsAt.mono {T : List NTab} {K : PySem.W.Frag} {H H' : Hp} {qs : List Addr} {ts : List Tm} (s : SameT T H H') (h : TmsAt K H qs ts) : TmsAt K H' qs ts := ⟨h.1, fun i q t h1 h2 => s.sqt (h.2 i q t h1 h2)⟩
theorem TmsL.mono {T : List NTab} {K : PySem.W.Frag} {H H' : Hp} {l : Addr} {ts : List Tm} (s : SameT T H H') (h : TmsL K H l ts) : TmsL K H' l ts := by
  obtain ⟨qs, h1, h2⟩ := h
  exact ⟨qs, s.sql h1, h2.mono s⟩
theorem TmsL.dl {K : PySem.W.Frag} {H : Hp} {l ca : Addr} {ob : Obj} {ts : List Tm} (e : H ca = some (exV ca ob)) (h : TmsL K H l ts) : TmsL K (dlH H ca) l ts := by
  obtain ⟨qs, h1, h2, h3⟩ := h
  exact ⟨qs, sql_dl e h1, h2, fun i q t a b => sqt_dl e (h3 i q t a b)⟩
/-- the sum that a counter tells -/
def sumT (ts : List Tm) (k : Int) : Int := (ts.map fun t => t.s * ((t.a * k + t.b) / t.n)).sum
theorem sumT_snoc {ts : List Tm} {i : Nat} {t : Tm} {k : Int} (h : ts[i]? = some t) : sumT (ts.take (i + 1)) k = sumT (ts.take i) k + t.s * ((t.a * k + t.b) / t.n) := by
  unfold sumT
  rw [List.take_succ, h, List.map_append, List.sum_append]
  simp
theorem sm_addM {i j : Int} {a b : Nat} (h : Sm a i) (h' : Sm b j) : Sm (a + b + 1) (i + j) := by
  have h1 := h.h
  have h2 := h'.h
  have e1 : (2 : Nat) ^ (a + b + 1) = 2 * (2 ^ a * 2 ^ b) := by rw [Nat.pow_succ, Nat.pow_add]; omega
  have p1 := Nat.two_pow_pos a
  have p2 := Nat.two_pow_pos b
  have q1 : 2 ^ a ≤ 2 ^ a * 2 ^ b := Nat.le_mul_of_pos_right _ p2
  have q2 : 2 ^ b ≤ 2 ^ a * 2 ^ b := Nat.le_mul_of_pos_left _ p1
  refine ⟨?_⟩
  rw [e1]
  generalize 2 ^ a * 2 ^ b = z at *
  omega
theorem sm_quot {i j : Int} {a : Nat} (h : Sm a i) : Sm a (i / j) := ⟨Nat.lt_of_le_of_lt (Int.natAbs_ediv_le_natAbs _ _) h.h⟩
theorem atI_all {P : Int → Prop} {l : List Int} {i : Int} (h0 : 0 ≤ i) (h1 : i < l.length) (hP : ∀ z ∈ l, P z) : ∃ z, P z ∧ atI (l.map V.int) i = some (.int z) := by
  obtain ⟨k, rfl⟩ := Int.eq_ofNat_of_zero_le h0
  have hk : k < l.length := by omega
  refine ⟨l[k], hP _ (List.getElem_mem hk), at_of rfl ?_⟩
  rw [List.getElem?_map, List.getElem?_eq_getElem hk]
  rfl
theorem and_mask41 (x : Int) : 0 ≤ Builtin.bitAnd x 2199023255551 ∧ Builtin.bitAnd x 2199023255551 ≤ 2199023255551 := by
  unfold Builtin.bitAnd
  by_cases h : 0 ≤ x
  · rw [decide_eq_true h]
    have : x.toNat &&& (2199023255551 : Int).toNat ≤ (2199023255551 : Int).toNat := Nat.and_le_right
    have e : (2199023255551 : Int).toNat = 2199023255551 := rfl
    show 0 ≤ ((x.toNat &&& (2199023255551 : Int).toNat : Nat) : Int) ∧ ((x.toNat &&& (2199023255551 : Int).toNat : Nat) : Int) ≤ 2199023255551
    omega
  · rw [decide_eq_false h]
    have : (2199023255551 : Int).toNat &&& (Builtin.bitNot x).toNat ≤ (2199023255551 : Int).toNat := Nat.and_le_left
    have e : (2199023255551 : Int).toNat = 2199023255551 := rfl
    show 0 ≤ 2199023255551 - (((2199023255551 : Int).toNat &&& (Builtin.bitNot x).toNat : Nat) : Int) ∧ 2199023255551 - (((2199023255551 : Int).toNat &&& (Builtin.bitNot x).toNat : Nat) : Int) ≤ 2199023255551
    omega
/-- [e for k in range(..)], told by what holds of the values so far -/
theorem k_lcrP {te : TE} {σ : L2.St} {H1 : Hp} {Q : VK} {lo : Int} {n j : Nat} (P : Nat → List V → Hp → Prop) (hz : n ≤ 1000000) (h0 : ∀ D, H1 D = none → P 0 [] (upd H1 D (.lst [])))
    (hs : ∀ (i : Nat) (acc : List V) (D : Addr) (H2 : Hp) (R : VK), i < n → Same H1 H2 → H2 D = some (.lst acc) → P i acc H2 → (∀ y H3, Same H2 H3 → P (i + 1) (acc ++ [y]) (upd H3 D (.lst (acc ++ [y]))) → R y H3) → te (σ.set j (some (.int (lo + i)))) H2 R)
    (q : ∀ D H2 acc, H1 D = none → Same H1 H2 → H2 D = some (.lst acc) → acc.length = n → P n acc H2 → Q (.ref D) H2) : LcG (Itr lo n) H1 (gName j) tYes te [j] σ Q := by
  intro D hD
  refine lc_range (fun i H' => ∃ acc, Same H1 H' ∧ H' D = some (.lst acc) ∧ acc.length = i ∧ P i acc H') ⟨[], same_new hD, upd_same, rfl, h0 D hD⟩ (fun i H' hi ⟨acc, sm, hd, hl, hp⟩ => ?_) (fun H' ⟨acc, sm, hd, hl, hp⟩ => q D H' acc hD sm hd hl hp)
  have ew : ∀ y : V, (wipe σ [j]).set j (some y) = σ.set j (some y) := fun y => by
    show ((σ.set j none).set j (some y)) = _
    rw [List.set_set]
  show wipe ((wipe σ [j]).set j _) [j] = wipe σ [j] ∧ _
  rw [ew]
  refine ⟨by show (σ.set j _).set j none = σ.set j none; rw [List.set_set], ?_⟩
  refine hs i acc D H' _ hi sm hd hp fun y H3 s3 hp3 => ?_
  refine ⟨acc, s3 _ _ hd, Nat.lt_of_le_of_lt (show acc.length ≤ 1000000 by omega) (by rw [sizeLine_eq]; decide), _, same_mut (sm.trans s3) hD, upd_same, by rw [List.length_append, hl]; rfl, hp3⟩
theorem sumT_zero {ts : List Tm} (h : ∀ t ∈ ts, TmOk t) : sumT ts 0 = 0 := by
  unfold sumT
  induction ts with
  | nil => rfl
  | cons t r ih =>
    have ok := h t List.mem_cons_self
    rw [List.map_cons, List.sum_cons, ih fun x hx => h x (List.mem_cons_of_mem _ hx), Int.mul_zero, Int.zero_add, Int.ediv_eq_zero_of_lt ok.b0 ok.bn]
    omega
/-- by how much one term rises -/
def riseM (t : Tm) (k : Int) : Int := (t.a * k + t.b + t.a) / t.n - (t.a * k + t.b) / t.n
def riseT (ts : List Tm) (k : Int) : Int := (ts.map fun t => t.s * riseM t k).sum
theorem riseT_snoc {ts : List Tm} {i : Nat} {t : Tm} {k : Int} (h : ts[i]? = some t) : riseT (ts.take (i + 1)) k = riseT (ts.take i) k + t.s * riseM t k := by
  unfold riseT
  rw [List.take_succ, h, List.map_append, List.sum_append]
  simp
theorem sumT_next (ts : List Tm) (k : Int) : sumT ts (k + 1) = sumT ts k + riseT ts k := by
  unfold sumT riseT
  induction ts with
  | nil => rfl
  | cons t r ih =>
    rw [List.map_cons, List.sum_cons, List.map_cons, List.sum_cons, List.map_cons, List.sum_cons, ih]
    have e : t.a * (k + 1) + t.b = t.a * k + t.b + t.a := by rw [Int.mul_add]; omega
    have e2 : t.s * ((t.a * k + t.b + t.a) / t.n) = t.s * ((t.a * k + t.b) / t.n) + t.s * riseM t k := by
      unfold riseM; rw [← Int.mul_add]; congr 1; omega
    rw [e, e2]
    omega
theorem rise_on {t : Tm} (ok : TmOk t) (k : Int) : t.n ≤ (t.a * k + t.b) % t.n + t.a ↔ riseM t k = 1 := by
  unfold riseM
  have h1 := ok.n1
  have h2 := ok.a0
  have h3 := ok.an
  generalize t.a * k + t.b = x
  have e1 := Int.emod_add_mul_ediv x t.n
  have m1 := Int.emod_nonneg x (show t.n ≠ 0 by omega)
  have m2 := Int.emod_lt_of_pos x (show 0 < t.n by omega)
  have e2 : x + t.a = (x % t.n + t.a) + t.n * (x / t.n) := by omega
  rw [e2, Int.add_mul_ediv_left _ _ (by omega)]
  constructor
  · intro h
    have : (x % t.n + t.a) / t.n = 1 := by
      rw [show x % t.n + t.a = (x % t.n + t.a - t.n) + t.n * 1 by omega, Int.add_mul_ediv_left _ _ (by omega), Int.ediv_eq_zero_of_lt (by omega) (by omega)]; omega
    omega
  · intro h
    by_cases hh : t.n ≤ x % t.n + t.a
    · exact hh
    · have : (x % t.n + t.a) / t.n = 0 := Int.ediv_eq_zero_of_lt (by omega) (by omega)
      omega
theorem riseM_bd {t : Tm} (ok : TmOk t) (k : Int) : 0 ≤ riseM t k ∧ riseM t k ≤ 1 := by
  unfold riseM
  have h1 := ok.n1
  have h2 := ok.a0
  have h3 := ok.an
  generalize t.a * k + t.b = x
  have e1 := Int.emod_add_mul_ediv x t.n
  have m1 := Int.emod_nonneg x (show t.n ≠ 0 by omega)
  have m2 := Int.emod_lt_of_pos x (show 0 < t.n by omega)
  have e2 : x + t.a = (x % t.n + t.a) + t.n * (x / t.n) := by omega
  rw [e2, Int.add_mul_ediv_left _ _ (by omega)]
  have g1 := Int.ediv_nonneg (show 0 ≤ x % t.n + t.a by omega) (show 0 ≤ t.n by omega)
  have g2 : (x % t.n + t.a) / t.n < 2 := Int.ediv_lt_of_lt_mul (by omega) (by omega)
  omega
theorem sumT_one (t : Tm) (x : Int) : sumT [t] x = t.s * ((t.a * x + t.b) / t.n) := by simp [sumT]
theorem alone_eq {t : Tm} (ok : TmOk t) (k : Int) : sumT [t] (k + t.n) - sumT [t] k = t.s * t.a := by
  have h1 := ok.n1
  rw [sumT_one, sumT_one, ← Int.mul_sub]
  congr 1
  rw [show t.a * (k + t.n) + t.b = t.a * k + t.b + t.n * t.a by rw [Int.mul_add, Int.mul_comm t.n]; omega, Int.add_mul_ediv_left _ _ (by omega)]
  omega
/-- [e for s, a, b, n in terms] -/
theorem k_lclT {K : PySem.W.Frag} {te : TE} {σ : L2.St} {H1 : Hp} {Q : VK} {a : Addr} {qs : List Addr} {ts : List Tm} {j1 j2 j3 j4 : Nat} (hx : SqL K H1 a (qs.map V.ref)) (hq : TmsAt K H1 qs ts) (L : List V) (hl : L.length = ts.length) (hz : ts.length ≤ 1000000)
    (hw : ∀ w x y z : V, wipe (((((wipe σ [j1, j2, j3, j4]).set j1 (some w)).set j2 (some x)).set j3 (some y)).set j4 (some z)) [j1, j2, j3, j4] = wipe σ [j1, j2, j3, j4])
    (hs : ∀ (i : Nat) (t : Tm) (v : V) (H2 : Hp) (R : VK), ts[i]? = some t → L[i]? = some v → Same H1 H2 → (∀ H3, Same H2 H3 → R v H3) → te (((((wipe σ [j1, j2, j3, j4]).set j1 (some (.int t.s))).set j2 (some (.int t.a))).set j3 (some (.int t.b))).set j4 (some (.int t.n))) H2 R)
    (q : ∀ D H2, H1 D = none → Same H1 H2 → H2 D = some (.lst L) → Q (.ref D) H2) : LcG (Itl K a) H1 (gTup K 4 (gCons (gName j1) (gCons (gName j2) (gCons (gName j3) (gCons (gName j4) gNil))))) tYes te [j1, j2, j3, j4] σ Q := by
  have hlq := hq.1
  intro D hD
  refine lc_list (xs := qs.map V.ref) (fun i H' => Same H1 H' ∧ H' D = some (.lst (L.take i))) ⟨same_new hD, by rw [upd_same]; rfl⟩ (fun i H' _ ⟨sm, _⟩ => same_l sm hx) (fun i x H' hi ⟨sm, hd⟩ => ?_) (fun H' ⟨sm, hd⟩ => q D H' hD sm (by rw [hd, List.length_map, List.take_of_length_le (by omega)]))
  rw [List.getElem?_map] at hi
  obtain ⟨p, hp, rfl⟩ := Option.map_eq_some_iff.mp hi
  have hil : i < ts.length := by
    have := (List.getElem?_eq_some_iff.mp hp).1
    omega
  have ht := List.getElem?_eq_getElem hil
  have htq : SqT K H' p [.int (ts[i]'hil).s, .int (ts[i]'hil).a, .int (ts[i]'hil).b, .int (ts[i]'hil).n] := same_t sm (hq.2 i p _ hp ht)
  refine k_gtup htq rfl ?_
  refine k_gcons (k_gcons (k_gcons (k_gcons ?_)))
  show ([] : List V) = [] ∧ _
  refine ⟨rfl, ?_⟩
  refine ⟨hw _ _ _ _, ?_⟩
  refine hs i _ (L[i]'(by omega)) H' _ ht (List.getElem?_eq_getElem (by omega)) sm fun H3 s3 => ?_
  refine ⟨L.take i, s3 _ _ hd, Nat.lt_of_le_of_lt (Nat.le_trans (by rw [List.length_take]; exact Nat.min_le_left _ _) (show i ≤ 1000000 by omega)) (by rw [sizeLine_eq]; decide), same_mut (sm.trans s3) hD, ?_⟩
  rw [upd_same, List.take_add_one, List.getElem?_eq_getElem (show i < L.length by omega)]
  rfl
/-! terms as data, for == -/
def tmD (t : Tm) : PyData := .tuple [.int t.s, .int t.a, .int t.b, .int t.n]
def tmsD (ts : List Tm) : PyData := .list (ts.map tmD)
theorem tmD_lay (t : Tm) : (tmD t).canLay0 = true := by simp [tmD, PyData.canLay0, PyData.canLayAll0]
theorem tmD_depth (t : Tm) : (tmD t).depth = 1 := by simp [tmD, PyData.depth, PyData.depthAll]
theorem tmsD_lay (ts : List Tm) : PyData.canLayAll0 (ts.map tmD) = true := by
  induction ts with
  | nil => rfl
  | cons t r ih => simp [PyData.canLayAll0, tmD_lay, ih]
theorem tmsD_depth (ts : List Tm) : PyData.depthAll (ts.map tmD) ≤ 1 := by
  induction ts with
  | nil => simp [PyData.depthAll]
  | cons t r ih => simp only [List.map_cons, PyData.depthAll, tmD_depth]; omega
theorem tmsD_shaped (ts : List Tm) : SeqAt.shaped (tmsD ts) = true := by
  have h := tmsD_depth ts
  have e1 : (PyData.list (ts.map tmD)).canLay0 = true := by simp only [PyData.canLay0]; exact tmsD_lay ts
  have e2 : (PyData.list (ts.map tmD)).depth ≤ 64 := by simp only [PyData.depth]; omega
  unfold SeqAt.shaped tmsD
  rw [e1, decide_eq_true e2]; rfl
theorem dp_tms {K : PySem.W.Frag} {H : Hp} {a : Addr} {qs : List Addr} {ts : List Tm} (hS : SqL K H a (qs.map V.ref)) (hq : TmsAt K H qs ts) : Dp K H (.ref a) (tmsD ts) := by
  refine .lst hS ?_
  clear hS
  induction qs generalizing ts with
  | nil =>
    have : ts = [] := List.eq_nil_of_length_eq_zero (by have := hq.1; simpa using this.symm)
    subst this; exact .nil
  | cons q r ih =>
    match ts, hq with
    | [], hq => have := hq.1; simp at this
    | t :: u, hq =>
      refine .cons (.tup (hq.2 0 q t rfl rfl) (.cons (.int _) (.cons (.int _) (.cons (.int _) (.cons (.int _) .nil))))) (ih ⟨by have := hq.1; simpa using this, fun i q' t' h1 h2 => hq.2 (i + 1) q' t' (by simpa using h1) (by simpa using h2)⟩)
theorem tms_eq (ts : List Tm) : PyData.eqv (tmsD ts) (tmsD ts) = true := by
  have h := tmsD_lay ts
  refine SeqAt.eqv_refl _ ?_
  simp only [tmsD, PyData.canLay0]
  exact h
theorem tms_nil (ts : List Tm) : PyData.eqv (tmsD ts) (.list []) = decide (ts = []) := by
  cases ts with
  | nil => simp [tmsD, PyData.eqv, PyData.eqvAll]
  | cons t r => simp [tmsD, PyData.eqv, PyData.eqvAll]
theorem k_eqDD {K : PySem.W.Frag} {H : Hp} {Q : VK} {x y : V} {d e : PyData} {r : Bool} (hd : Dp K H x d) (he : Dp K H y e) (sd : SeqAt.shaped d = true) (se : SeqAt.shaped e = true) (hr : PyData.eqv d e = r) (q : Q (.bl r) H) : rEqA K x y H Q :=
  .inr ⟨d, e, hd, he, sd, se, by rw [hr]; exact q⟩
theorem k_neDD {K : PySem.W.Frag} {H : Hp} {Q : VK} {x y : V} {d e : PyData} {r : Bool} (hd : Dp K H x d) (he : Dp K H y e) (sd : SeqAt.shaped d = true) (se : SeqAt.shaped e = true) (hr : PyData.eqv d e = r) (q : Q (.bl (!r)) H) : rNeA K x y H Q :=
  .inr ⟨d, e, hd, he, sd, se, by rw [hr]; exact q⟩
theorem nil_shaped : SeqAt.shaped (.list []) = true := by simp [SeqAt.shaped, PyData.canLay0, PyData.canLayAll0, PyData.depth, PyData.depthAll]
/-- a new list is changed -/
theorem SameT.mutL {T : List NTab} {H H1 : Hp} {p : Addr} {xs ys : List V} (s : SameT T H H1) (hp : H p = none) (e : H1 p = some (.lst xs)) : SameT T H (upd H1 p (.lst ys)) := by
  refine ⟨fun b o h n => ?_, fun t q hq => ?_⟩
  · rw [upd_ne (ne_of_none h hp)]; exact s.ext b o h n
  · obtain ⟨ps0, h0, _⟩ := t q hq
    obtain ⟨ps, h1, h2, h3⟩ := s.tab t q hq
    refine ⟨ps, by rw [upd_ne (ne_of_none h0 hp)]; exact h1, h2, fun pos cv hc => ?_⟩
    obtain ⟨c, e1, e2⟩ := h3 pos cv hc
    refine ⟨c, e1, ?_⟩
    rw [upd_ne (fun z => by rw [z, e] at e2; cases e2)]; exact e2
/-- the readings' heads -/
theorem k_callClo {mk : Addr → Addr → NF} {i : Nat} {sp : V → Sp} {t : TA} {σ : L2.St} {H : Hp} {Q : VK} (h : ∃ (f c' ca : Addr) (ob : Obj) (u : Value) (x : V), σ[i]? = some (some (.ref f)) ∧ H f = some (FnO f (mk ca c')) ∧
  t σ H fun vs H1 => H1 f = some (FnO f (mk ca c')) ∧ H1 (mk ca c').c = some (CodeO (mk ca c').c (mk ca c').qual) ∧ H1 ca = some (exV ca ob) ∧ ob.data = .cell (some u) ∧ RelV x u ∧ f ≠ ca ∧ (mk ca c').c ≠ ca ∧
    sp x vs (dlH H1 ca) (fun v H2 => Q v (upd H2 ca (exV ca ob))) (fun _ _ _ => False)) : tCallClo mk i sp t σ H Q := h
theorem upd_dl {H H2 : Hp} {ca : Addr} {ob : Obj} (e : H ca = some (exV ca ob)) (s : Same (dlH H ca) H2) : Same H (upd H2 ca (exV ca ob)) := fun b o h => by
  by_cases z : b = ca
  · subst z
    rw [e] at h; cases h
    exact upd_same
  · rw [upd_ne z]
    exact s _ _ (by rw [dlH_ne z]; exact h)

end

section
open NdefX LamX
theorem FunD.okN {P : Program} {w : World} {K : PySem.W.Frag} {mg : Str → Option Value} {base : Heap} {x qual : Str} {params : Arguments} {body : List Stmt} {scope : Scope} {dvs : List V} {kws : List (Str × V)} {f : Addr} {fd : FuncData} {N ps : List Str} {k : Nat} {sp : Sp}
    (F : FunD K x qual params body scope dvs kws f fd) (S : FnScope N ps scope) (len : ∀ vs H Q E, sp vs H Q E → vs.length = ps.length)
    (hbody : ∀ (cdv : Value) (A : Around) (outer : List Env) (s : Shared) (H : Hp) (vs : List V) (Q : VK) (E : XK), Room k (A.deeper (envOfC qual scope s.heap.objs.size f cdv)) → sp vs H Q E →
      ∃ t, PSs (cxOf CX0 P w K mg base N qual scope f cdv A outer s H E).nox body t ∧ t { nx := fun _ H' => Q .non H', rt := Q } (start N vs) H) : FnOk P w K mg base CX0 (k + 1) f fd ps sp :=
  F.ok S len fun cdv A outer s H vs Q E hr hsp => by
    obtain ⟨t, h, q⟩ := hbody cdv A outer s H vs Q E hr hsp
    exact ⟨t, h.nox, q⟩
/-- one of two readings serves -/
theorem pe_alt {X : Cx} {e : Expr} {t1 t2 : TE} (h1 : PE X e t1) (h2 : PE X e t2) : PE X e (fun σ H Q => t1 σ H Q ∨ t2 σ H Q) :=
  ⟨fun pins s σ H Q I h => h.elim (h1.run pins s σ H Q I) (h2.run pins s σ H Q I)⟩
/-! ### objects: the readings' heads -/
section
variable {K : PySem.W.Frag} {σ : L2.St} {H : Hp} {Q : VK} {D : Ends} {C a dx : Addr} {fs : List (Str × V)} {f m : Str} {v y : V} {ta tv : TE} {t : TA} {sp : Sp} {dvs : List V} {E : XK}
def FldR (K : PySem.W.Frag) (f : Str) (x : V) (H1 : Hp) (Q : VK) : Prop := ∃ a C dx fs v, x = .ref a ∧ H1 a = some (.ins C dx fs) ∧ Cls K C ∧ NoAttr K C f ∧ fs.lookup f = some v ∧ Q v H1
theorem k_fld (h : ta σ H fun x H1 => FldR K f x H1 Q) : tFld K ta f σ H Q := h
theorem k_fldX (h : H a = some (.ins C dx fs)) (c : Cls K C) (n : NoAttr K C f) (l : fs.lookup f = some v) (q : Q v H) : FldR K f (.ref a) H Q := ⟨a, C, dx, fs, v, rfl, h, c, n, l, q⟩
def StoR (K : PySem.W.Frag) (f : Str) (y : V) (σ : L2.St) (D : Ends) (x : V) (H2 : Hp) : Prop := ∃ a C dx fs, x = .ref a ∧ H2 a = some (.ins C dx fs) ∧ Cls K C ∧ NoAttr K C f ∧ fs.length < 1000 ∧ D.nx σ (upd H2 a (.ins C dx (putF f y fs)))
theorem k_seqO {u : TS} (h : sFld K ta tv f { D with nx := u D } σ H) : tSeq (sFld K ta tv f) u D σ H := h
theorem k_sto (h : tv σ H fun y H1 => ta σ H1 fun x H2 => StoR K f y σ D x H2) : sFld K ta tv f D σ H := h
theorem k_stoX (h : H a = some (.ins C dx fs)) (c : Cls K C) (n : NoAttr K C f) (l : fs.length < 1000) (q : D.nx σ (upd H a (.ins C dx (putF f y fs)))) : StoR K f y σ D (.ref a) H := ⟨a, C, dx, fs, rfl, h, c, n, l, q⟩
def MetR (C : Addr) (m : Str) (sp : Sp) (dvs : List V) (E : XK) (t : TA) (σ : L2.St) (x : V) (H1 : Hp) (Q : VK) : Prop := ∃ a dx fs, x = .ref a ∧ H1 a = some (.ins C dx fs) ∧ fs.lookup m = none ∧ t σ H1 fun vs H2 => sp (x :: (vs ++ dvs)) H2 Q E
theorem k_met' (h : ta σ H fun x H1 => MetR C m sp dvs E t σ x H1 Q) : tMeth C m sp dvs E ta t σ H Q := h
theorem k_metX (h : H a = some (.ins C dx fs)) (l : fs.lookup m = none) (q : t σ H fun vs H2 => sp (.ref a :: (vs ++ dvs)) H2 Q E) : MetR C m sp dvs E t σ (.ref a) H Q := ⟨a, dx, fs, rfl, h, l, q⟩
def MakR (C : Addr) (sp : Sp) (dvs : List V) (E : XK) (vs : List V) (H1 : Hp) (Q : VK) : Prop := ∀ x dx, H1 x = none → H1 dx = none → dx ≠ x → sp (.ref x :: (vs ++ dvs)) (upd (upd H1 dx (.own x)) x (.ins C dx [])) (fun v H2 => v = .non ∧ Q (.ref x) H2) E
theorem k_mak (h : t σ H fun vs H1 => MakR C sp dvs E vs H1 Q) : tMake C sp dvs E t σ H Q := h
end
/-- all is kept but what stands at x -/
structure SameX (T : List NTab) (x : Addr) (H H' : Hp) : Prop where
  ext : ∀ b o, H b = some o → b ≠ x → (∀ ps, o ≠ .tbl ps) → H' b = some o
  tab : TabsN T H → TabsN T H'
theorem SameX.of {T : List NTab} {x : Addr} {H H' : Hp} (s : SameT T H H') : SameX T x H H' := ⟨fun b o h _ n => s.ext b o h n, s.tab⟩
theorem SameX.trans {T : List NTab} {x : Addr} {H H1 H2 : Hp} (a : SameX T x H H1) (b : SameX T x H1 H2) : SameX T x H H2 := ⟨fun c o h n1 n2 => b.ext c o (a.ext c o h n1 n2) n1 n2, fun t => b.tab (a.tab t)⟩
/-- a field of the object at x is set -/
theorem SameX.upd {T : List NTab} {x : Addr} {H : Hp} {C dx : Addr} {fs : List (Str × V)} {o : HO} (h : H x = some (.ins C dx fs)) : SameX T x H (upd H x o) := by
  refine ⟨fun b o h n _ => by rw [upd_ne n]; exact h, fun t q hq => ?_⟩
  obtain ⟨ps, h1, h2, h3⟩ := t q hq
  refine ⟨ps, by rw [upd_ne (fun z => by rw [z, h] at h1; cases h1)]; exact h1, h2, fun pos cv hc => ?_⟩
  obtain ⟨c, e1, e2⟩ := h3 pos cv hc
  exact ⟨c, e1, by rw [upd_ne (fun z => by rw [z, h] at e2; cases e2)]; exact e2⟩
/-- an object was made: all that was tracked is kept -/
theorem SameX.made {T : List NTab} {x dx C : Addr} {H H' : Hp} (hx : H x = none) (hd : H dx = none) (s : SameX T x (L2.upd (L2.upd H dx (.own x)) x (.ins C dx [])) H') : SameT T H H' := by
  have ne : ∀ {b : Addr} {o : HO}, H b = some o → L2.upd (L2.upd H dx (.own x)) x (.ins C dx []) b = some o := fun {b o} h => by
    rw [upd_ne (ne_of_none h hx), upd_ne (ne_of_none h hd)]; exact h
  exact ⟨fun b o h n => s.ext b o (ne h) (ne_of_none h hx) n, fun t => s.tab (t.ext fun b o h => ne h)⟩
theorem sqt_updI {K : PySem.W.Frag} {H : Hp} {a x C dx : Addr} {fs : List (Str × V)} {o : HO} {xs : List V} (e : H x = some (.ins C dx fs)) (h : SqT K H a xs) : SqT K (L2.upd H x o) a xs := by
  have ne : ∀ {u : HO}, H a = some u → (∀ C d f, u ≠ .ins C d f) → L2.upd H x o a = some u := fun {u} ho hn => by
    rw [upd_ne (fun z => by rw [z, e] at ho; exact hn _ _ _ (Option.some.inj ho).symm)]; exact ho
  rcases h with (h | ⟨o, h⟩) | h
  · exact .inl (.inl (ne h fun _ _ _ z => nomatch z))
  · exact .inl (.inr ⟨o, ne h fun _ _ _ z => nomatch z⟩)
  · exact .inr h
theorem sql_updI {K : PySem.W.Frag} {H : Hp} {a x C dx : Addr} {fs : List (Str × V)} {o : HO} {xs : List V} (e : H x = some (.ins C dx fs)) (h : SqL K H a xs) : SqL K (L2.upd H x o) a xs := by
  have ne : ∀ {u : HO}, H a = some u → (∀ C d f, u ≠ .ins C d f) → L2.upd H x o a = some u := fun {u} ho hn => by
    rw [upd_ne (fun z => by rw [z, e] at ho; exact hn _ _ _ (Option.some.inj ho).symm)]; exact ho
  rcases h with (h | ⟨o, h⟩) | h
  · exact .inl (.inl (ne h fun _ _ _ z => nomatch z))
  · exact .inl (.inr ⟨o, ne h fun _ _ _ z => nomatch z⟩)
  · exact .inr h
theorem TmsL.updI {K : PySem.W.Frag} {H : Hp} {a x C dx : Addr} {fs : List (Str × V)} {o : HO} {ts : List Tm} (e : H x = some (.ins C dx fs)) (h : TmsL K H a ts) : TmsL K (L2.upd H x o) a ts := by
  obtain ⟨qs, h1, h2, h3⟩ := h
  exact ⟨qs, sql_updI e h1, h2, fun i q t a b => sqt_updI e (h3 i q t a b)⟩
/-! ### measures -/
def mfs (b : Int) (l : Addr) : List (Str × V) := [("base", .int b), ("terms", .ref l)]
theorem mfs_put (b : Int) (l : Addr) : putF "terms" (.ref l) (putF "base" (.int b) []) = mfs b l := by
  show (if (("base" : Str) = "terms") then _ else (("base" : Str), V.int b) :: putF "terms" (.ref l) []) = _
  rw [if_neg (by decide +kernel)]
  rfl
theorem mfs_base (b : Int) (l : Addr) : (mfs b l).lookup ("base" : Str) = some (.int b) := by simp [mfs, List.lookup]
theorem mfs_terms (b : Int) (l : Addr) : (mfs b l).lookup ("terms" : Str) = some (.ref l) := by
  have e : (("terms" : Str) == "base") = false := by decide +kernel
  simp [mfs, List.lookup, e]
theorem mfs_no (b : Int) (l : Addr) {m : Str} (h1 : (m == ("base" : Str)) = false) (h2 : (m == ("terms" : Str)) = false) : (mfs b l).lookup m = none := by simp [mfs, List.lookup, h1, h2]
/-- a measure of the base b and the terms ts stands at m -/
def MeasAt (K : PySem.W.Frag) (C : Addr) (H : Hp) (m : Addr) (b : Int) (ts : List Tm) : Prop := ∃ dx l, H m = some (.ins C dx (mfs b l)) ∧ TmsL K H l ts
theorem MeasAt.mono {T : List NTab} {K : PySem.W.Frag} {C : Addr} {H H' : Hp} {m : Addr} {b : Int} {ts : List Tm} (s : SameT T H H') (h : MeasAt K C H m b ts) : MeasAt K C H' m b ts := by
  obtain ⟨dx, l, h1, h2⟩ := h
  exact ⟨dx, l, s.ins h1, h2.mono s⟩
/-- a measure at m whose list of terms was not there ahead -/
def MeasN (K : PySem.W.Frag) (C : Addr) (H H' : Hp) (m : Addr) (b : Int) (ts : List Tm) : Prop := ∃ dx l, H' m = some (.ins C dx (mfs b l)) ∧ H l = none ∧ TmsL K H' l ts
theorem MeasN.at {K : PySem.W.Frag} {C : Addr} {H H' : Hp} {m : Addr} {b : Int} {ts : List Tm} (h : MeasN K C H H' m b ts) : MeasAt K C H' m b ts := by
  obtain ⟨dx, l, h1, _, h2⟩ := h
  exact ⟨dx, l, h1, h2⟩
theorem MeasN.mono {T : List NTab} {K : PySem.W.Frag} {C : Addr} {H H' H'' : Hp} {m : Addr} {b : Int} {ts : List Tm} (s : SameT T H' H'') (h : MeasN K C H H' m b ts) : MeasN K C H H'' m b ts := by
  obtain ⟨dx, l, h1, h0, h2⟩ := h
  exact ⟨dx, l, s.ins h1, h0, h2.mono s⟩
theorem MeasN.back {K : PySem.W.Frag} {C : Addr} {H0 H H' : Hp} {m : Addr} {b : Int} {ts : List Tm} (s : ∀ l, H l = none → H0 l = none) (h : MeasN K C H H' m b ts) : MeasN K C H0 H' m b ts := by
  obtain ⟨dx, l, h1, h0, h2⟩ := h
  exact ⟨dx, l, h1, s l h0, h2⟩
theorem sql_updN {K : PySem.W.Frag} {H : Hp} {a D : Addr} {xs : List V} {o : HO} (n : a ≠ D) (h : SqL K H a xs) : SqL K (L2.upd H D o) a xs := by
  rcases h with (h | ⟨o, h⟩) | h
  · exact .inl (.inl (by rw [upd_ne n]; exact h))
  · exact .inl (.inr ⟨o, by rw [upd_ne n]; exact h⟩)
  · exact .inr h
/-- a list that was there ahead is changed: the measure stays -/
theorem MeasN.updL {K : PySem.W.Frag} {C : Addr} {H H' : Hp} {m p : Addr} {b : Int} {ts : List Tm} {xs ys : List V} {o : HO} (hp : H p = some o) (hp' : H' p = some (.lst xs)) (h : MeasN K C H H' m b ts) : MeasN K C H (L2.upd H' p (.lst ys)) m b ts := by
  obtain ⟨dx, l, h1, h0, qs, h2, h3⟩ := h
  refine ⟨dx, l, by rw [upd_ne (fun z => by rw [z, hp'] at h1; cases h1)]; exact h1, h0, qs, sql_updN (fun z => by rw [z, hp] at h0; cases h0) h2, h3.updL hp'⟩
def fallsT (ts : List Tm) : Int := ((ts.filter fun t => decide (t.s = -1)).length : Nat)
def perT (ts : List Tm) : Int := ts.foldl (fun s t => lcmI s t.n) 1
def uptoM (b : Int) (ts : List Tm) (k : Int) : Int := b * k + sumT ts k
def atM (b : Int) (ts : List Tm) (k : Int) : Int := b + riseT ts k
structure MeasOk (b : Int) (ts : List Tm) : Prop where
  b0 : 0 ≤ b
  b1 : b ≤ 20000
  len : ts.length ≤ 6
  ok : ∀ t ∈ ts, TmOk t
  falls : fallsT ts ≤ b
  pos : 1 ≤ uptoM b ts (perT ts)
theorem perT_snoc {ts : List Tm} {i : Nat} {t : Tm} (h : ts[i]? = some t) : perT (ts.take (i + 1)) = lcmI (perT (ts.take i)) t.n := by
  unfold perT
  rw [List.take_succ, h, List.foldl_append]
  rfl
theorem falls_range (ts : List Tm) : (((List.range ts.length).filter fun i => decide ((ts[i]?.map (·.s)) = some (-1))).length : Int) = fallsT ts := by
  unfold fallsT
  have key : ∀ n, n ≤ ts.length → ((List.range n).filter fun i => decide ((ts[i]?.map (·.s)) = some (-1))).length = ((ts.take n).filter fun t => decide (t.s = -1)).length := by
    intro n
    induction n with
    | zero => intro _; rfl
    | succ n ih =>
      intro hn
      have ht := List.getElem?_eq_getElem (show n < ts.length by omega)
      rw [List.range_succ, List.filter_append, List.length_append, ih (by omega), List.take_succ, ht, List.filter_append, List.length_append]
      congr 1
      by_cases h : (ts[n]'(by omega)).s = -1
      · simp [ht, h]
      · simp [ht, h]
  rw [key _ (Nat.le_refl _), List.take_of_length_le (Nat.le_refl _)]
theorem perT_bd {ts : List Tm} (h : ∀ t ∈ ts, TmOk t) (hl : ts.length ≤ 6) (i : Nat) : 1 ≤ perT (ts.take i) ∧ perT (ts.take i) ≤ 1000000000000000000 := by
  have key : ∀ i : Nat, 1 ≤ perT (ts.take i) ∧ perT (ts.take i) ≤ (1000 : Int) ^ (min i ts.length) := by
    intro i
    induction i with
    | zero => exact ⟨by show (1 : Int) ≤ 1; decide, by rw [Nat.zero_min]; show (1 : Int) ≤ 1; decide⟩
    | succ i ih =>
      by_cases hi : i < ts.length
      · have ht := List.getElem?_eq_getElem hi
        have ok := h _ (List.getElem_mem hi)
        have n1 := ok.n1
        have n2 := ok.n2
        rw [perT_snoc ht]
        generalize ts[i] = t at *
        obtain ⟨g1, g2⟩ := ih
        have l1 := lcm_pos g1 n1
        have l2 := lcm_le_mul g1 n1
        refine ⟨l1, Int.le_trans l2 ?_⟩
        rw [show min (i + 1) ts.length = min i ts.length + 1 by omega, Int.pow_succ]
        exact Int.mul_le_mul g2 n2 (by omega) (Int.pow_nonneg (by decide))
      · rw [show ts.take (i + 1) = ts.take i by rw [List.take_of_length_le (by omega), List.take_of_length_le (by omega)], show min (i + 1) ts.length = min i ts.length by omega]
        exact ih
  obtain ⟨g1, g2⟩ := key i
  refine ⟨g1, Int.le_trans g2 ?_⟩
  have : (1000 : Int) ^ (min i ts.length) ≤ 1000 ^ 6 := by
    have hm : min i ts.length ≤ 6 := by omega
    generalize min i ts.length = e at *
    match e, hm with
    | 0, _ => decide
    | 1, _ => decide
    | 2, _ => decide
    | 3, _ => decide
    | 4, _ => decide
    | 5, _ => decide
    | 6, _ => decide
    | n + 7, h => omega
  exact Int.le_trans this (by decide)

end

section
open NdefX LamX
/-- all a round of numbers tells -/
def overM (b : Int) (ts : List Tm) (p : Int) : Int := b * p + (ts.map fun t => t.s * t.a * (p / t.n)).sum
theorem over_snoc {ts : List Tm} {i : Nat} {t : Tm} {p : Int} (h : ts[i]? = some t) : ((ts.take (i + 1)).map fun t => t.s * t.a * (p / t.n)).sum = ((ts.take i).map fun t => t.s * t.a * (p / t.n)).sum + t.s * t.a * (p / t.n) := by
  rw [List.take_succ, h, List.map_append, List.sum_append]
  simp
theorem dvd_per {ts : List Tm} (h : ∀ t ∈ ts, TmOk t) {t : Tm} (ht : t ∈ ts) : t.n ∣ perT ts := by
  have key : ∀ (l : List Tm) (s : Int), 1 ≤ s → (∀ t ∈ l, TmOk t) → (s ∣ l.foldl (fun s t => lcmI s t.n) s) ∧ ∀ t ∈ l, t.n ∣ l.foldl (fun s t => lcmI s t.n) s := by
    intro l
    induction l with
    | nil => intro s _ _; exact ⟨Int.dvd_refl s, fun _ h => by simp at h⟩
    | cons x r ih =>
      intro s hs hok
      have ox := hok x List.mem_cons_self
      obtain ⟨g1, g2⟩ := ih (lcmI s x.n) (lcm_pos hs ox.n1) (fun t h => hok t (List.mem_cons_of_mem _ h))
      refine ⟨Int.dvd_trans (dvd_lcm_left hs) g1, fun t h => ?_⟩
      rcases List.mem_cons.mp h with rfl | h
      · exact Int.dvd_trans (dvd_lcm_right s t.n) g1
      · exact g2 t h
  exact (key ts 1 (by decide) h).2 t ht
/-- over a multiple of all sizes -/
theorem sum_over {ts : List Tm} (h : ∀ t ∈ ts, TmOk t) {p : Int} (hp : ∀ t ∈ ts, t.n ∣ p) (k : Int) : sumT ts (k + p) = sumT ts k + (ts.map fun t => t.s * t.a * (p / t.n)).sum := by
  unfold sumT
  induction ts with
  | nil => rfl
  | cons t r ih =>
    have ok := h t List.mem_cons_self
    have n1 := ok.n1
    obtain ⟨c, hc⟩ := hp t List.mem_cons_self
    rw [List.map_cons, List.sum_cons, List.map_cons, List.sum_cons, List.map_cons, List.sum_cons, ih (fun t h' => h t (List.mem_cons_of_mem _ h')) (fun t h' => hp t (List.mem_cons_of_mem _ h'))]
    have e1 : p / t.n = c := by rw [hc]; exact Int.mul_ediv_cancel_left _ (by omega)
    have e2 : t.a * (k + p) + t.b = t.a * k + t.b + t.n * (t.a * c) := by
      rw [hc, Int.mul_add, ← Int.mul_assoc t.a t.n c, Int.mul_comm t.a t.n, Int.mul_assoc]; omega
    rw [e1, e2, Int.add_mul_ediv_left _ _ (by omega), Int.mul_add, Int.mul_assoc]
    omega
theorem upto_over {b : Int} {ts : List Tm} (h : ∀ t ∈ ts, TmOk t) {p : Int} (hp : ∀ t ∈ ts, t.n ∣ p) (k : Int) : uptoM b ts (k + p) = uptoM b ts k + overM b ts p := by
  unfold uptoM overM
  rw [sum_over h hp, Int.mul_add]; omega
theorem over_upto {b : Int} {ts : List Tm} (h : ∀ t ∈ ts, TmOk t) {p : Int} (hp : ∀ t ∈ ts, t.n ∣ p) : overM b ts p = uptoM b ts p := by
  have e := upto_over (b := b) h hp 0
  have z : uptoM b ts 0 = 0 := by unfold uptoM; rw [sumT_zero h]; omega
  rw [Int.zero_add, z] at e
  omega
theorem over_lo {ts : List Tm} (h : ∀ t ∈ ts, TmOk t) {p : Int} (p0 : 0 ≤ p) (hp : ∀ t ∈ ts, t.n ∣ p) : -(fallsT ts * p) ≤ (ts.map fun t => t.s * t.a * (p / t.n)).sum := by
  induction ts with
  | nil => simp [fallsT]
  | cons t r ih =>
    have ok := h t List.mem_cons_self
    have n1 := ok.n1
    have ih := ih (fun t h' => h t (List.mem_cons_of_mem _ h')) (fun t h' => hp t (List.mem_cons_of_mem _ h'))
    obtain ⟨c, hc⟩ := hp t List.mem_cons_self
    have e1 : p / t.n = c := by rw [hc]; exact Int.mul_ediv_cancel_left _ (by omega)
    have c0 : 0 ≤ c := by rw [← e1]; exact Int.ediv_nonneg p0 (by omega)
    have ac : t.a * c ≤ p := by rw [hc]; exact Int.mul_le_mul_of_nonneg_right ok.an c0
    have ac0 : 0 ≤ t.a * c := Int.mul_nonneg ok.a0 c0
    rw [List.map_cons, List.sum_cons, e1]
    rcases ok.s with hs | hs
    · have : fallsT (t :: r) = fallsT r := by unfold fallsT; rw [List.filter_cons, hs]; simp
      rw [this, hs, Int.one_mul]; omega
    · have : fallsT (t :: r) = fallsT r + 1 := by unfold fallsT; rw [List.filter_cons, hs]; simp
      have e3 : t.s * t.a * c = -(t.a * c) := by rw [hs, Int.mul_assoc, Int.neg_one_mul]
      rw [this, e3, Int.add_mul, Int.one_mul]; omega
theorem over_nn {b : Int} {ts : List Tm} (h : ∀ t ∈ ts, TmOk t) {p : Int} (p0 : 0 ≤ p) (hp : ∀ t ∈ ts, t.n ∣ p) (hf : fallsT ts ≤ b) : 0 ≤ overM b ts p := by
  have g := over_lo h p0 hp
  have := Int.mul_le_mul_of_nonneg_right hf p0
  unfold overM; omega
theorem falls_bd (ts : List Tm) : 0 ≤ fallsT ts ∧ fallsT ts ≤ ts.length := by
  unfold fallsT
  have := List.length_filter_le (fun t : Tm => decide (t.s = -1)) ts
  omega
theorem rise_lo {ts : List Tm} (h : ∀ t ∈ ts, TmOk t) (k : Int) : -(fallsT ts) ≤ riseT ts k ∧ riseT ts k ≤ ts.length := by
  induction ts with
  | nil => exact ⟨Int.le_refl 0, Int.le_refl 0⟩
  | cons t r ih =>
    have ok := h t List.mem_cons_self
    have ih := ih (fun t h' => h t (List.mem_cons_of_mem _ h'))
    have hb := riseM_bd ok k
    have e : riseT (t :: r) k = t.s * riseM t k + riseT r k := by unfold riseT; rw [List.map_cons, List.sum_cons]
    rw [e, List.length_cons]
    rcases ok.s with hs | hs
    · have : fallsT (t :: r) = fallsT r := by unfold fallsT; rw [List.filter_cons, hs]; simp
      rw [this, hs, Int.one_mul]; omega
    · have : fallsT (t :: r) = fallsT r + 1 := by unfold fallsT; rw [List.filter_cons, hs]; simp
      rw [this, hs, Int.neg_one_mul]; omega
theorem sm_divp4 {i j : Int} {n : Nat} (h : 0 < j) (hs : Sm n i) (hn : n ≤ 4000) : CDivP i j := divp_ok h (by
  have := PyProof.Rows.intBits_le hs.h
  omega)
theorem over_hi {ts : List Tm} (h : ∀ t ∈ ts, TmOk t) {p : Int} (p0 : 0 ≤ p) (hp : ∀ t ∈ ts, t.n ∣ p) : (ts.map fun t => t.s * t.a * (p / t.n)).sum ≤ (ts.length : Int) * p := by
  induction ts with
  | nil => simp
  | cons t r ih =>
    have ok := h t List.mem_cons_self
    have n1 := ok.n1
    have ih := ih (fun t h' => h t (List.mem_cons_of_mem _ h')) (fun t h' => hp t (List.mem_cons_of_mem _ h'))
    obtain ⟨c, hc⟩ := hp t List.mem_cons_self
    have e1 : p / t.n = c := by rw [hc]; exact Int.mul_ediv_cancel_left _ (by omega)
    have c0 : 0 ≤ c := by rw [← e1]; exact Int.ediv_nonneg p0 (by omega)
    have ac : t.a * c ≤ p := by rw [hc]; exact Int.mul_le_mul_of_nonneg_right ok.an c0
    have ac0 : 0 ≤ t.a * c := Int.mul_nonneg ok.a0 c0
    rw [List.map_cons, List.sum_cons, e1, List.length_cons, Int.natCast_add, Int.add_mul]
    rcases ok.s with hs | hs
    · rw [hs, Int.one_mul]; omega
    · have e3 : t.s * t.a * c = -(t.a * c) := by rw [hs, Int.mul_assoc, Int.neg_one_mul]
      rw [e3]; omega
theorem over_mul {b : Int} {ts : List Tm} (h : ∀ t ∈ ts, TmOk t) {p : Int} (hp : ∀ t ∈ ts, t.n ∣ p) (r : Int) : overM b ts (r * p) = r * overM b ts p := by
  have key : (ts.map fun t => t.s * t.a * (r * p / t.n)).sum = r * (ts.map fun t => t.s * t.a * (p / t.n)).sum := by
    induction ts with
    | nil => simp
    | cons t l ih =>
      have ok := h t List.mem_cons_self
      have n1 := ok.n1
      have ih := ih (fun t h' => h t (List.mem_cons_of_mem _ h')) (fun t h' => hp t (List.mem_cons_of_mem _ h'))
      obtain ⟨c, hc⟩ := hp t List.mem_cons_self
      have e1 : p / t.n = c := by rw [hc]; exact Int.mul_ediv_cancel_left _ (by omega)
      have e2 : r * p / t.n = r * c := by rw [hc, show r * (t.n * c) = t.n * (r * c) by rw [← Int.mul_assoc, Int.mul_comm r, Int.mul_assoc]]; exact Int.mul_ediv_cancel_left _ (by omega)
      rw [List.map_cons, List.sum_cons, List.map_cons, List.sum_cons, ih, e1, e2, Int.mul_add]
      congr 1
      rw [← Int.mul_assoc, ← Int.mul_assoc, Int.mul_comm (t.s * t.a) r]
  unfold overM
  rw [key, Int.mul_add]
  congr 1
  rw [← Int.mul_assoc, ← Int.mul_assoc, Int.mul_comm b r]
theorem upto_rounds {b : Int} {ts : List Tm} (h : ∀ t ∈ ts, TmOk t) {p : Int} (hp : ∀ t ∈ ts, t.n ∣ p) (r k : Int) : uptoM b ts (r * p + k) = r * uptoM b ts p + uptoM b ts k := by
  rw [Int.add_comm, upto_over h (fun t ht => Int.dvd_trans (hp t ht) (Int.dvd_mul_left r p)), over_mul h hp, over_upto h hp, Int.add_comm]
theorem upto_next (b : Int) (ts : List Tm) (k : Int) : uptoM b ts (k + 1) = uptoM b ts k + atM b ts k := by
  unfold uptoM atM; rw [sumT_next, Int.mul_add]; omega
theorem at_nn {b : Int} {ts : List Tm} (h : ∀ t ∈ ts, TmOk t) (hf : fallsT ts ≤ b) (k : Int) : 0 ≤ atM b ts k := by
  have := rise_lo h k
  unfold atM; omega
theorem upto_add {b : Int} {ts : List Tm} (h : ∀ t ∈ ts, TmOk t) (hf : fallsT ts ≤ b) (k : Int) (n : Nat) : uptoM b ts k ≤ uptoM b ts (k + n) := by
  induction n with
  | zero => simp
  | succ n ih =>
    have e := upto_next b ts (k + n)
    have g := at_nn h hf (k + n)
    rw [show k + ((n + 1 : Nat) : Int) = k + n + 1 by omega]; omega
theorem upto_le {b : Int} {ts : List Tm} (h : ∀ t ∈ ts, TmOk t) (hf : fallsT ts ≤ b) {i j : Int} (hij : i ≤ j) : uptoM b ts i ≤ uptoM b ts j := by
  have := upto_add h hf i (j - i).toNat
  rw [show i + ((j - i).toNat : Int) = j by omega] at this
  exact this
theorem upto_zero {b : Int} {ts : List Tm} (h : ∀ t ∈ ts, TmOk t) : uptoM b ts 0 = 0 := by unfold uptoM; rw [sumT_zero h]; omega
/-- there is but one number in whose length a total lies -/
theorem seek_uniq {b : Int} {ts : List Tm} (h : ∀ t ∈ ts, TmOk t) (hf : fallsT ts ≤ b) {x z z' : Int} (h1 : uptoM b ts z ≤ x) (h2 : x < uptoM b ts (z + 1)) (h3 : uptoM b ts z' ≤ x) (h4 : x < uptoM b ts (z' + 1)) : z = z' := by
  by_cases c : z < z'
  · have := upto_le h hf (show z + 1 ≤ z' by omega); omega
  by_cases c' : z' < z
  · have := upto_le h hf (show z' + 1 ≤ z by omega); omega
  omega
theorem per_dvd {b : Int} {ts : List Tm} (ok : MeasOk b ts) : ∀ t ∈ ts, t.n ∣ perT ts := fun t ht => dvd_per ok.ok ht
theorem per_bd {b : Int} {ts : List Tm} (ok : MeasOk b ts) : 1 ≤ perT ts ∧ perT ts ≤ 1000000000000000000 := by
  have := perT_bd ok.ok ok.len ts.length
  rw [List.take_of_length_le (Nat.le_refl _)] at this
  exact this
theorem per_upto {b : Int} {ts : List Tm} (ok : MeasOk b ts) : 1 ≤ uptoM b ts (perT ts) ∧ uptoM b ts (perT ts) ≤ 100000000000000000000000 := by
  refine ⟨ok.pos, ?_⟩
  obtain ⟨p1, p2⟩ := per_bd ok
  rw [← over_upto ok.ok (per_dvd ok)]
  have hi := over_hi ok.ok (show 0 ≤ perT ts by omega) (per_dvd ok)
  have hl := ok.len
  have b0 := ok.b0
  have b1 := ok.b1
  unfold overM
  have m1 : b * perT ts ≤ 20000 * 1000000000000000000 := Int.le_trans (Int.mul_le_mul_of_nonneg_right b1 (by omega)) (by omega)
  have m2 : (ts.length : Int) * perT ts ≤ 6 * 1000000000000000000 := Int.le_trans (Int.mul_le_mul_of_nonneg_right (show (ts.length : Int) ≤ 6 by omega) (by omega)) (by omega)
  omega
theorem filt_range (p : Tm → Bool) (ts : List Tm) : ((List.range ts.length).filter fun i => (ts[i]?.map p).getD false).length = (ts.filter p).length := by
  have key : ∀ n, n ≤ ts.length → ((List.range n).filter fun i => (ts[i]?.map p).getD false).length = ((ts.take n).filter p).length := by
    intro n
    induction n with
    | zero => intro _; rfl
    | succ n ih =>
      intro hn
      have ht := List.getElem?_eq_getElem (show n < ts.length by omega)
      rw [List.range_succ, List.filter_append, List.length_append, ih (by omega), List.take_succ, ht, List.filter_append, List.length_append]
      congr 1
      by_cases h : p (ts[n]'(by omega)) = true
      · simp [ht, h]
      · simp [ht, h]
  rw [key _ (Nat.le_refl _), List.take_of_length_le (Nat.le_refl _)]
def isRise (t : Tm) : Bool := decide (t.s = 1) && decide (0 < t.a)
def risesT (ts : List Tm) : Int := ((ts.filter isRise).length : Nat)
theorem over_lo1 {ts : List Tm} (h : ∀ t ∈ ts, TmOk t) {p : Int} (p0 : 1 ≤ p) (hp : ∀ t ∈ ts, t.n ∣ p) : -(fallsT ts * p) + risesT ts ≤ (ts.map fun t => t.s * t.a * (p / t.n)).sum := by
  induction ts with
  | nil => simp [fallsT, risesT]
  | cons t r ih =>
    have ok := h t List.mem_cons_self
    have n1 := ok.n1
    have ih := ih (fun t h' => h t (List.mem_cons_of_mem _ h')) (fun t h' => hp t (List.mem_cons_of_mem _ h'))
    obtain ⟨c, hc⟩ := hp t List.mem_cons_self
    have e1 : p / t.n = c := by rw [hc]; exact Int.mul_ediv_cancel_left _ (by omega)
    have c0 : 0 ≤ c := by rw [← e1]; exact Int.ediv_nonneg (by omega) (by omega)
    have c1 : 1 ≤ c := by
      by_cases z : c = 0
      · rw [z, Int.mul_zero] at hc; omega
      · omega
    have ac : t.a * c ≤ p := by rw [hc]; exact Int.mul_le_mul_of_nonneg_right ok.an c0
    have ac0 : 0 ≤ t.a * c := Int.mul_nonneg ok.a0 c0
    have ac1 : 0 < t.a → 1 ≤ t.a * c := fun h => by have := Int.mul_le_mul (show 1 ≤ t.a by omega) c1 (by omega) (by omega); omega
    rw [List.map_cons, List.sum_cons, e1]
    rcases ok.s with hs | hs
    · have : fallsT (t :: r) = fallsT r := by unfold fallsT; rw [List.filter_cons, hs]; simp
      have e2 : risesT (t :: r) = risesT r + if 0 < t.a then 1 else 0 := by
        unfold risesT isRise; rw [List.filter_cons, hs]
        by_cases ha : 0 < t.a
        · simp [ha]
        · simp [ha]
      rw [this, hs, Int.one_mul, e2]
      split
      · rename_i ha; have := ac1 ha; omega
      · omega
    · have : fallsT (t :: r) = fallsT r + 1 := by unfold fallsT; rw [List.filter_cons, hs]; simp
      have e2 : risesT (t :: r) = risesT r := by unfold risesT isRise; rw [List.filter_cons, hs]; simp
      have e3 : t.s * t.a * c = -(t.a * c) := by rw [hs, Int.mul_assoc, Int.neg_one_mul]
      rw [this, e3, e2, Int.add_mul, Int.one_mul]; omega
/-- the base is more than as many as fall, or something rises -/
theorem measOk_of {b : Int} {ts : List Tm} (h : ∀ t ∈ ts, TmOk t) (hl : ts.length ≤ 6) (b1 : b ≤ 20000) (hf : fallsT ts ≤ b) (hr : fallsT ts < b ∨ 1 ≤ risesT ts) : MeasOk b ts := by
  have f0 : 0 ≤ fallsT ts := by unfold fallsT; omega
  have r0 : 0 ≤ risesT ts := by unfold risesT; omega
  obtain ⟨p1, p2⟩ := perT_bd h hl ts.length
  rw [List.take_of_length_le (Nat.le_refl _)] at p1 p2
  have dv : ∀ t ∈ ts, t.n ∣ perT ts := fun t ht => dvd_per h ht
  refine ⟨by omega, b1, hl, h, hf, ?_⟩
  rw [← over_upto h dv]
  have lo := over_lo1 h p1 dv
  unfold overM
  rcases hr with hr | hr
  · have := Int.mul_le_mul_of_nonneg_right (show fallsT ts + 1 ≤ b by omega) (show 0 ≤ perT ts by omega)
    rw [Int.add_mul, Int.one_mul] at this; omega
  · have := Int.mul_le_mul_of_nonneg_right hf (show 0 ≤ perT ts by omega)
    omega
theorem sumT_abs {ts : List Tm} (h : ∀ t ∈ ts, TmOk t) (k : Int) : (sumT ts k).natAbs ≤ ts.length * k.natAbs := by
  induction ts with
  | nil => simp [sumT]
  | cons t r ih =>
    have ok := h t List.mem_cons_self
    have ih := ih (fun t h' => h t (List.mem_cons_of_mem _ h'))
    have n1 := ok.n1
    have b0 := ok.b0
    have bn := ok.bn
    have e : sumT (t :: r) k = t.s * ((t.a * k + t.b) / t.n) + sumT r k := by unfold sumT; rw [List.map_cons, List.sum_cons]
    have key : ((t.a * k + t.b) / t.n).natAbs ≤ k.natAbs := by
      by_cases hk : 0 ≤ k
      · have u := Int.mul_le_mul_of_nonneg_right ok.an hk
        have l := Int.mul_nonneg ok.a0 hk
        have g1 := Int.ediv_nonneg (show 0 ≤ t.a * k + t.b by omega) (show 0 ≤ t.n by omega)
        have g2 : (t.a * k + t.b) / t.n < k + 1 := Int.ediv_lt_of_lt_mul (by omega) (by rw [Int.add_mul, Int.one_mul, Int.mul_comm k]; omega)
        omega
      · have u := Int.mul_le_mul_of_nonneg_right ok.an (show 0 ≤ -k by omega)
        have l := Int.mul_nonneg ok.a0 (show 0 ≤ -k by omega)
        rw [Int.mul_neg, Int.mul_neg] at u
        rw [Int.mul_neg] at l
        have g1 : k ≤ (t.a * k + t.b) / t.n := Int.le_ediv_of_mul_le (by omega) (by rw [Int.mul_comm k]; omega)
        have g2 : (t.a * k + t.b) / t.n < 1 := Int.ediv_lt_of_lt_mul (by omega) (by omega)
        omega
    rw [e, List.length_cons, Nat.add_mul, Nat.one_mul]
    have a1 := Int.natAbs_add_le (t.s * ((t.a * k + t.b) / t.n)) (sumT r k)
    have a2 : (t.s * ((t.a * k + t.b) / t.n)).natAbs = ((t.a * k + t.b) / t.n).natAbs := by
      rw [Int.natAbs_mul]
      rcases ok.s with hs | hs
      · rw [hs]; simp
      · rw [hs]; simp
    omega
theorem upto_sm {b : Int} {ts : List Tm} (ok : MeasOk b ts) {n : Nat} {k : Int} (h : Sm n k) : Sm (n + 15) (uptoM b ts k) := by
  have a := sumT_abs ok.ok k
  have l := ok.len
  have b0 := ok.b0
  have b1 := ok.b1
  have m : ts.length * k.natAbs ≤ 6 * k.natAbs := Nat.mul_le_mul_right _ l
  have m2 : (b * k).natAbs ≤ 20000 * k.natAbs := by rw [Int.natAbs_mul]; exact Nat.mul_le_mul_right _ (by omega)
  have a1 := Int.natAbs_add_le (b * k) (sumT ts k)
  refine ⟨?_⟩
  have hk := h.h
  rw [Nat.pow_add]
  unfold uptoM
  have : (2 : Nat) ^ 15 = 32768 := by decide
  rw [this]
  omega
theorem rises_bd (ts : List Tm) : 0 ≤ risesT ts ∧ risesT ts ≤ ts.length := by
  unfold risesT
  have := List.length_filter_le isRise ts
  omega

end

section
open NdefX LamX
/-! ### rows of terms: cut, joined, made one by one; what makes a measure -/
theorem TmsAt.drop {K : PySem.W.Frag} {H : Hp} {qs : List Addr} {ts : List Tm} (h : TmsAt K H qs ts) (n : Nat) : TmsAt K H (qs.drop n) (ts.drop n) := by
  refine ⟨by rw [List.length_drop, List.length_drop, h.1], fun i q t a b => ?_⟩
  rw [List.getElem?_drop] at a b
  exact h.2 _ q t a b
theorem TmsAt.take {K : PySem.W.Frag} {H : Hp} {qs : List Addr} {ts : List Tm} (h : TmsAt K H qs ts) (n : Nat) : TmsAt K H (qs.take n) (ts.take n) := by
  refine ⟨by rw [List.length_take, List.length_take, h.1], fun i q t a b => ?_⟩
  rw [List.getElem?_take] at a b
  split at a
  · rename_i hi
    rw [if_pos hi] at b
    exact h.2 _ q t a b
  · cases a
theorem TmsAt.app {K : PySem.W.Frag} {H : Hp} {qs qs' : List Addr} {ts ts' : List Tm} (h : TmsAt K H qs ts) (h' : TmsAt K H qs' ts') : TmsAt K H (qs ++ qs') (ts ++ ts') := by
  refine ⟨by rw [List.length_append, List.length_append, h.1, h'.1], fun i q t a b => ?_⟩
  have hl := h.1
  by_cases hi : i < qs.length
  · rw [List.getElem?_append_left hi] at a
    rw [List.getElem?_append_left (by omega)] at b
    exact h.2 i q t a b
  · rw [List.getElem?_append_right (by omega)] at a
    rw [List.getElem?_append_right (by omega), ← hl] at b
    exact h'.2 _ q t a b
theorem cut_tms {K : PySem.W.Frag} {H : Hp} {qs : List Addr} {ts : List Tm} (h : TmsAt K H qs ts) (lo hi : Option Int) : ∃ (qs' : List Addr) (ts' : List Tm), cutV (qs.map V.ref) lo hi = qs'.map V.ref ∧ TmsAt K H qs' ts' ∧ ts'.length ≤ ts.length ∧ ∀ t ∈ ts', t ∈ ts := by
  refine ⟨(qs.drop (HT.sIx (qs.map V.ref).length 0 lo)).take (HT.sIx (qs.map V.ref).length (qs.map V.ref).length hi - HT.sIx (qs.map V.ref).length 0 lo), _, ?_, (h.drop _).take _, ?_, fun t ht => List.mem_of_mem_drop (List.mem_of_mem_take ht)⟩
  · unfold cutV; rw [List.map_take, List.map_drop]
  · rw [List.length_take, List.length_drop]; omega
theorem cut_to_len {K : PySem.W.Frag} {H : Hp} {qs : List Addr} {ts : List Tm} {qs' : List Addr} {ts' : List Tm} {k : Nat} (h' : TmsAt K H qs' ts') (e : cutV (qs.map V.ref) none (some (k : Int)) = qs'.map V.ref) : ts'.length ≤ k := by
  have := cutV_to (qs.map V.ref) k
  rw [e, List.length_map, h'.1] at this
  exact this
theorem cut_from_len {K : PySem.W.Frag} {H : Hp} {qs : List Addr} {qs' : List Addr} {ts' : List Tm} {lo : Option Int} {k : Nat} (h' : TmsAt K H qs' ts') (e : cutV (qs.map V.ref) lo (some (k : Int)) = qs'.map V.ref) : ts'.length ≤ k := by
  have e2 := congrArg List.length e
  unfold cutV at e2
  simp only [List.length_take, List.length_map, List.length_drop, HT.sIx_nat, h'.1] at e2
  omega
/-- [e for s, a, b, n in terms], e told by what holds of the values so far -/
theorem k_lclTP {K : PySem.W.Frag} {te : TE} {σ : L2.St} {H1 : Hp} {Q : VK} {a : Addr} {qs : List Addr} {ts : List Tm} {j1 j2 j3 j4 : Nat} (hx : SqL K H1 a (qs.map V.ref)) (hq : TmsAt K H1 qs ts) (P : Nat → List V → Hp → Prop) (hz : ts.length ≤ 1000000) (h0 : ∀ D, H1 D = none → P 0 [] (upd H1 D (.lst [])))
    (hw : ∀ w x y z : V, wipe (((((wipe σ [j1, j2, j3, j4]).set j1 (some w)).set j2 (some x)).set j3 (some y)).set j4 (some z)) [j1, j2, j3, j4] = wipe σ [j1, j2, j3, j4])
    (hs : ∀ (i : Nat) (t : Tm) (acc : List V) (D : Addr) (H2 : Hp) (R : VK), ts[i]? = some t → Same H1 H2 → H2 D = some (.lst acc) → P i acc H2 → (∀ y H3, Same H2 H3 → P (i + 1) (acc ++ [y]) (upd H3 D (.lst (acc ++ [y]))) → R y H3) → te (((((wipe σ [j1, j2, j3, j4]).set j1 (some (.int t.s))).set j2 (some (.int t.a))).set j3 (some (.int t.b))).set j4 (some (.int t.n))) H2 R)
    (q : ∀ D H2 acc, H1 D = none → Same H1 H2 → H2 D = some (.lst acc) → acc.length = ts.length → P ts.length acc H2 → Q (.ref D) H2) : LcG (Itl K a) H1 (gTup K 4 (gCons (gName j1) (gCons (gName j2) (gCons (gName j3) (gCons (gName j4) gNil))))) tYes te [j1, j2, j3, j4] σ Q := by
  have hlq := hq.1
  intro D hD
  refine lc_list (xs := qs.map V.ref) (fun i H' => ∃ acc, Same H1 H' ∧ H' D = some (.lst acc) ∧ acc.length = i ∧ P i acc H') ⟨[], same_new hD, upd_same, rfl, h0 D hD⟩ (fun i H' _ ⟨acc, sm, _⟩ => same_l sm hx) (fun i x H' hi ⟨acc, sm, hd, hl, hp0⟩ => ?_) (fun H' ⟨acc, sm, hd, hl, hp0⟩ => q D H' acc hD sm hd (by rw [hl, List.length_map, hlq]) (by rw [List.length_map, hlq] at hp0; exact hp0))
  rw [List.getElem?_map] at hi
  obtain ⟨p, hp, rfl⟩ := Option.map_eq_some_iff.mp hi
  have hil : i < ts.length := by
    have := (List.getElem?_eq_some_iff.mp hp).1
    omega
  have ht := List.getElem?_eq_getElem hil
  have htq : SqT K H' p [.int (ts[i]'hil).s, .int (ts[i]'hil).a, .int (ts[i]'hil).b, .int (ts[i]'hil).n] := same_t sm (hq.2 i p _ hp ht)
  refine k_gtup htq rfl ?_
  refine k_gcons (k_gcons (k_gcons (k_gcons ?_)))
  show ([] : List V) = [] ∧ _
  refine ⟨rfl, ?_⟩
  refine ⟨hw _ _ _ _, ?_⟩
  refine hs i _ acc D H' _ ht sm hd hp0 fun y H3 s3 hp3 => ?_
  exact ⟨acc, s3 _ _ hd, Nat.lt_of_le_of_lt (show acc.length ≤ 1000000 by omega) (by rw [sizeLine_eq]; decide), _, same_mut (sm.trans s3) hD, upd_same, by rw [List.length_append, hl]; rfl, hp3⟩
def IsMeas (b : Int) (ts : List Tm) : Prop := 0 ≤ b ∧ b ≤ 20000 ∧ ts.length ≤ 6 ∧ (∀ t ∈ ts, TmOk t) ∧ fallsT ts ≤ b
def Mov (t : Tm) : Prop := (t.s = 1 ∧ 0 < t.a) ∨ (t.s = -1 ∧ t.a < t.n)
theorem over_mov {ts : List Tm} (h : ∀ t ∈ ts, TmOk t) {p : Int} (p0 : 1 ≤ p) (hp : ∀ t ∈ ts, t.n ∣ p) : -(fallsT ts * p) ≤ (ts.map fun t => t.s * t.a * (p / t.n)).sum ∧ ((∃ t ∈ ts, Mov t) → -(fallsT ts * p) + 1 ≤ (ts.map fun t => t.s * t.a * (p / t.n)).sum) ∧ ((¬ ∃ t ∈ ts, Mov t) → -(fallsT ts * p) = (ts.map fun t => t.s * t.a * (p / t.n)).sum) := by
  induction ts with
  | nil => simp [fallsT]
  | cons t r ih =>
    have ok := h t List.mem_cons_self
    have n1 := ok.n1
    obtain ⟨i1, i2, i3⟩ := ih (fun t h' => h t (List.mem_cons_of_mem _ h')) (fun t h' => hp t (List.mem_cons_of_mem _ h'))
    obtain ⟨c, hc⟩ := hp t List.mem_cons_self
    have e1 : p / t.n = c := by rw [hc]; exact Int.mul_ediv_cancel_left _ (by omega)
    have c0 : 0 ≤ c := by rw [← e1]; exact Int.ediv_nonneg (by omega) (by omega)
    have c1 : 1 ≤ c := by
      by_cases z : c = 0
      · rw [z, Int.mul_zero] at hc; omega
      · omega
    have ac : t.a * c ≤ p := by rw [hc]; exact Int.mul_le_mul_of_nonneg_right ok.an c0
    have ac0 : 0 ≤ t.a * c := Int.mul_nonneg ok.a0 c0
    have ac1 : 0 < t.a → 1 ≤ t.a * c := fun h => by have := Int.mul_le_mul (show 1 ≤ t.a by omega) c1 (by omega) (by omega); omega
    have ac2 : t.a < t.n → t.a * c + 1 ≤ p := fun h => by
      have := Int.mul_le_mul_of_nonneg_right (show t.a + 1 ≤ t.n by omega) c0
      rw [Int.add_mul, Int.one_mul, ← hc] at this; omega
    rw [List.map_cons, List.sum_cons, e1]
    generalize (r.map fun t => t.s * t.a * (p / t.n)).sum = S at *
    have ex : (∃ t' ∈ t :: r, Mov t') ↔ (Mov t ∨ ∃ t' ∈ r, Mov t') := by simp
    rw [ex]
    rcases ok.s with hs | hs
    · have : fallsT (t :: r) = fallsT r := by unfold fallsT; rw [List.filter_cons, hs]; simp
      rw [this, hs, Int.one_mul]
      have em : Mov t ↔ 0 < t.a := by unfold Mov; omega
      refine ⟨by omega, fun hm => ?_, fun hm => ?_⟩
      · rcases hm with hm | hm
        · have := ac1 (em.mp hm); omega
        · have := i2 hm; omega
      · have h1 : ¬ 0 < t.a := fun z => hm (.inl (em.mpr z))
        have h2 := i3 (fun z => hm (.inr z))
        have h3 := ok.a0
        have : t.a = 0 := by omega
        rw [this]; omega
    · have : fallsT (t :: r) = fallsT r + 1 := by unfold fallsT; rw [List.filter_cons, hs]; simp
      have e3 : t.s * t.a * c = -(t.a * c) := by rw [hs, Int.mul_assoc, Int.neg_one_mul]
      rw [this, e3, Int.add_mul, Int.one_mul]
      have em : Mov t ↔ t.a < t.n := by unfold Mov; omega
      refine ⟨by omega, fun hm => ?_, fun hm => ?_⟩
      · rcases hm with hm | hm
        · have := ac2 (em.mp hm); omega
        · have := i2 hm; omega
      · have h1 : ¬ t.a < t.n := fun z => hm (.inl (em.mpr z))
        have h2 := i3 (fun z => hm (.inr z))
        have h3 := ok.an
        have : t.a = t.n := by omega
        rw [this, ← hc]; omega
theorem isMeas_iff {b : Int} {ts : List Tm} (h : IsMeas b ts) : 1 ≤ uptoM b ts (perT ts) ↔ (fallsT ts < b ∨ ∃ t ∈ ts, Mov t) := by
  obtain ⟨b0, b1, hl, ok, hf⟩ := h
  obtain ⟨p1, p2⟩ := perT_bd ok hl ts.length
  rw [List.take_of_length_le (Nat.le_refl _)] at p1 p2
  have dv : ∀ t ∈ ts, t.n ∣ perT ts := fun t ht => dvd_per ok ht
  rw [← over_upto ok dv]
  obtain ⟨i1, i2, i3⟩ := over_mov ok p1 dv
  unfold overM
  have m1 := Int.mul_le_mul_of_nonneg_right hf (show 0 ≤ perT ts by omega)
  constructor
  · intro h
    by_cases z : ∃ t ∈ ts, Mov t
    · exact .inr z
    · have := i3 z
      by_cases y : fallsT ts < b
      · exact .inl y
      · have : b = fallsT ts := by omega
        rw [this] at h; omega
  · rintro (h | h)
    · have := Int.mul_le_mul_of_nonneg_right (show fallsT ts + 1 ≤ b by omega) (show 0 ≤ perT ts by omega)
      rw [Int.add_mul, Int.one_mul] at this; omega
    · have := i2 h; omega
theorem measOk_iff {b : Int} {ts : List Tm} : MeasOk b ts ↔ IsMeas b ts ∧ 1 ≤ uptoM b ts (perT ts) :=
  ⟨fun h => ⟨⟨h.b0, h.b1, h.len, h.ok, h.falls⟩, h.pos⟩, fun ⟨⟨a, b, c, d, e⟩, f⟩ => ⟨a, b, c, d, e, f⟩⟩
/-! rows picked by a test -/
theorem filtR_rows {α : Type} (ts : List α) (P : α → Bool) (d : α) : ((List.range ts.length).filter fun i => (ts[i]?.map P).getD false).map (fun i => ts.getD i d) = ts.filter P := by
  have key : ∀ n, n ≤ ts.length → ((List.range n).filter fun i => (ts[i]?.map P).getD false).map (fun i => ts.getD i d) = (ts.take n).filter P := by
    intro n
    induction n with
    | zero => intro _; rfl
    | succ n ih =>
      intro hn
      have ht := List.getElem?_eq_getElem (show n < ts.length by omega)
      rw [List.range_succ, List.filter_append, List.map_append, ih (by omega), List.take_succ, ht, List.filter_append]
      congr 1
      by_cases h : P (ts[n]'(by omega)) = true
      · simp [ht, h, List.getD_eq_getElem?_getD]
      · simp [ht, h]
  rw [key _ (Nat.le_refl _), List.take_of_length_le (Nat.le_refl _)]
/-- [t for t in terms if ..] -/
theorem k_lfilt {K : PySem.W.Frag} {σ : L2.St} {H1 : Hp} {Q : VK} {a : Addr} {qs : List Addr} {ts : List Tm} {j : Nat} {tt : TT} (hS : SqL K H1 a (qs.map V.ref)) (hq : TmsAt K H1 qs ts) (P : Tm → Bool) (hz : ts.length ≤ 1000) (hj : j < σ.length)
    (ht : ∀ (p : Addr) (t : Tm) (H2 : Hp) (R : Bool → Hp → Prop), SqT K H2 p [.int t.s, .int t.a, .int t.b, .int t.n] → R (P t) H2 → tt (σ.set j (some (.ref p))) H2 R)
    (q : ∀ (D : Addr) (H2 : Hp) (qs' : List Addr) (ts' : List Tm), H1 D = none → Same H1 H2 → H2 D = some (.lst (qs'.map V.ref)) → TmsAt K H2 qs' ts' → ts' = ts.filter P → Q (.ref D) H2) : LcG (Itl K a) H1 (gName j) tt (tVar j) [j] σ Q := by
  have hlq := hq.1
  have hget : ∀ i, i < (qs.map V.ref).length → ∃ (p : Addr) (t : Tm), (qs.map V.ref).getD i .non = .ref p ∧ qs[i]? = some p ∧ ts[i]? = some t ∧ SqT K H1 p (tmV t) := fun i hi => by
    rw [List.length_map] at hi
    refine ⟨qs[i], ts[i]'(by omega), ?_, List.getElem?_eq_getElem hi, List.getElem?_eq_getElem (by omega), hq.2 i _ _ (List.getElem?_eq_getElem hi) (List.getElem?_eq_getElem (by omega))⟩
    rw [List.getD_eq_getElem?_getD, List.getElem?_map, List.getElem?_eq_getElem hi]; rfl
  refine k_lclf hS (fun i => (ts[i]?.map P).getD false) (fun i => (qs.map V.ref).getD i .non) (by rw [List.length_map]; omega) (fun i H2 R hi s2 hR => ?_) (fun i H2 R hi _ s2 hR => ?_) (fun D H2 hD s2 hd => ?_)
  · obtain ⟨p, t, e1, _, e2, hp⟩ := hget i hi
    rw [e1]
    refine ht p t H2 R (same_t s2 hp) ?_
    have := hR H2 (Same.refl _)
    rw [e2] at this
    exact this
  · exact k_var (by rw [List.getElem?_set_self hj]) (hR _ (Same.refl _))
  · have hlen : (qs.map V.ref).length = ts.length := by rw [List.length_map, hlq]
    rw [hlen] at hd
    refine q D H2 (((List.range ts.length).filter fun i => (ts[i]?.map P).getD false).map fun i => qs.getD i 0) _ hD s2 ?_ ⟨?_, ?_⟩ (filtR_rows ts P ⟨0, 0, 0, 0⟩)
    · rw [hd, List.map_map]
      congr 2
      refine List.map_congr_left fun i hi => ?_
      have hi2 : i < qs.length := by
        have := (List.mem_filter.mp hi).1
        rw [List.mem_range] at this; omega
      show (qs.map V.ref).getD i .non = V.ref (qs.getD i 0)
      rw [List.getD_eq_getElem?_getD, List.getD_eq_getElem?_getD, List.getElem?_map, List.getElem?_eq_getElem hi2]; rfl
    · rw [List.length_map, List.length_map]
    · intro k p t h1 h2
      rw [List.getElem?_map] at h1 h2
      obtain ⟨i, hi, rfl⟩ := Option.map_eq_some_iff.mp h1
      rw [hi] at h2
      cases h2
      have hi2 : i < ts.length := by
        have := (List.mem_filter.mp (List.mem_of_getElem? hi)).1
        rwa [List.mem_range] at this
      refine same_t s2 (hq.2 i _ _ ?_ ?_)
      · show qs[i]? = some (qs.getD i 0)
        rw [List.getD_eq_getElem?_getD, List.getElem?_eq_getElem (show i < qs.length by omega)]; rfl
      · show ts[i]? = some (ts.getD i ⟨0, 0, 0, 0⟩)
        rw [List.getD_eq_getElem?_getD, List.getElem?_eq_getElem hi2]; rfl
theorem atI_allW {P : V → Prop} {l : List V} {i : Int} (h0 : 0 ≤ i) (h1 : i < l.length) (hP : ∀ z ∈ l, P z) : ∃ z, P z ∧ atI l i = some z := by
  obtain ⟨k, rfl⟩ := Int.eq_ofNat_of_zero_le h0
  have hk : k < l.length := by omega
  exact ⟨l[k], hP _ (List.getElem_mem hk), at_of rfl (List.getElem?_eq_getElem hk)⟩
theorem k_in2T {K : PySem.W.Frag} {H : Hp} {Q : VK} {a : Int} {p : Addr} {x y : Int} (h : SqT K H p [.int x, .int y]) (q : Q (.bl (decide (a = x ∨ a = y))) H) : rIn K false (.int a) (.ref p) H Q :=
  ⟨p, _, rfl, .inr h, rfl, rfl, by rw [inV2]; exact q⟩

end

section
open NdefX LamX
/-! ### what does not rest on lists that were there ahead -/
def own (H0 H : Hp) : Hp := fun a => match H a with
  | some (.lst xs) => if (H0 a).isNone = true then some (.lst xs) else none
  | r => r
theorem own_lst {H0 H : Hp} {a : Addr} {xs : List V} (h : H a = some (.lst xs)) (n : H0 a = none) : own H0 H a = some (.lst xs) := by
  unfold own; rw [h, n]; rfl
theorem own_other {H0 H : Hp} {a : Addr} {o : HO} (h : H a = some o) (n : ∀ xs, o ≠ .lst xs) : own H0 H a = some o := by
  unfold own; rw [h]
  cases o <;> first | rfl | exact absurd rfl (n _)
theorem own_ins {H0 H : Hp} {a C dx : Addr} {fs : List (Str × V)} (h : H a = some (.ins C dx fs)) : own H0 H a = some (.ins C dx fs) := own_other h fun _ z => nomatch z
theorem own_cases {H0 H : Hp} {a : Addr} {o : HO} (h : own H0 H a = some o) : H a = some o ∧ ((∃ xs, o = .lst xs) → H0 a = none) := by
  unfold own at h
  split at h
  · rename_i xs e
    split at h
    · rename_i n
      exact ⟨by rw [e]; exact h, fun _ => by simpa using n⟩
    · cases h
  · rename_i hn
    refine ⟨h, fun ⟨xs, e⟩ => ?_⟩
    subst e
    exact absurd h (hn xs)
theorem own_sub {H0 H : Hp} : Same (own H0 H) H := fun a o h => (own_cases h).1
theorem own_put {H0 H : Hp} {a : Addr} {o : HO} (h : H a = some o) (n : (∃ xs, o = .lst xs) → H0 a = none) : own H0 H a = some o := by
  by_cases hl : ∃ xs, o = .lst xs
  · obtain ⟨xs, rfl⟩ := hl
    exact own_lst h (n ⟨xs, rfl⟩)
  · exact own_other h fun xs z => hl ⟨xs, z⟩
theorem own_mono {T : List NTab} {H0 H H' : Hp} (s : SameT T H H') : SameT [] (own H0 H) (own H0 H') := by
  refine ⟨fun a o h n => ?_, fun t q hq => by simp at hq⟩
  obtain ⟨h1, h2⟩ := own_cases h
  exact own_put (s.ext _ _ h1 n) h2
theorem own_back {H0 H1 H : Hp} (s : ∀ a, H1 a = none → H0 a = none) : SameT [] (own H1 H) (own H0 H) := by
  refine ⟨fun a o h n => ?_, fun t q hq => by simp at hq⟩
  obtain ⟨h1, h2⟩ := own_cases h
  exact own_put h1 fun z => s a (h2 z)
theorem own_mut {H0 H H' : Hp} {p : Addr} {o : HO} {xs : List V} (h0 : H0 p = some o) (h : H p = some (.lst xs)) (m : ∀ a o, a ≠ p → H a = some o → H' a = some o) : SameT [] (own H0 H) (own H0 H') := by
  refine ⟨fun a u hu n => ?_, fun t q hq => by simp at hq⟩
  obtain ⟨h1, h2⟩ := own_cases hu
  by_cases z : a = p
  · subst z
    rw [h] at h1
    cases h1
    rw [h0] at h2
    exact absurd (h2 ⟨_, rfl⟩) (by simp)
  · exact own_put (m _ _ z h1) h2
theorem own_updL {H0 H : Hp} {p : Addr} {o : HO} {xs ys : List V} (h0 : H0 p = some o) (h : H p = some (.lst xs)) : SameT [] (own H0 H) (own H0 (L2.upd H p (.lst ys))) := own_mut h0 h fun a o n e => by rw [upd_ne n]; exact e
theorem own_to {H0 H : Hp} : SameT [] (own H0 H) H := ⟨fun a o h _ => own_sub a o h, fun t q hq => by simp at hq⟩
theorem sql_own {K : PySem.W.Frag} {H0 H : Hp} {l : Addr} {xs : List V} (h : SqL K H l xs) (n : H0 l = none) : SqL K (own H0 H) l xs := by
  rcases h with (h | ⟨o, h⟩) | h
  · exact .inl (.inl (own_lst h n))
  · exact .inl (.inr ⟨o, own_other h fun _ z => nomatch z⟩)
  · exact .inr h
theorem sqt_own {K : PySem.W.Frag} {H0 H : Hp} {l : Addr} {xs : List V} (h : SqT K H l xs) : SqT K (own H0 H) l xs := by
  rcases h with (h | ⟨o, h⟩) | h
  · exact .inl (.inl (own_other h fun _ z => nomatch z))
  · exact .inl (.inr ⟨o, own_other h fun _ z => nomatch z⟩)
  · exact .inr h
theorem TmsL.own {K : PySem.W.Frag} {H0 H : Hp} {l : Addr} {ts : List Tm} (h : TmsL K H l ts) (n : H0 l = none) : TmsL K (FW.own H0 H) l ts := by
  obtain ⟨qs, h1, h2, h3⟩ := h
  exact ⟨qs, sql_own h1 n, h2, fun i q t a b => sqt_own (h3 i q t a b)⟩
theorem MeasN.own {K : PySem.W.Frag} {C : Addr} {H0 H : Hp} {m : Addr} {b : Int} {ts : List Tm} (h : MeasN K C H0 H m b ts) : MeasAt K C (FW.own H0 H) m b ts := by
  obtain ⟨dx, l, h1, h0, h2⟩ := h
  exact ⟨dx, l, own_ins h1, h2.own h0⟩
/-! ### calendars of the sun -/
def sfs (st : Int) (pm : Addr) (lp : Int) (py : Addr) : List (Str × V) := [("start", .int st), ("months", .ref pm), ("leap", .int lp), ("years", .ref py)]
theorem putF_ne {f g : Str} {v w : V} {r : List (Str × V)} (h : g ≠ f) : putF f v ((g, w) :: r) = (g, w) :: putF f v r := by
  show (if g = f then _ else _) = _
  rw [if_neg h]
def sfs1 (st : Int) : List (Str × V) := [("start", .int st)]
def sfs2 (st : Int) (pm : Addr) : List (Str × V) := [("start", .int st), ("months", .ref pm)]
def sfs3 (st : Int) (pm : Addr) (lp : Int) : List (Str × V) := [("start", .int st), ("months", .ref pm), ("leap", .int lp)]
theorem sfs_p1 (st : Int) : putF "start" (.int st) [] = sfs1 st := rfl
theorem sfs_p2 (st : Int) (pm : Addr) : putF "months" (.ref pm) (sfs1 st) = sfs2 st pm := by
  unfold sfs1 sfs2; rw [putF_ne (by decide +kernel)]; rfl
theorem sfs_p3 (st : Int) (pm : Addr) (lp : Int) : putF "leap" (.int lp) (sfs2 st pm) = sfs3 st pm lp := by
  unfold sfs2 sfs3; rw [putF_ne (by decide +kernel), putF_ne (by decide +kernel)]; rfl
theorem sfs_p4 (st : Int) (pm : Addr) (lp : Int) (py : Addr) : putF "years" (.ref py) (sfs3 st pm lp) = sfs st pm lp py := by
  unfold sfs3 sfs; rw [putF_ne (by decide +kernel), putF_ne (by decide +kernel), putF_ne (by decide +kernel)]; rfl
theorem sfs_start (st : Int) (pm : Addr) (lp : Int) (py : Addr) : (sfs st pm lp py).lookup ("start" : Str) = some (.int st) := by simp [sfs, List.lookup]
theorem sfs_months (st : Int) (pm : Addr) (lp : Int) (py : Addr) : (sfs st pm lp py).lookup ("months" : Str) = some (.ref pm) := by
  have e : (("months" : Str) == "start") = false := by decide +kernel
  simp [sfs, List.lookup, e]
theorem sfs_leap (st : Int) (pm : Addr) (lp : Int) (py : Addr) : (sfs st pm lp py).lookup ("leap" : Str) = some (.int lp) := by
  have e : (("leap" : Str) == "start") = false := by decide +kernel
  have e2 : (("leap" : Str) == "months") = false := by decide +kernel
  simp [sfs, List.lookup, e, e2]
theorem sfs_years (st : Int) (pm : Addr) (lp : Int) (py : Addr) : (sfs st pm lp py).lookup ("years" : Str) = some (.ref py) := by
  have e : (("years" : Str) == "start") = false := by decide +kernel
  have e2 : (("years" : Str) == "months") = false := by decide +kernel
  have e3 : (("years" : Str) == "leap") = false := by decide +kernel
  simp [sfs, List.lookup, e, e2, e3]
theorem sfs_no (st : Int) (pm : Addr) (lp : Int) (py : Addr) {m : Str} (h1 : (m == ("start" : Str)) = false) (h2 : (m == ("months" : Str)) = false) (h3 : (m == ("leap" : Str)) = false) (h4 : (m == ("years" : Str)) = false) : (sfs st pm lp py).lookup m = none := by
  simp [sfs, List.lookup, h1, h2, h3, h4]
def SunAt (K : PySem.W.Frag) (CS CM : Addr) (H : Hp) (c : Addr) (st : Int) (ls : List Int) (lp : Int) (ts : List Tm) : Prop := ∃ dx pm py, H c = some (.ins CS dx (sfs st pm lp py)) ∧ SqL K H pm (ls.map V.int) ∧ MeasAt K CM H py ls.sum ts
theorem SunAt.mono {T : List NTab} {K : PySem.W.Frag} {CS CM : Addr} {H H' : Hp} {c : Addr} {st : Int} {ls : List Int} {lp : Int} {ts : List Tm} (s : SameT T H H') (h : SunAt K CS CM H c st ls lp ts) : SunAt K CS CM H' c st ls lp ts := by
  obtain ⟨dx, pm, py, h1, h2, h3⟩ := h
  exact ⟨dx, pm, py, s.ins h1, s.sql h2, h3.mono s⟩
structure SunOk (ls : List Int) (lp : Int) (ts : List Tm) : Prop where
  len1 : 1 ≤ ls.length
  len20 : ls.length ≤ 20
  rng : ∀ x ∈ ls, 0 ≤ x ∧ x ≤ 1000
  lp1 : 1 ≤ lp
  lp2 : lp ≤ ls.length
  fl : fallsT ts ≤ ls.getD (lp - 1).toNat 0
  fs : fallsT ts < ls.sum
  len : ts.length ≤ 6
  ok : ∀ t ∈ ts, TmOk t
theorem sum_bd {ls : List Int} {B : Int} (h : ∀ x ∈ ls, 0 ≤ x ∧ x ≤ B) : 0 ≤ ls.sum ∧ ls.sum ≤ ls.length * B := by
  induction ls with
  | nil => simp
  | cons x r ih =>
    have := h x List.mem_cons_self
    have := ih fun y hy => h y (List.mem_cons_of_mem _ hy)
    rw [List.sum_cons, List.length_cons, Int.natCast_add, Int.add_mul]
    omega
theorem SunOk.meas {ls : List Int} {lp : Int} {ts : List Tm} (h : SunOk ls lp ts) : MeasOk ls.sum ts := by
  have s := sum_bd h.rng
  have l := h.len20
  exact measOk_of h.ok h.len (by omega) (by have := h.fs; omega) (.inl h.fs)
/-- the lengths of a year's months -/
def lensS (ls : List Int) (lp : Int) (ts : List Tm) (y : Int) : List Int := ls.set (lp - 1).toNat (ls.getD (lp - 1).toNat 0 + riseT ts y)
theorem sum_set {ls : List Int} {i : Nat} (hi : i < ls.length) (d : Int) : (ls.set i (ls.getD i 0 + d)).sum = ls.sum + d := by
  induction ls generalizing i with
  | nil => simp at hi
  | cons x r ih =>
    cases i with
    | zero => simp; omega
    | succ i =>
      have := ih (i := i) (by simpa using hi)
      rw [List.set_cons_succ, List.sum_cons, List.sum_cons, List.getD_cons_succ, this]; omega
theorem lensS_sum {ls : List Int} {lp : Int} {ts : List Tm} (h : SunOk ls lp ts) (y : Int) : (lensS ls lp ts y).sum = atM ls.sum ts y := by
  have h1 := h.lp1
  have h2 := h.lp2
  unfold lensS atM
  rw [sum_set (by omega)]
theorem lensS_len (ls : List Int) (lp : Int) (ts : List Tm) (y : Int) : (lensS ls lp ts y).length = ls.length := List.length_set
theorem lensS_bd {ls : List Int} {lp : Int} {ts : List Tm} (h : SunOk ls lp ts) (y : Int) : ∀ x ∈ lensS ls lp ts y, 0 ≤ x ∧ x ≤ 1006 := by
  intro x hx
  have r := rise_lo h.ok y
  have l := h.len
  rcases List.mem_or_eq_of_mem_set hx with g | g
  · have := h.rng x g; omega
  · have h1 := h.lp1
    have h2 := h.lp2
    have hm : ls.getD (lp - 1).toNat 0 ∈ ls := by
      rw [List.getD_eq_getElem?_getD, List.getElem?_eq_getElem (by omega)]
      exact List.getElem_mem _
    have := h.rng _ hm
    have := h.fl
    omega
theorem at_one {b : Int} {ts : List Tm} (h : ∀ t ∈ ts, TmOk t) (hf : fallsT ts < b) (k : Int) : 1 ≤ atM b ts k := by
  have := rise_lo h k
  unfold atM; omega
theorem upto_lt {b : Int} {ts : List Tm} (h : ∀ t ∈ ts, TmOk t) (hf : fallsT ts < b) {i j : Int} (hij : i < j) : uptoM b ts i < uptoM b ts j := by
  have a := upto_le h (show fallsT ts ≤ b by omega) (show i + 1 ≤ j by omega)
  have e := upto_next b ts i
  have o := at_one h hf i
  omega
theorem atI_getD {ls : List Int} {i : Int} (h0 : 0 ≤ i) (h1 : i < ls.length) : atI (ls.map V.int) i = some (.int (ls.getD i.toNat 0)) := by
  obtain ⟨k, rfl⟩ := Int.eq_ofNat_of_zero_le h0
  have hk : k < ls.length := by omega
  refine at_of rfl ?_
  rw [List.getElem?_map, Int.toNat_natCast, List.getD_eq_getElem?_getD, List.getElem?_eq_getElem hk]
  rfl
theorem k_wholes {K : PySem.W.Frag} {sp : Sp} {H1 : Hp} {p : Addr} {l : List Int} {j : Nat} {σ : L2.St} {Q : VK} (hsp : ∀ {i : Int} {H : Hp} {Q : VK}, Q (.bl true) H → sp [.int i] H Q E0) (h : SqL K H1 p (l.map V.int)) (hj : j < σ.length) (hz : l.length ≤ 1000000)
    (q : ∀ D H2, H1 D = none → Same H1 H2 → H2 D = some (.lst ((l.map fun _ => true).map V.bl)) → Q (.ref D) H2) : LcG (Itl K p) H1 (gName j) tYes (tCall sp [] E0 (tCons (tVar j) tNil)) [j] σ Q := by
  refine k_lcl h ((l.map fun _ => true).map V.bl) (by simp) (by rw [List.length_map]; exact hz) (fun i y v H2 R hx hv s2 hR => ?_) q
  rw [List.getElem?_map] at hx
  obtain ⟨x, hx2, rfl⟩ := Option.map_eq_some_iff.mp hx
  rw [List.getElem?_map, List.getElem?_map, hx2] at hv
  cases hv
  refine k_call (k_cons (k_var (v := .int x) (by rw [List.getElem?_set_self hj]) (k_nil ?_)))
  exact hsp (hR _ (Same.refl _))
theorem all_true {α : Type} (l : List α) : (l.map fun _ => true).all id = true := by simp
theorem k_isi_ll {K : PySem.W.Frag} {H : Hp} {Q : VK} {p : Addr} {xs : List V} (h : H p = some (.lst xs)) (q : Q (.bl true) H) : rIsi K [.ref p, .ty "list"] H Q := ⟨.ref p, .ty "list", .type "list", .type "list", true, rfl, .ty _, .base (.lst h), kit_ty (by decide +kernel), q⟩
/-- a new list is changed -/
theorem SameT.mut {T : List NTab} {H H1 H2 : Hp} {p : Addr} {xs : List V} (s : SameT T H H1) (hp : H p = none) (e : H1 p = some (.lst xs)) (m : ∀ a o, a ≠ p → H1 a = some o → H2 a = some o) : SameT T H H2 := by
  refine ⟨fun b o h n => m _ _ (ne_of_none h hp) (s.ext b o h n), fun t q hq => ?_⟩
  obtain ⟨ps0, h0, _⟩ := t q hq
  obtain ⟨ps, h1, h2, h3⟩ := s.tab t q hq
  refine ⟨ps, m _ _ (ne_of_none h0 hp) h1, h2, fun pos cv hc => ?_⟩
  obtain ⟨c, e1, e2⟩ := h3 pos cv hc
  exact ⟨c, e1, m _ _ (fun z => by rw [z, e] at e2; cases e2) e2⟩
/-! lists of numbers and terms, compared -/
theorem ints_depth (l : List Int) : PyData.depthAll (l.map PyData.int) = 0 := by
  induction l with
  | nil => rfl
  | cons x r ih => simp [PyData.depthAll, PyData.depth, ih]
theorem ints_lay (l : List Int) : PyData.canLayAll0 (l.map PyData.int) = true := by
  induction l with
  | nil => rfl
  | cons x r ih => simp [PyData.canLayAll0, PyData.canLay0, ih]
def monD (ls : List Int) (ts : List Tm) : PyData := .list [.list (ls.map PyData.int), tmsD ts]
theorem monD_lay (ls : List Int) (ts : List Tm) : (monD ls ts).canLay0 = true := by
  have h := tmsD_lay ts
  simp [monD, PyData.canLay0, PyData.canLayAll0, ints_lay, tmsD, h]
theorem monD_shaped (ls : List Int) (ts : List Tm) : SeqAt.shaped (monD ls ts) = true := by
  have h := tmsD_depth ts
  have e : (monD ls ts).depth ≤ 64 := by
    simp only [monD, PyData.depth, PyData.depthAll, tmsD, ints_depth]; omega
  unfold SeqAt.shaped
  rw [monD_lay, decide_eq_true e]; rfl
theorem monD_eq (ls : List Int) (ts : List Tm) : PyData.eqv (monD ls ts) (monD ls ts) = true := SeqAt.eqv_refl _ (monD_lay ls ts)
theorem dp_mon {K : PySem.W.Frag} {H : Hp} {a p q : Addr} {ls : List Int} {qs : List Addr} {ts : List Tm} (h : SqL K H a [.ref p, .ref q]) (hp : SqL K H p (ls.map V.int)) (hq : SqL K H q (qs.map V.ref)) (ht : TmsAt K H qs ts) : Dp K H (.ref a) (monD ls ts) :=
  .lst h (.cons (.lst hp (dp_ints ls)) (.cons (dp_tms hq ht) .nil))
theorem lensS_none {ls : List Int} {lp lp' : Int} {ts : List Tm} (h : SunOk ls lp ts) (h' : SunOk ls lp' ts) (e : lp' = lp ∨ ts = []) (y : Int) : lensS ls lp' ts y = lensS ls lp ts y := by
  rcases e with rfl | rfl
  · rfl
  · have key : ∀ {l : Int}, SunOk ls l [] → lensS ls l [] y = ls := fun {l} h => by
      have h1 := h.lp1
      have h2 := h.lp2
      unfold lensS riseT
      rw [List.map_nil, List.sum_nil, Int.add_zero, List.getD_eq_getElem?_getD, List.getElem?_eq_getElem (show (l - 1).toNat < ls.length by omega)]
      exact List.set_getElem_self (by omega)
    rw [key h, key h']
theorem SunOk.one {ls : List Int} {lp : Int} (h : SunOk ls lp []) : SunOk ls 1 [] := by
  have h1 := h.len1
  refine ⟨h1, h.len20, h.rng, by decide, by omega, ?_, h.fs, h.len, h.ok⟩
  have hm : ls.getD ((1 : Int) - 1).toNat 0 ∈ ls := by
    rw [List.getD_eq_getElem?_getD, List.getElem?_eq_getElem (by omega)]
    exact List.getElem_mem _
  have := h.rng _ hm
  show (0 : Int) ≤ _
  omega
theorem lensS_nil {ls : List Int} {lp : Int} (h1 : 1 ≤ lp) (h2 : lp ≤ ls.length) (y : Int) : lensS ls lp [] y = ls := by
  unfold lensS riseT
  rw [List.map_nil, List.sum_nil, Int.add_zero, List.getD_eq_getElem?_getD, List.getElem?_eq_getElem (show (lp - 1).toNat < ls.length by omega)]
  exact List.set_getElem_self (by omega)
theorem lensS_get {ls : List Int} {lp : Int} (h1 : 1 ≤ lp) (h2 : lp ≤ ls.length) (ts : List Tm) (y : Int) : (lensS ls lp ts y).getD (lp - 1).toNat 0 = ls.getD (lp - 1).toNat 0 + riseT ts y := by
  unfold lensS
  rw [List.getD_eq_getElem?_getD, List.getElem?_set_self (by omega)]; rfl
theorem lensS_snoc {ls : List Int} {lp : Int} {ts : List Tm} {i : Nat} {t : Tm} (h : ts[i]? = some t) (y : Int) : (lensS ls lp (ts.take i) y).set (lp - 1).toNat (ls.getD (lp - 1).toNat 0 + riseT (ts.take i) y + t.s * riseM t y) = lensS ls lp (ts.take (i + 1)) y := by
  unfold lensS
  rw [List.set_set, riseT_snoc h, Int.add_assoc]
/-- a.clear() -/
def ClrR (K : PySem.W.Frag) (x : V) (H1 : Hp) (Q : VK) : Prop := tyV K "list" x H1 ∧ rClear x [] H1 Q
theorem k_clr {K : PySem.W.Frag} {to : TE} {σ : L2.St} {H : Hp} {Q : VK} (h : to σ H fun x H1 => ClrR K x H1 Q) : tBM0 K "list" rClear to σ H Q := h
theorem k_clrX {K : PySem.W.Frag} {p : Addr} {xs : List V} {H : Hp} {Q : VK} (h : H p = some (.lst xs)) (q : Q .non (L2.upd H p (.lst []))) : ClrR K (.ref p) H Q := ⟨.inl ⟨rfl, _, SqL.of h⟩, p, _, rfl, rfl, h, q⟩
theorem map_set {ls : List Int} {i : Nat} {x : Int} : (ls.map V.int).set i (.int x) = (ls.set i x).map V.int := by rw [List.map_set]

end

section
open NdefX LamX
/-- a field, the written part by its own letter -/
theorem pe_fldK {X : Cx} (K : PySem.W.Frag) {e : Expr} {f : Str} {ta : TE} {pos : Pos} (he : PE X e ta) (hb : attributeBase e f X.env (eval e X.env) = eval e X.env) (hK : X.K = K := by rfl) : PE X (.Attribute e f pos) (tFld K ta f) := hK ▸ pe_fld he hb
/-! ### new places, but for tables -/
def New (H : Hp) (p : Addr) : Prop := ∀ o, H p = some o → ∃ ps, o = .tbl ps
theorem New.of {H : Hp} {p : Addr} (h : H p = none) : New H p := fun o e => by rw [h] at e; cases e
theorem New.back {T : List NTab} {H H' : Hp} {p : Addr} (s : SameT T H H') (h : New H' p) : New H p := fun o e => by
  cases o with
  | tbl ps => exact ⟨ps, rfl⟩
  | _ =>
    obtain ⟨ps, z⟩ := h _ (s.ext _ _ e fun _ z => nomatch z)
    cases z
theorem New.ne {H : Hp} {p a : Addr} {o : HO} (h : New H p) (e : H a = some o) (n : ∀ ps, o ≠ .tbl ps) : a ≠ p := fun z => by
  subst z
  obtain ⟨ps, z⟩ := h _ e
  exact n _ z
theorem SameT.mutN {T : List NTab} {H H1 H2 : Hp} {p : Addr} {xs : List V} (s : SameT T H H1) (hp : New H p) (e : H1 p = some (.lst xs)) (m : ∀ a o, a ≠ p → H1 a = some o → H2 a = some o) : SameT T H H2 := by
  refine ⟨fun b o h n => m _ _ (hp.ne h n) (s.ext b o h n), fun t q hq => ?_⟩
  obtain ⟨ps, h1, h2, h3⟩ := s.tab t q hq
  refine ⟨ps, m _ _ (fun z => by rw [z, e] at h1; cases h1) h1, h2, fun pos cv hc => ?_⟩
  obtain ⟨c, e1, e2⟩ := h3 pos cv hc
  exact ⟨c, e1, m _ _ (fun z => by rw [z, e] at e2; cases e2) e2⟩
/-! ### calendars of the moon -/
def mofs1 (st : Int) : List (Str × V) := [("start", .int st)]
def mofs2 (st : Int) (pd : Addr) : List (Str × V) := [("start", .int st), ("days", .ref pd)]
def mofs (st : Int) (pd pm : Addr) : List (Str × V) := [("start", .int st), ("days", .ref pd), ("many", .ref pm)]
theorem mofs_p1 (st : Int) : putF "start" (.int st) [] = mofs1 st := rfl
theorem mofs_p2 (st : Int) (pd : Addr) : putF "days" (.ref pd) (mofs1 st) = mofs2 st pd := by
  unfold mofs1 mofs2; rw [putF_ne (by decide +kernel)]; rfl
theorem mofs_p3 (st : Int) (pd pm : Addr) : putF "many" (.ref pm) (mofs2 st pd) = mofs st pd pm := by
  unfold mofs2 mofs; rw [putF_ne (by decide +kernel), putF_ne (by decide +kernel)]; rfl
theorem mofs_start (st : Int) (pd pm : Addr) : (mofs st pd pm).lookup ("start" : Str) = some (.int st) := by simp [mofs, List.lookup]
theorem mofs_days (st : Int) (pd pm : Addr) : (mofs st pd pm).lookup ("days" : Str) = some (.ref pd) := by
  have e : (("days" : Str) == "start") = false := by decide +kernel
  simp [mofs, List.lookup, e]
theorem mofs_many (st : Int) (pd pm : Addr) : (mofs st pd pm).lookup ("many" : Str) = some (.ref pm) := by
  have e : (("many" : Str) == "start") = false := by decide +kernel
  have e2 : (("many" : Str) == "days") = false := by decide +kernel
  simp [mofs, List.lookup, e, e2]
theorem mofs_no (st : Int) (pd pm : Addr) {m : Str} (h1 : (m == ("start" : Str)) = false) (h2 : (m == ("days" : Str)) = false) (h3 : (m == ("many" : Str)) = false) : (mofs st pd pm).lookup m = none := by
  simp [mofs, List.lookup, h1, h2, h3]
def MoonAt (K : PySem.W.Frag) (CO CM : Addr) (H : Hp) (c : Addr) (st b1 : Int) (t1 : List Tm) (b2 : Int) (t2 : List Tm) : Prop := ∃ dx pd pm, H c = some (.ins CO dx (mofs st pd pm)) ∧ MeasAt K CM H pd b1 t1 ∧ MeasAt K CM H pm b2 t2
theorem MoonAt.mono {T : List NTab} {K : PySem.W.Frag} {CO CM : Addr} {H H' : Hp} {c : Addr} {st b1 b2 : Int} {t1 t2 : List Tm} (s : SameT T H H') (h : MoonAt K CO CM H c st b1 t1 b2 t2) : MoonAt K CO CM H' c st b1 t1 b2 t2 := by
  obtain ⟨dx, pd, pm, h1, h2, h3⟩ := h
  exact ⟨dx, pd, pm, s.ins h1, h2.mono s, h3.mono s⟩
structure MoonOk (b1 : Int) (t1 : List Tm) (b2 : Int) (t2 : List Tm) : Prop where
  m1 : MeasOk b1 t1
  m2 : MeasOk b2 t2
  f1 : fallsT t1 < b1
  f2 : fallsT t2 < b2
  l1 : b1 ≤ 1000
  l2 : b2 ≤ 20
/-- the lengths of a year's months -/
def lensM (b1 : Int) (t1 : List Tm) (b2 : Int) (t2 : List Tm) (y : Int) : List Int := (List.range (atM b2 t2 y).toNat).map fun (k : Nat) => atM b1 t1 (uptoM b2 t2 y + (k : Int))
theorem at_hi {b : Int} {ts : List Tm} (ok : MeasOk b ts) (k : Int) : atM b ts k ≤ b + 6 := by
  have := rise_lo ok.ok k
  have := ok.len
  unfold atM; omega
theorem lensM_len (b1 : Int) (t1 : List Tm) (b2 : Int) (t2 : List Tm) (y : Int) : (lensM b1 t1 b2 t2 y).length = (atM b2 t2 y).toNat := by simp [lensM]
theorem lensM_bd {b1 : Int} {t1 : List Tm} {b2 : Int} {t2 : List Tm} (h : MoonOk b1 t1 b2 t2) (y : Int) : ∀ x ∈ lensM b1 t1 b2 t2 y, 1 ≤ x ∧ x ≤ 1006 := by
  intro x hx
  obtain ⟨k, _, rfl⟩ := List.mem_map.mp hx
  have a := at_one h.m1.ok h.f1 (uptoM b2 t2 y + k)
  have b := at_hi h.m1 (uptoM b2 t2 y + k)
  have := h.l1
  omega
theorem sum_range_at (b : Int) (ts : List Tm) (k : Int) (n : Nat) : ((List.range n).map fun (i : Nat) => atM b ts (k + (i : Int))).sum = uptoM b ts (k + n) - uptoM b ts k := by
  induction n with
  | zero => simp
  | succ n ih =>
    have e := upto_next b ts (k + n)
    rw [List.range_succ, List.map_append, List.sum_append, ih]
    simp only [List.map_cons, List.map_nil, List.sum_cons, List.sum_nil]
    rw [show k + ((n + 1 : Nat) : Int) = k + n + 1 by omega, e]; omega
theorem lensM_sum {b1 : Int} {t1 : List Tm} {b2 : Int} {t2 : List Tm} (h : MoonOk b1 t1 b2 t2) (y : Int) : (lensM b1 t1 b2 t2 y).sum = uptoM b1 t1 (uptoM b2 t2 (y + 1)) - uptoM b1 t1 (uptoM b2 t2 y) := by
  have a := at_one h.m2.ok h.f2 y
  unfold lensM
  rw [sum_range_at, upto_next b2 t2 y, show ((atM b2 t2 y).toNat : Int) = atM b2 t2 y by omega]
theorem moon_lt {b1 : Int} {t1 : List Tm} {b2 : Int} {t2 : List Tm} (h : MoonOk b1 t1 b2 t2) {i j : Int} (hij : i < j) : uptoM b1 t1 (uptoM b2 t2 i) < uptoM b1 t1 (uptoM b2 t2 j) := upto_lt h.m1.ok h.f1 (upto_lt h.m2.ok h.f2 hij)
theorem moon_le {b1 : Int} {t1 : List Tm} {b2 : Int} {t2 : List Tm} (h : MoonOk b1 t1 b2 t2) {i j : Int} (hij : i ≤ j) : uptoM b1 t1 (uptoM b2 t2 i) ≤ uptoM b1 t1 (uptoM b2 t2 j) := upto_le h.m1.ok h.m1.falls (upto_le h.m2.ok h.m2.falls hij)
theorem moon_uniq {b1 : Int} {t1 : List Tm} {b2 : Int} {t2 : List Tm} (h : MoonOk b1 t1 b2 t2) {x z z' : Int} (h1 : uptoM b1 t1 (uptoM b2 t2 z) ≤ x) (h2 : x < uptoM b1 t1 (uptoM b2 t2 (z + 1))) (h3 : uptoM b1 t1 (uptoM b2 t2 z') ≤ x) (h4 : x < uptoM b1 t1 (uptoM b2 t2 (z' + 1))) : z = z' := by
  by_cases c : z < z'
  · have := moon_le h (show z + 1 ≤ z' by omega); omega
  by_cases c' : z' < z
  · have := moon_le h (show z' + 1 ≤ z by omega); omega
  omega

end

section
open NdefX LamX
/-! ### calendars of both kinds -/
inductive Cal where
  | sun (st : Int) (ls : List Int) (lp : Int) (ts : List Tm)
  | moon (st b1 : Int) (t1 : List Tm) (b2 : Int) (t2 : List Tm)
def Cal.st : Cal → Int
  | .sun st _ _ _ => st
  | .moon st _ _ _ _ => st
def Cal.start : Cal → Int → Int
  | .sun st ls _ ts, y => st + uptoM ls.sum ts y
  | .moon st b1 t1 b2 t2, y => st + uptoM b1 t1 (uptoM b2 t2 y)
def Cal.lens : Cal → Int → List Int
  | .sun _ ls lp ts, y => lensS ls lp ts y
  | .moon _ b1 t1 b2 t2, y => lensM b1 t1 b2 t2 y
def Cal.Ok : Cal → Prop
  | .sun _ ls lp ts => SunOk ls lp ts
  | .moon _ b1 t1 b2 t2 => MoonOk b1 t1 b2 t2
def CalAt (K : PySem.W.Frag) (CS CO CM : Addr) (H : Hp) (c : Addr) : Cal → Prop
  | .sun st ls lp ts => SunAt K CS CM H c st ls lp ts
  | .moon st b1 t1 b2 t2 => MoonAt K CO CM H c st b1 t1 b2 t2
theorem CalAt.mono {T : List NTab} {K : PySem.W.Frag} {CS CO CM : Addr} {H H' : Hp} {c : Addr} {cal : Cal} (s : SameT T H H') (h : CalAt K CS CO CM H c cal) : CalAt K CS CO CM H' c cal := by
  cases cal with
  | sun => exact SunAt.mono s h
  | moon => exact MoonAt.mono s h
theorem CalAt.same {K : PySem.W.Frag} {CS CO CM : Addr} {H H' : Hp} {c : Addr} {cal : Cal} (s : Same H H') (h : CalAt K CS CO CM H c cal) : CalAt K CS CO CM H' c cal := h.mono (T := []) (.of s)
theorem Cal.lt {cal : Cal} (ok : cal.Ok) {i j : Int} (h : i < j) : cal.start i < cal.start j := by
  cases cal with
  | sun st ls lp ts =>
    have := upto_lt (b := ls.sum) (SunOk.meas ok).ok ok.fs h
    show st + _ < st + _; omega
  | moon st b1 t1 b2 t2 =>
    have := moon_lt (show MoonOk b1 t1 b2 t2 from ok) h
    show st + _ < st + _; omega
theorem Cal.le {cal : Cal} (ok : cal.Ok) {i j : Int} (h : i ≤ j) : cal.start i ≤ cal.start j := by
  by_cases e : i = j
  · rw [e]; exact Int.le_refl _
  · have := cal.lt ok (show i < j by omega); omega
theorem Cal.uniq {cal : Cal} (ok : cal.Ok) {x z z' : Int} (h1 : cal.start z ≤ x) (h2 : x < cal.start (z + 1)) (h3 : cal.start z' ≤ x) (h4 : x < cal.start (z' + 1)) : z = z' := by
  by_cases c : z < z'
  · have := cal.le ok (show z + 1 ≤ z' by omega); omega
  by_cases c' : z' < z
  · have := cal.le ok (show z' + 1 ≤ z by omega); omega
  omega
theorem Cal.sum {cal : Cal} (ok : cal.Ok) (y : Int) : (cal.lens y).sum = cal.start (y + 1) - cal.start y := by
  cases cal with
  | sun st ls lp ts =>
    have h := lensS_sum (show SunOk ls lp ts from ok) y
    have e := upto_next ls.sum ts y
    show (lensS ls lp ts y).sum = st + uptoM ls.sum ts (y + 1) - (st + uptoM ls.sum ts y); omega
  | moon st b1 t1 b2 t2 =>
    have h := lensM_sum (show MoonOk b1 t1 b2 t2 from ok) y
    show (lensM b1 t1 b2 t2 y).sum = st + uptoM b1 t1 (uptoM b2 t2 (y + 1)) - (st + uptoM b1 t1 (uptoM b2 t2 y)); omega
theorem Cal.bd {cal : Cal} (ok : cal.Ok) (y : Int) : ∀ x ∈ cal.lens y, 0 ≤ x ∧ x ≤ 1006 := by
  cases cal with
  | sun st ls lp ts => exact lensS_bd ok y
  | moon st b1 t1 b2 t2 => exact fun x hx => by have := lensM_bd (show MoonOk b1 t1 b2 t2 from ok) y x hx; omega
theorem Cal.len {cal : Cal} (ok : cal.Ok) (y : Int) : 1 ≤ (cal.lens y).length ∧ (cal.lens y).length ≤ 26 := by
  cases cal with
  | sun st ls lp ts =>
    have h1 := SunOk.len1 ok
    have h2 := SunOk.len20 ok
    show 1 ≤ (lensS ls lp ts y).length ∧ (lensS ls lp ts y).length ≤ 26
    rw [lensS_len]; omega
  | moon st b1 t1 b2 t2 =>
    have ok' : MoonOk b1 t1 b2 t2 := ok
    have a1 := at_one ok'.m2.ok ok'.f2 y
    have a2 := at_hi ok'.m2 y
    have l2 := ok'.l2
    show 1 ≤ (lensM b1 t1 b2 t2 y).length ∧ (lensM b1 t1 b2 t2 y).length ≤ 26
    rw [lensM_len]; omega
theorem Cal.start_sm {cal : Cal} (ok : cal.Ok) {n : Nat} {y : Int} (h : Sm n y) : Sm (n + 30) (cal.start y - cal.st) := by
  cases cal with
  | sun st ls lp ts =>
    show Sm (n + 30) (st + uptoM ls.sum ts y - st)
    rw [show st + uptoM ls.sum ts y - st = uptoM ls.sum ts y by omega]
    exact sm_mono (upto_sm (SunOk.meas ok) h) (by omega)
  | moon st b1 t1 b2 t2 =>
    show Sm (n + 30) (st + uptoM b1 t1 (uptoM b2 t2 y) - st)
    rw [show st + uptoM b1 t1 (uptoM b2 t2 y) - st = uptoM b1 t1 (uptoM b2 t2 y) by omega]
    exact sm_mono (upto_sm (MoonOk.m1 ok) (upto_sm (MoonOk.m2 ok) h)) (by omega)
theorem Cal.start0 {cal : Cal} (ok : cal.Ok) : cal.start 0 = cal.st := by
  cases cal with
  | sun st ls lp ts => show st + uptoM ls.sum ts 0 = st; rw [upto_zero (SunOk.meas ok).ok]; omega
  | moon st b1 t1 b2 t2 => show st + uptoM b1 t1 (uptoM b2 t2 0) = st; rw [upto_zero (MoonOk.m2 ok).ok, upto_zero (MoonOk.m1 ok).ok]; omega
/-! ### dates -/
theorem pre_succ {L : List Int} {i : Nat} (h : i < L.length) : (L.take (i + 1)).sum = (L.take i).sum + L.getD i 0 := by
  rw [List.take_succ, List.getElem?_eq_getElem h, List.sum_append, List.getD_eq_getElem?_getD, List.getElem?_eq_getElem h]
  simp
theorem pre_le {L : List Int} (h : ∀ x ∈ L, 0 ≤ x) {i j : Nat} (hij : i ≤ j) : (L.take i).sum ≤ (L.take j).sum := by
  induction j with
  | zero => have : i = 0 := by omega
            rw [this]; exact Int.le_refl _
  | succ j ih =>
    by_cases e : i = j + 1
    · rw [e]; exact Int.le_refl _
    have ih := ih (by omega)
    by_cases hj : j < L.length
    · rw [pre_succ hj]
      have : 0 ≤ L.getD j 0 := by
        rw [List.getD_eq_getElem?_getD, List.getElem?_eq_getElem hj]
        exact h _ (List.getElem_mem _)
      omega
    · rw [List.take_of_length_le (show L.length ≤ j + 1 by omega)]
      rw [List.take_of_length_le (show L.length ≤ j by omega)] at ih
      exact ih
def dayOf (cal : Cal) (y m d : Int) : Int := cal.start y + ((cal.lens y).take (m - 1).toNat).sum + d - 1
structure DateIs (cal : Cal) (x y m d : Int) : Prop where
  m1 : 1 ≤ m
  m2 : m ≤ (cal.lens y).length
  d1 : 1 ≤ d
  d2 : d ≤ (cal.lens y).getD (m - 1).toNat 0
  e : x = dayOf cal y m d
structure GoodD (cal : Cal) (y m d : Int) : Prop where
  m1 : 1 ≤ m
  m2 : m ≤ (cal.lens y).length
  d1 : 1 ≤ d
  d2 : d ≤ (cal.lens y).getD (m - 1).toNat 0
theorem GoodD.is {cal : Cal} {y m d : Int} (h : GoodD cal y m d) : DateIs cal (dayOf cal y m d) y m d := ⟨h.m1, h.m2, h.d1, h.d2, rfl⟩
theorem DateIs.good {cal : Cal} {x y m d : Int} (h : DateIs cal x y m d) : GoodD cal y m d := ⟨h.m1, h.m2, h.d1, h.d2⟩
theorem nn_of {L : List Int} {B : Int} (h : ∀ x ∈ L, 0 ≤ x ∧ x ≤ B) : ∀ x ∈ L, 0 ≤ x := fun x hx => (h x hx).1
theorem pre_nn {L : List Int} (h : ∀ x ∈ L, 0 ≤ x) (i : Nat) : 0 ≤ (L.take i).sum := by
  have := pre_le h (Nat.zero_le i)
  rw [List.take_zero] at this; exact this
theorem DateIs.year {cal : Cal} (ok : cal.Ok) {x y m d : Int} (h : DateIs cal x y m d) : cal.start y ≤ x ∧ x < cal.start (y + 1) := by
  have h1 := h.m1
  have h2 := h.m2
  have h3 := h.d1
  have h4 := h.d2
  have nn := nn_of (cal.bd ok y)
  have e := h.e
  unfold dayOf at e
  have p0 := pre_nn nn (m - 1).toNat
  have p1 := pre_succ (L := cal.lens y) (i := (m - 1).toNat) (by omega)
  have p2 := pre_le nn (show (m - 1).toNat + 1 ≤ (cal.lens y).length by omega)
  rw [List.take_of_length_le (Nat.le_refl _)] at p2
  have s := cal.sum ok y
  omega
theorem DateIs.uniq {cal : Cal} (ok : cal.Ok) {x y m d y' m' d' : Int} (h : DateIs cal x y m d) (h' : DateIs cal x y' m' d') : y = y' ∧ m = m' ∧ d = d' := by
  obtain ⟨a1, a2⟩ := h.year ok
  obtain ⟨b1, b2⟩ := h'.year ok
  have ey := cal.uniq ok a1 a2 b1 b2
  subst ey
  have nn := nn_of (cal.bd ok y)
  have e := h.e
  have e' := h'.e
  unfold dayOf at e e'
  have h1 := h.m1
  have h2 := h.m2
  have h3 := h.d1
  have h4 := h.d2
  have g1 := h'.m1
  have g2 := h'.m2
  have g3 := h'.d1
  have g4 := h'.d2
  have p1 := pre_succ (L := cal.lens y) (i := (m - 1).toNat) (by omega)
  have p1' := pre_succ (L := cal.lens y) (i := (m' - 1).toNat) (by omega)
  have em : m = m' := by
    by_cases c : m < m'
    · have := pre_le nn (show (m - 1).toNat + 1 ≤ (m' - 1).toNat by omega)
      omega
    by_cases c' : m' < m
    · have := pre_le nn (show (m' - 1).toNat + 1 ≤ (m - 1).toNat by omega)
      omega
    omega
  subst em
  exact ⟨rfl, rfl, by omega⟩
/-- the first month with days, from one on -/
structure FirstIs (L : List Int) (b k : Nat) : Prop where
  lo : b ≤ k
  hi : k < L.length
  pos : 0 < L.getD k 0
  no : ∀ j, b ≤ j → j < k → L.getD j 0 = 0
theorem pre_zeros {L : List Int} {b k : Nat} (hk : k ≤ L.length) (hb : b ≤ k) (h : ∀ j, b ≤ j → j < k → L.getD j 0 = 0) : (L.take k).sum = (L.take b).sum := by
  induction k with
  | zero => have : b = 0 := by omega
            rw [this]
  | succ k ih =>
    by_cases e : b = k + 1
    · rw [e]
    rw [pre_succ (by omega), ih (by omega) (by omega) (fun j h1 h2 => h j h1 (by omega)), h k (by omega) (by omega)]; omega
theorem date_first {cal : Cal} {y : Int} {k : Nat} (h : FirstIs (cal.lens y) 0 k) : DateIs cal (cal.start y) y (k + 1) 1 := by
  have hk := h.hi
  have z := pre_zeros (by omega) h.lo h.no
  have p := h.pos
  refine ⟨by omega, by omega, by decide, by rw [show ((k : Int) + 1 - 1).toNat = k by omega]; omega, ?_⟩
  unfold dayOf
  rw [show ((k : Int) + 1 - 1).toNat = k by omega, z, List.take_zero]
  simp
theorem date_next {cal : Cal} {x y m d : Int} (h : DateIs cal x y m d) (hd : d < (cal.lens y).getD (m - 1).toNat 0) : DateIs cal (x + 1) y m (d + 1) := by
  have e := h.e
  have h3 := h.d1
  refine ⟨h.m1, h.m2, by omega, by omega, ?_⟩
  unfold dayOf at *; omega
theorem date_month {cal : Cal} {x y m d : Int} {k : Nat} (h : DateIs cal x y m d) (hd : (cal.lens y).getD (m - 1).toNat 0 ≤ d) (f : FirstIs (cal.lens y) m.toNat k) : DateIs cal (x + 1) y (k + 1) 1 := by
  have h1 := h.m1
  have h2 := h.m2
  have h4 := h.d2
  have e := h.e
  have hk := f.hi
  have z := pre_zeros (by omega) f.lo f.no
  have p := f.pos
  have p1 := pre_succ (L := cal.lens y) (i := (m - 1).toNat) (by omega)
  rw [show (m - 1).toNat + 1 = m.toNat by omega] at p1
  refine ⟨by omega, by omega, by decide, by rw [show ((k : Int) + 1 - 1).toNat = k by omega]; omega, ?_⟩
  unfold dayOf at *
  rw [show ((k : Int) + 1 - 1).toNat = k by omega, z]; omega
theorem date_year {cal : Cal} (ok : cal.Ok) {x y m d : Int} {k : Nat} (h : DateIs cal x y m d) (hd : (cal.lens y).getD (m - 1).toNat 0 ≤ d) (no : ∀ j, m.toNat ≤ j → j < (cal.lens y).length → (cal.lens y).getD j 0 = 0) (f : FirstIs (cal.lens (y + 1)) 0 k) : DateIs cal (x + 1) (y + 1) (k + 1) 1 := by
  have h1 := h.m1
  have h2 := h.m2
  have h4 := h.d2
  have e := h.e
  have z := pre_zeros (Nat.le_refl _) (show m.toNat ≤ (cal.lens y).length by omega) no
  rw [List.take_of_length_le (Nat.le_refl _)] at z
  have p1 := pre_succ (L := cal.lens y) (i := (m - 1).toNat) (by omega)
  rw [show (m - 1).toNat + 1 = m.toNat by omega] at p1
  have s := cal.sum ok y
  have : x + 1 = cal.start (y + 1) := by unfold dayOf at e; omega
  rw [this]
  exact date_first f
theorem first_ex {cal : Cal} (ok : cal.Ok) (y : Int) (no : ∀ j, 0 ≤ j → j < (cal.lens y).length → (cal.lens y).getD j 0 = 0) : False := by
  have z := pre_zeros (L := cal.lens y) (Nat.le_refl _) (Nat.zero_le _) (fun j h1 h2 => no j h1 h2)
  rw [List.take_of_length_le (Nat.le_refl _), List.take_zero] at z
  have s := cal.sum ok y
  have l := cal.lt ok (show y < y + 1 by omega)
  have : ([] : List Int).sum = 0 := rfl
  omega
/-! ### methods of a calendar whose kind is not told -/
theorem k_break {D : Ends} {σ : L2.St} {H : Hp} (h : D.bk σ H) : tBreak D σ H := h
def tAlt (t1 t2 : TE) : TE := fun σ H Q => t1 σ H Q ∨ t2 σ H Q
theorem pe_alt2 {X : Cx} {e : Expr} {t1 t2 : TE} (h1 : PE X e t1) (h2 : PE X e t2) : PE X e (tAlt t1 t2) := pe_alt h1 h2
section
variable {σ : L2.St} {H : Hp} {Q : VK} {C1 C2 c : Addr} {m : Str} {t : TA} {sp1 sp2 : Sp} {E : XK} {i : Nat} {x : V}
def AltR (C1 C2 : Addr) (m : Str) (sp1 sp2 : Sp) (E : XK) (t : TA) (σ : L2.St) (x : V) (H1 : Hp) (Q : VK) : Prop := MetR C1 m sp1 [] E t σ x H1 Q ∨ MetR C2 m sp2 [] E t σ x H1 Q
theorem k_altV (hs : σ[i]? = some (some x)) (h : AltR C1 C2 m sp1 sp2 E t σ x H Q) : tAlt (tMeth C1 m sp1 [] E (tVar i) t) (tMeth C2 m sp2 [] E (tVar i) t) σ H Q :=
  h.imp (fun h => ⟨x, hs, h⟩) (fun h => ⟨x, hs, h⟩)
def SpC (cal : Cal) (sp1 sp2 : Sp) : Sp := match cal with
  | .sun .. => sp1
  | .moon .. => sp2
theorem SpC_same {cal : Cal} {sp : Sp} : SpC cal sp sp = sp := by cases cal <;> rfl
structure NoF (m : Str) : Prop where
  s : (m == ("start" : Str)) = false
  mo : (m == ("months" : Str)) = false
  l : (m == ("leap" : Str)) = false
  y : (m == ("years" : Str)) = false
  d : (m == ("days" : Str)) = false
  ma : (m == ("many" : Str)) = false
theorem k_altX {K : PySem.W.Frag} {CM : Addr} {cal : Cal} (hc : CalAt K C1 C2 CM H c cal) (n : NoF m) (h : t σ H fun vs H2 => SpC cal sp1 sp2 (.ref c :: (vs ++ [])) H2 Q E) : AltR C1 C2 m sp1 sp2 E t σ (.ref c) H Q := by
  cases cal with
  | sun =>
    obtain ⟨dx, pm, py, h1, _, _⟩ := hc
    exact .inl (k_metX h1 (sfs_no _ _ _ _ n.s n.mo n.l n.y) h)
  | moon =>
    obtain ⟨dx, pd, pm, h1, _, _⟩ := hc
    exact .inr (k_metX h1 (mofs_no _ _ _ n.s n.d n.ma) h)
theorem k_altX1 {K : PySem.W.Frag} {CM : Addr} {cal : Cal} (hc : CalAt K C1 C2 CM H c cal) (n : NoF m) (h : t σ H fun vs H2 => sp1 (.ref c :: (vs ++ [])) H2 Q E) : AltR C1 C2 m sp1 sp1 E t σ (.ref c) H Q :=
  k_altX hc n (by rw [SpC_same]; exact h)
end
theorem noF_year_at : NoF "year_at" := ⟨by decide +kernel, by decide +kernel, by decide +kernel, by decide +kernel, by decide +kernel, by decide +kernel⟩
theorem noF_year_start : NoF "year_start" := ⟨by decide +kernel, by decide +kernel, by decide +kernel, by decide +kernel, by decide +kernel, by decide +kernel⟩
theorem noF_lengths : NoF "lengths" := ⟨by decide +kernel, by decide +kernel, by decide +kernel, by decide +kernel, by decide +kernel, by decide +kernel⟩
theorem noF_date_of : NoF "date_of" := ⟨by decide +kernel, by decide +kernel, by decide +kernel, by decide +kernel, by decide +kernel, by decide +kernel⟩
theorem noF_day_of : NoF "day_of" := ⟨by decide +kernel, by decide +kernel, by decide +kernel, by decide +kernel, by decide +kernel, by decide +kernel⟩
theorem noF_cycle : NoF "cycle" := ⟨by decide +kernel, by decide +kernel, by decide +kernel, by decide +kernel, by decide +kernel, by decide +kernel⟩
theorem cutV_to_ints (ls : List Int) {k : Int} (h : 0 ≤ k) : cutV (ls.map V.int) none (some k) = (ls.take k.toNat).map V.int := by
  obtain ⟨n, rfl⟩ := Int.eq_ofNat_of_zero_le h
  unfold cutV
  rw [HT.sIx_nat, Int.toNat_natCast, show HT.sIx (ls.map V.int).length 0 none = 0 from rfl, List.drop_zero, Nat.sub_zero, List.map_take, List.length_map]
  by_cases hn : n ≤ ls.length
  · rw [Nat.min_eq_left hn]
  · rw [Nat.min_eq_right (by omega), List.take_of_length_le (by rw [List.length_map]; omega), List.take_of_length_le (by rw [List.length_map]; omega)]

end

section
open NdefX LamX
/-! ### cycles -/
theorem rise_per {ts : List Tm} (h : ∀ t ∈ ts, TmOk t) {p : Int} (hp : ∀ t ∈ ts, t.n ∣ p) (k : Int) : riseT ts (k + p) = riseT ts k := by
  have e1 := sumT_next ts (k + p)
  have e2 := sumT_next ts k
  have e3 := sum_over h hp k
  have e4 := sum_over h hp (k + 1)
  rw [show k + p + 1 = k + 1 + p by omega] at e1
  omega
theorem at_per {b : Int} {ts : List Tm} (h : ∀ t ∈ ts, TmOk t) {p : Int} (hp : ∀ t ∈ ts, t.n ∣ p) (k : Int) : atM b ts (k + p) = atM b ts k := by
  unfold atM; rw [rise_per h hp]
def moonF (b2 : Int) (t1 t2 : List Tm) : Int := perT t1 / (Int.gcd (perT t1) (uptoM b2 t2 (perT t2)) : Nat)
def Cal.yrs : Cal → Int
  | .sun _ _ _ ts => perT ts
  | .moon _ _ t1 b2 t2 => perT t2 * moonF b2 t1 t2
def Cal.dys : Cal → Int
  | .sun _ ls _ ts => uptoM ls.sum ts (perT ts)
  | .moon _ b1 t1 b2 t2 => uptoM b1 t1 (uptoM b2 t2 (perT t2) * moonF b2 t1 t2)
theorem moonF_bd {b1 : Int} {t1 : List Tm} {b2 : Int} {t2 : List Tm} (h : MoonOk b1 t1 b2 t2) : 1 ≤ moonF b2 t1 t2 ∧ moonF b2 t1 t2 ≤ perT t1 := by
  obtain ⟨p1, p2⟩ := per_bd h.m1
  have g1 := gcd_pos (b := uptoM b2 t2 (perT t2)) p1
  have g2 := gcd_le (b := uptoM b2 t2 (perT t2)) p1
  unfold moonF
  generalize ((Int.gcd (perT t1) (uptoM b2 t2 (perT t2)) : Nat) : Int) = g at *
  exact ⟨Int.le_ediv_of_mul_le (by omega) (by omega), Int.ediv_le_self _ (by omega)⟩
theorem moon_dvd {b1 : Int} {t1 : List Tm} {b2 : Int} {t2 : List Tm} (h : MoonOk b1 t1 b2 t2) : perT t1 ∣ uptoM b2 t2 (perT t2) * moonF b2 t1 t2 := by
  obtain ⟨p1, p2⟩ := per_bd h.m1
  obtain ⟨u1, u2⟩ := per_upto h.m2
  have d1 : ((Int.gcd (perT t1) (uptoM b2 t2 (perT t2)) : Nat) : Int) ∣ perT t1 := Int.gcd_dvd_left _ _
  have d2 : ((Int.gcd (perT t1) (uptoM b2 t2 (perT t2)) : Nat) : Int) ∣ uptoM b2 t2 (perT t2) := Int.gcd_dvd_right _ _
  have g1 := gcd_pos (b := uptoM b2 t2 (perT t2)) p1
  unfold moonF
  generalize ((Int.gcd (perT t1) (uptoM b2 t2 (perT t2)) : Nat) : Int) = g at *
  obtain ⟨x, hx⟩ := d1
  obtain ⟨y, hy⟩ := d2
  rw [hx, hy, Int.mul_ediv_cancel_left _ (by omega)]
  exact ⟨y, by rw [Int.mul_assoc, Int.mul_assoc, Int.mul_comm x y]⟩
theorem moon_months {b1 : Int} {t1 : List Tm} {b2 : Int} {t2 : List Tm} (h : MoonOk b1 t1 b2 t2) (y : Int) : uptoM b2 t2 (y + perT t2 * moonF b2 t1 t2) = uptoM b2 t2 y + uptoM b2 t2 (perT t2) * moonF b2 t1 t2 := by
  have e := upto_rounds (b := b2) h.m2.ok (per_dvd h.m2) (moonF b2 t1 t2) y
  rw [Int.add_comm y, Int.mul_comm (perT t2), e, Int.mul_comm (uptoM b2 t2 (perT t2))]; omega
theorem dvd_all {ts : List Tm} {b : Int} (ok : MeasOk b ts) {p : Int} (h : perT ts ∣ p) : ∀ t ∈ ts, t.n ∣ p := fun t ht => Int.dvd_trans (per_dvd ok t ht) h
theorem Cal.start_cyc {cal : Cal} (ok : cal.Ok) (y : Int) : cal.start (y + cal.yrs) = cal.start y + cal.dys := by
  cases cal with
  | sun st ls lp ts =>
    have mo := SunOk.meas ok
    show st + uptoM ls.sum ts (y + perT ts) = st + uptoM ls.sum ts y + uptoM ls.sum ts (perT ts)
    rw [upto_over mo.ok (per_dvd mo), over_upto mo.ok (per_dvd mo)]; omega
  | moon st b1 t1 b2 t2 =>
    have ok' : MoonOk b1 t1 b2 t2 := ok
    show st + uptoM b1 t1 (uptoM b2 t2 (y + perT t2 * moonF b2 t1 t2)) = st + uptoM b1 t1 (uptoM b2 t2 y) + uptoM b1 t1 (uptoM b2 t2 (perT t2) * moonF b2 t1 t2)
    have dv := dvd_all ok'.m1 (moon_dvd ok')
    rw [moon_months ok', upto_over ok'.m1.ok dv, over_upto ok'.m1.ok dv]; omega
theorem Cal.lens_cyc {cal : Cal} (ok : cal.Ok) (y : Int) : cal.lens (y + cal.yrs) = cal.lens y := by
  cases cal with
  | sun st ls lp ts =>
    have mo := SunOk.meas ok
    show lensS ls lp ts (y + perT ts) = lensS ls lp ts y
    unfold lensS
    rw [rise_per mo.ok (per_dvd mo)]
  | moon st b1 t1 b2 t2 =>
    have ok' : MoonOk b1 t1 b2 t2 := ok
    show lensM b1 t1 b2 t2 (y + perT t2 * moonF b2 t1 t2) = lensM b1 t1 b2 t2 y
    have dv := dvd_all ok'.m1 (moon_dvd ok')
    have dv2 : ∀ t ∈ t2, t.n ∣ perT t2 * moonF b2 t1 t2 := fun t ht => Int.dvd_trans (per_dvd ok'.m2 t ht) (Int.dvd_mul_right _ _)
    unfold lensM
    rw [at_per ok'.m2.ok dv2, moon_months ok']
    refine List.map_congr_left fun k _ => ?_
    rw [show uptoM b2 t2 y + uptoM b2 t2 (perT t2) * moonF b2 t1 t2 + (k : Int) = uptoM b2 t2 y + k + uptoM b2 t2 (perT t2) * moonF b2 t1 t2 by omega, at_per ok'.m1.ok dv]
theorem Cal.yrs_bd {cal : Cal} (ok : cal.Ok) : 1 ≤ cal.yrs ∧ cal.yrs ≤ 1000000000000000000000000000000000000 := by
  cases cal with
  | sun st ls lp ts =>
    have := per_bd (SunOk.meas ok)
    show 1 ≤ perT ts ∧ perT ts ≤ _
    omega
  | moon st b1 t1 b2 t2 =>
    have ok' : MoonOk b1 t1 b2 t2 := ok
    obtain ⟨f1, f2⟩ := moonF_bd ok'
    obtain ⟨p1, p2⟩ := per_bd ok'.m1
    obtain ⟨q1, q2⟩ := per_bd ok'.m2
    have := mul_bd q1 q2 f1 (show moonF b2 t1 t2 ≤ 1000000000000000000 by omega)
    show 1 ≤ perT t2 * moonF b2 t1 t2 ∧ perT t2 * moonF b2 t1 t2 ≤ _
    omega
theorem Cal.dys_sm {cal : Cal} (ok : cal.Ok) : Sm 400 cal.dys := by
  cases cal with
  | sun st ls lp ts =>
    obtain ⟨u1, u2⟩ := per_upto (SunOk.meas ok)
    exact sm_mono (sm41 (i := uptoM ls.sum ts (perT ts)) (by omega) (by omega)) (by decide)
  | moon st b1 t1 b2 t2 =>
    have ok' : MoonOk b1 t1 b2 t2 := ok
    obtain ⟨f1, f2⟩ := moonF_bd ok'
    obtain ⟨p1, p2⟩ := per_bd ok'.m1
    obtain ⟨u1, u2⟩ := per_upto ok'.m2
    have := mul_bd u1 u2 f1 (show moonF b2 t1 t2 ≤ 1000000000000000000 by omega)
    exact sm_mono (upto_sm ok'.m1 (sm41 (i := uptoM b2 t2 (perT t2) * moonF b2 t1 t2) (by omega) (by omega))) (by decide)
theorem Cal.dys_pos {cal : Cal} (ok : cal.Ok) : 1 ≤ cal.dys := by
  have e := cal.start_cyc ok 0
  have l := cal.lt ok (show (0 : Int) < 0 + cal.yrs by have := cal.yrs_bd ok; omega)
  omega
theorem DateIs.cyc {cal : Cal} (ok : cal.Ok) {x y m d : Int} (h : DateIs cal x y m d) : DateIs cal (x + cal.dys) (y + cal.yrs) m d := by
  have l := cal.lens_cyc ok y
  have e := h.e
  refine ⟨h.m1, by rw [l]; exact h.m2, h.d1, by rw [l]; exact h.d2, ?_⟩
  unfold dayOf at *
  rw [cal.start_cyc ok, l]; omega
theorem DateIs.cycB {cal : Cal} (ok : cal.Ok) {x y m d : Int} (h : DateIs cal x y m d) : DateIs cal (x - cal.dys) (y - cal.yrs) m d := by
  have l := cal.lens_cyc ok (y - cal.yrs)
  have s := cal.start_cyc ok (y - cal.yrs)
  rw [show y - cal.yrs + cal.yrs = y by omega] at l s
  have e := h.e
  refine ⟨h.m1, by rw [← l]; exact h.m2, h.d1, by rw [← l]; exact h.d2, ?_⟩
  unfold dayOf at *
  rw [← l]; omega

end

/-! ### a caught exception, handed on to a def -/
/-! a def called in the suite that caught p: p's object is pinned while it runs -/
structure FnP (P : Program) (w : World) (K : PySem.W.Frag) (mg : Str → Option Value) (base : Heap) (CX : CXT) (k : Nat) (f : Addr) (fd : FuncData) (ps : List Str) (sp : Addr × Obj → Sp) : Prop where
  len : ∀ p vs H Q E, sp p vs H Q E → vs.length = ps.length
  run : ∀ (A : Around) (outer : List Env) (s : Shared) (H : Hp) (args : Args) (us : List Value) (vs : List V) (Q : VK) (E : XK) (p : Addr × Obj), L2H.RoomH k A → L2H.PinOk outer H s p → Env0 P w K mg base A outer s H → BindsTo s fd args (ps.zip us) → Vals vs us → sp p vs H Q E →
    codeAny (model P w) A (.call (.ref f) args) (CR CX outer P w H s Q E) s
theorem fn_ofP {CX : CXT} {P : Program} {w : World} {K : PySem.W.Frag} {mg : Str → Option Value} {base : Heap} {k : Nat} {f : Addr} {name qual : Str} {params : Arguments} {body : List Stmt} {scope : Scope} {dV kV doc pm cdv ct oc : Value} {an od : Option Addr}
    {osl : Array (Option Value)} {N ps : List Str} {sp : Addr × Obj → Sp} (lk : K.lookup f = some ⟨oc, od, .func (PySem.W.fnOf name qual params body scope dV kV doc pm an cdv ct), osl⟩) (hcd : PySem.W.codeIn K cdv qual = true) (S : FnScope N ps scope)
    (len : ∀ p vs H Q E, sp p vs H Q E → vs.length = ps.length)
    (hbody : ∀ (A : Around) (outer : List Env) (s : Shared) (H : Hp) (vs : List V) (Q : VK) (E : XK) (p : Addr × Obj), L2H.RoomH k (A.deeper (envOfC qual scope s.heap.objs.size f cdv)) → sp p vs H Q E →
      ∃ t, PSs (L2H.cxH CX P w K mg base N qual scope f cdv A outer s H E p) body t ∧ t { nx := fun _ H' => Q .non H', rt := Q } (L2.start N vs) H) :
    FnP P w K mg base CX (k + 1) f (PySem.W.fnOf name qual params body scope dV kV doc pm an cdv ct) ps sp := by
  refine ⟨len, fun A outer s H args us vs Q E p hr hpin e0 hb r hsp => ?_⟩
  have hl := len _ _ _ _ _ hsp
  have KX : K.In s.heap := e0.mod.kin.keeps fun b o e => (e0.bs b o e).1
  have lim : s.heap.NoLimit := e0.mod.nolimit.keeps fun b o e => (e0.bs b o e).1
  have hkind : ∀ y ∈ ps.zip us, scope.names.lookup y.1 = some .local ∨ (scope.names.lookup y.1 = some .cell ∧ ((cellsFrom (s.heap.objs.size + 1) scope.names []).lookup y.1).isSome = true) := fun ⟨n, v⟩ hy => by
    rcases S.par n (List.of_mem_zip hy).1 with q | q
    · exact .inl q
    · exact .inr ⟨q, PySem.W.cellsFrom_some _ _ _ (.inl q)⟩
  refine codeAny_call_function hr.depth (KX _ _ lk) rfl S.co S.gen rfl (PySem.W.codeRec_of KX hcd) (hb _ _ _ _ ?_)
  refine wpAny_newFunctionEnv_cells S.kind hkind fun env he s1 x => ?_
  subst he
  refine ⟨lim.keeps x.toInCall.keep, codeAny_func ?_⟩
  obtain ⟨t, ht, hq⟩ := hbody A outer s H vs Q E p (hr.deeper _) hsp
  have I : Inv (L2H.cxH CX P w K mg base N qual scope f cdv A outer s H E p) [] (L2.start N vs) H s1 := L2H.inv_startH S hpin e0 hl r x
  refine wpAny_mono (ht.run [] s1 (L2.start N vs) H _ I hq) (fun fl s' hs => ?_) fun e s' hs => hs
  have fin : ∀ {σ' : L2.St} {H' : Hp} {v : V} {u : Value}, Inv (L2H.cxH CX P w K mg base N qual scope f cdv A outer s H E p) [] σ' H' s' → RelV v u → Q v H' → CE outer P w H s Q u s' :=
    fun {σ' H' v u} J rv q => ⟨v, H', J.os, J.bare, J.base, J.hok, rv, q⟩
  cases fl with
  | ret u =>
    obtain ⟨v, σ', H', J, rv, q⟩ := hs
    exact fin J rv q
  | next =>
    obtain ⟨σ', H', J, q⟩ := hs
    exact fin (v := V.non) (u := Value.none) J rfl q
  | brk =>
    obtain ⟨_, _, _, q⟩ := hs
    exact False.elim q
  | cont =>
    obtain ⟨_, _, _, q⟩ := hs
    exact False.elim q
theorem Fun.okP {P : Program} {w : World} {K : PySem.W.Frag} {mg : Str → Option Value} {base : Heap} {x qual : Str} {st : Stmt} {f : Addr} {fd : FuncData} {N ps : List Str} {k : Nat} {sp : Addr × Obj → Sp} (F : Fun K x qual st f fd) (S : FnScope N ps (defScope st)) (len : ∀ p vs H Q E, sp p vs H Q E → vs.length = ps.length)
    (hbody : ∀ (cdv : Value) (A : Around) (outer : List Env) (s : Shared) (H : Hp) (vs : List V) (Q : VK) (E : XK) (p : Addr × Obj), L2H.RoomH k (A.deeper (envOfC qual (defScope st) s.heap.objs.size f cdv)) → sp p vs H Q E →
      ∃ t, PSs (L2H.cxH CX0 P w K mg base N qual (defScope st) f cdv A outer s H E p) (defBody st) t ∧ t { nx := fun _ H' => Q .non H', rt := Q } (L2.start N vs) H) : FnP P w K mg base CX0 (k + 1) f fd ps sp := by
  obtain ⟨oc, od, kV, doc, pm, an, cdv, ct, osl, rfl, lk, hcd⟩ := F.ex
  exact fn_ofP lk hcd S len fun A outer s H vs Q E p hr hsp => hbody cdv A outer s H vs Q E p hr hsp
section
variable {X : Cx} {CX : CXT} {k : Nat} {f a : Addr} {fd : FuncData} {ps : List Str} {sp : Addr × Obj → Sp} {x : Str} {p pos : Pos} {e : Expr} {es : List Expr} {t : TA} {oe : Obj} {pn : List (Addr × Obj)}
/-- f(.., err, ..) in an except suite: the exception is pinned while the callee runs -/
def tCallV (a : Addr) (cls : Value) (d : Option Addr) (sp : Addr × Obj → Sp) (t : TA) : TE := fun σ H Q => t σ H fun vs H1 =>
  ∀ oe : Obj, Zc cls d oe → (∃ u, oe.data = .fields u) → sp (a, oe) vs H1 Q (fun _ _ _ => False)
theorem pe_callV {cls : Value} {d : Option Addr} (hz : Zc cls d oe) (hf : ∃ u, oe.data = .fields u) (F : FnP X.prog X.w X.K X.mg X.base CX k f fd ps sp) (hr : Room k X.A) (hg : Gl X x) (hm : X.mg x = some (.ref f)) (hk : PySem.W.keepIn X.K (.ref f) = true) (hb : Binds X.K fd ps [])
    (hx : ∀ (l : List Env) (H : Hp) (s : Shared) (e : Value) (s' : Shared), ¬ CX l H s (fun _ _ _ => False) e s')
    (ha : PA (X.suite a ((a, oe) :: pn)) (e :: es) t) (hdb : (x == ("__debug__" : Str)) = false := by decide) (he : starEach (e :: es) X.env = (false, eval e X.env) :: starEach es X.env := by rfl) (hpl : (backTo pos (starEach es X.env)).any (·.1) = false := by rfl) :
    PE (X.suite a ((a, oe) :: pn)) (.Call (.Name x p) (e :: es) [] pos) (tCallV a cls d sp t) := by
  refine ⟨fun pins s σ H Q I h => ?_⟩
  refine wpAny_Call_Name_kw (ld_glob I hg hm ?_ hdb)
  refine PySem.W.callWith_K (h₀ := X.base) I.ok.mod.kin hk (thn (ha.run pos pins s σ H _ I h) fun us s1 ⟨vs, H1, I1, r, q⟩ => ⟨I1.kIn, ?_⟩) he hpl
  have q := q oe hz hf
  have P1 := I1.pin (a, oe) (List.mem_append_left _ List.mem_cons_self)
  have hpin : L2H.PinOk X.stack H1 s1 (a, oe) := ⟨P1.1, P1.2.1, fun hm => (List.mem_cons.mp (I1.stkSub a hm)).elim P1.2.2.1 P1.2.2.2.1, P1.2.2.2.2⟩
  have hl : us.length = ps.length := by rw [← r.length]; exact F.len _ _ _ _ _ q
  have b := hb s1 us I1.kIn (by rw [List.append_nil]; exact hl)
  rw [List.append_nil] at b
  refine wpAny_call (codeAny_mono (F.run _ X.stack s1 H1 ⟨us, []⟩ us vs Q (fun _ _ _ => False) (a, oe) ⟨hr.dp, hr.un⟩ hpin I1.env0 b r q) fun r s' hq => ?_)
  cases r with
  | error e => exact absurd hq (hx _ _ _ _ _)
  | ok fl =>
    cases fl with
    | ret u => exact I1.after hq
    | next => exact False.elim hq
    | brk => exact False.elim hq
    | cont => exact False.elim hq
/-- where the dict of the exception stands -/
def DOk (H : Hp) (d : Option Addr) : Prop := d = none ∨ ∃ (dd : Addr) (fs : List (Str × V)), d = some dd ∧ H dd = some (.xd fs)
theorem inst_exc {X : Cx} {pins : List (Addr × Obj)} {σ : L2.St} {H : Hp} {s : Shared} {a D : Addr} {d : Option Addr} {oe : Obj} (I : Inv X pins σ H s) (hget : s.heap.get? a = some oe) (hz : Zc (.ref D) d oe) (hf : ∃ vs, oe.data = .fields vs) (hd : DOk H d) :
    ∃ od, PySem.W.InstAt s.heap a oe D od := by
  obtain ⟨vs, hv⟩ := hf
  have hno : PySem.W.notCls oe = true := by unfold PySem.W.notCls; rw [hv] <;> rfl
  rcases hd with rfl | ⟨dd, fs, rfl, ea⟩
  · exact ⟨none, hget, hz.1, hno, by rw [hz.2]; exact trivial⟩
  · have hx : ObjOk X.prog X.w H s.heap dd (.xd fs) := I.hok dd _ ea
    obtain ⟨mA, hns, _⟩ := hx
    obtain ⟨od, ho, _⟩ := lookIn_ns hns
    exact ⟨some od, hget, hz.1, hno, by rw [hz.2]; exact ho⟩
theorem isinst_exc {X : Cx} {pins : List (Addr × Obj)} {σ : L2.St} {H : Hp} {s : Shared} {a D : Addr} {d : Option Addr} {oe : Obj} {cv : Value} {b : Bool} {Q : VK} (I : Inv X pins σ H s) (hget : s.heap.get? a = some oe) (hz : Zc (.ref D) d oe) (hf : ∃ vs, oe.data = .fields vs) (hd : DOk H d) (C : ExcC X.K D)
    (e : PySem.W.kitOne X.K (.ref D) cv = some b) (q : Q (.bl b) H) : wpAny (model X.prog X.w) X.A (call (.builtin "isinstance") [.ref a, cv]) (EP X pins σ Q) X.xe s := by
  obtain ⟨od, J⟩ := inst_exc I hget hz hf hd
  refine PySem.W.kia_one (PySem.W.kitx_exc ?_ C.hg C.hk C.hs C.ha C.hn C.ht C.hm) I.kIn J e (fun z => nomatch z) fun tk => ⟨.bl b, H, I.kept (t' := tk) fun _ _ z => z, rfl, q⟩
  obtain ⟨cd, hc, _⟩ := PySem.W.any_some C.hd
  rw [hc]; rfl
/-- isinstance(e, c), e the caught exception p, in a def that was called in its suite -/
def rIsV (K : PySem.W.Frag) (p : Addr × Obj) : List V → Hp → VK → Prop := fun xs H Q => ∃ (D : Addr) (d : Option Addr) (c : V) (cv : Value) (b : Bool), xs = [.ref p.1, c] ∧ ExcC K D ∧ Zc (.ref D) d p.2 ∧ DOk H d ∧ (∃ vs, p.2.data = .fields vs) ∧ (∀ u, RelV c u → u = cv) ∧ PySem.W.kitOne K (.ref D) cv = some b ∧ Q (.bl b) H
theorem call_isV {X : Cx} {p : Addr × Obj} (hp : X.pn = [p]) : CallR X (.builtin "isinstance") (rIsV X.K p) := by
  intro pins s σ H xs us Q I r h
  obtain ⟨D, d, c, cv, b, rfl, C, hz, hd, hf, hcv, e, q⟩ := h
  cases r with
  | cons rx rr =>
    cases rr with
    | cons rt rr =>
      cases rr
      cases rx
      have ec := hcv _ rt
      subst ec
      exact isinst_exc I (I.pin p (List.mem_append_left _ (by rw [hp]; exact List.mem_cons_self))).1 hz hf hd C e q
/-- isinstance(e, c) in the suite that caught e -/
def rIsC (K : PySem.W.Frag) (a : Addr) (cls : Value) (d : Option Addr) : List V → Hp → VK → Prop := fun xs H Q => ∃ (D : Addr) (c : V) (cv : Value) (b : Bool), cls = .ref D ∧ xs = [.ref a, c] ∧ ExcC K D ∧ DOk H d ∧ (∀ u, RelV c u → u = cv) ∧ PySem.W.kitOne K (.ref D) cv = some b ∧ Q (.bl b) H
theorem call_isC {X : Cx} {a : Addr} {oe : Obj} {pn : List (Addr × Obj)} {cls : Value} {d : Option Addr} (hz : Zc cls d oe) (hf : ∃ vs, oe.data = .fields vs) : CallR (X.suite a ((a, oe) :: pn)) (.builtin "isinstance") (rIsC X.K a cls d) := by
  intro pins s σ H xs us Q I r h
  obtain ⟨D, c, cv, b, rfl, rfl, C, hd, hcv, e, q⟩ := h
  cases r with
  | cons rx rr =>
    cases rr with
    | cons rt rr =>
      cases rr
      cases rx
      have ec := hcv _ rt
      subst ec
      obtain ⟨hget, _⟩ := I.pin (a, oe) (List.mem_append.mpr (.inl List.mem_cons_self))
      exact isinst_exc I hget hz hf hd C e q
end
/-- an error of the class at D, asked of the class at C: an except clause, isinstance -/
theorem exm_of {K : PySem.W.Frag} {D C : Addr} {b : Bool} (h1 : PySem.W.subIn K (.ref C) (.type "BaseException") = some true) (h2 : PySem.W.isClsIn K C = true) (h3 : PySem.W.typeIn K (.ref C) = some (.type "type")) (h4 : PySem.W.subIn K (.ref D) (.ref C) = some b) :
    PySem.W.exmOne K (.ref D) (.ref C) = some b := by
  have e1 : (PySem.W.subIn K (.ref C) (.type "BaseException") == some true) = true := by rw [h1] <;> rfl
  have e2 : ((PySem.W.clsIn K C).isSome && PySem.W.typeIn K (.ref C) == some (.type "type")) = true := by
    have h2' : (PySem.W.clsIn K C).isSome = true := h2
    rw [h2', h3] <;> rfl
  show (if (PySem.W.subIn K (.ref C) (.type "BaseException") == some true) = true then (if ((PySem.W.clsIn K C).isSome && PySem.W.typeIn K (.ref C) == some (.type "type")) = true then PySem.W.subIn K (.ref D) (.ref C) else none) else none) = some b
  rw [if_pos e1, if_pos e2]
  exact h4
theorem kit_of {K : PySem.W.Frag} {D C : Addr} {b : Bool} (h2 : PySem.W.isClsIn K C = true) (h3 : PySem.W.typeIn K (.ref C) = some (.type "type")) (hs : PySem.W.subIn K (.ref C) (.ref C) = some true) (h4 : PySem.W.subIn K (.ref D) (.ref C) = some b) :
    PySem.W.kitOne K (.ref D) (.ref C) = some b := by
  unfold PySem.W.kitOne
  by_cases e : D = C
  · subst e
    rw [hs] at h4
    rw [if_pos (by simp)]
    exact h4
  · rw [if_neg (by simpa using e)]
    have e2 : ((PySem.W.clsIn K C).isSome && PySem.W.typeIn K (.ref C) == some (.type "type")) = true := by
      have h2' : (PySem.W.clsIn K C).isSome = true := h2
      rw [h2', h3] <;> rfl
    show (if ((PySem.W.clsIn K C).isSome && PySem.W.typeIn K (.ref C) == some (.type "type")) = true then PySem.W.subIn K (.ref D) (.ref C) else none) = some b
    rw [if_pos e2]
    exact h4
theorem kit_ve {K : PySem.W.Frag} {D : Addr} {b : Bool} (h : PySem.W.subIn K (.ref D) (.type "ValueError") = some b) : PySem.W.kitOne K (.ref D) (.type "ValueError") = some b := by
  unfold PySem.W.kitOne
  rw [if_neg (by simp)]
  show (if PySem.W.kitMeta "ValueError" = true then PySem.W.subIn K (.ref D) (.type "ValueError") else none) = some b
  rw [if_pos (by decide +kernel)]
  exact h

/-! ### several except clauses, each with a name -/
def wAsM (K : PySem.W.Frag) (Wout : WX) (D : Ends) : List (Value × Nat × (Addr → Value → Option Addr → TS)) → WX
  | [] => Wout
  | (c, i, ts) :: r => fun cls d σ H => ∃ b, PySem.W.exmOne K cls c = some b ∧ (b = true → ∀ a, H a = none → ts a cls d { nx := fun σ' H' => D.nx (σ'.set i none) H', rt := D.rt, bk := fun σ' H' => D.bk (σ'.set i none) H', ct := fun σ' H' => D.ct (σ'.set i none) H' } (σ.set i (some (.ref a))) H) ∧
      (b = false → wAsM K Wout D r cls d σ H)
inductive HasOk (X : Cx) : List ExceptHandler → List (Value × Nat × (Addr → Value → Option Addr → TS)) → Prop
  | nil : HasOk X [] []
  | cons {x n : Str} {c : Value} {i : Nat} {ts : Addr → Value → Option Addr → TS} {b₀ : Stmt} {suite : List Stmt} {np pos' : Pos} {hds : List ExceptHandler} {l : List (Value × Nat × (Addr → Value → Option Addr → TS))}
      (hN : X.N.Nodup) (hi : X.N[i]? = some n) (hln : X.env.kindOf n = some .local) (hc : Names X x c)
      (hsu : ∀ (a : Addr) (oe : Obj) (cls : Value) (d : Option Addr) (pn : List (Addr × Obj)), Zc cls d oe → (∃ vs, oe.data = .fields vs) → PSs (X.suite a ((a, oe) :: pn)) (b₀ :: suite) (ts a cls d)) (r : HasOk X hds l) :
      HasOk X (.ExceptHandler (some (.Name x np)) (some n) (b₀ :: suite) pos' :: hds) ((c, i, ts) :: l)
section
variable {X : Cx} {body : List Stmt} {h₀ : ExceptHandler} {hds : List ExceptHandler} {l : List (Value × Nat × (Addr → Value → Option Addr → TS))} {pos : Pos} {tb : WX → TS} {Wout : WX}
theorem ps_try_asN (hs : X.stack = X.env :: X.outer) (hf : X.env.frame = some X.env.locals) (tk : Takes X Wout)
    (hb : ∀ (W : WX) (pn : List (Addr × Obj)) (xe : Value → Shared → Prop), Takes (X.tr pn xe) W → PassesOwn (model X.prog X.w) X.A X.env xe → PSs (X.tr pn xe) body (tb W))
    (hh : HasOk X (h₀ :: hds) l) : PS X (.Try body (h₀ :: hds) [] [] pos) (fun D σ H => tb (wAsM X.K Wout D l) D σ H) := by
  refine ⟨fun pins s σ H D I h => ?_⟩
  have ok := I.ok
  have hfr : X.A.frames = some (X.env :: X.outer) := by rw [ok.frames, hs]
  refine wpAny_Try_except ?_
  refine wpAny_mono ((hb (wAsM X.K Wout D l) (X.pn ++ pins) (fun e s₁ => wpAny (model X.prog X.w) X.A (noteFrame e X.env) (fun _ s₂ => wpAny (model X.prog X.w) X.A (setFlight e none) (fun _ s₃ =>
    wpAny (model X.prog X.w) X.A (handleBy e X.env (h₀ :: hds)) (SP X pins D) X.xe s₃) X.xe s₂) X.xe s₁) (fun u s' xx => ?_) PassesOwn.looking).run [] s σ H D (I.toTry _) h) (fun f s1 hsp => ?_) (fun e s1 he => he)
  · -- the catch
    obtain ⟨a, B, sI, pins', σ', H', cls, d, rfl, J', nb, up, sky, na, os, ag, w⟩ := xx
    have J : Inv X pins σ' H' sI := J'.ofTry ok
    have sky' : Sky B (X.env :: X.outer) a (Zc cls d) X.env.locals s'.heap := by rw [← hs]; exact sky
    show wpAny (model X.prog X.w) X.A (noteFrame (.ref a) X.env) _ _ _
    refine Sky.land Zc.steady hfr hf sky' fun h3 fl3 up3 => ?_
    have J3 : Inv X pins σ' H' { s' with heap := h3 } := J.landed nb fl3.1 (up.trans up3) os ag
    obtain ⟨oe3, vs3, he3, hz3, hd3⟩ := fl3.there
    have notFr : ∀ {h : Heap} {o : Obj} {vs : Array Value}, h.FunFrames B (X.env :: X.outer) → h.get? a = some o → o.data = .fields vs → a ∉ frs (X.env :: X.outer) := fun {h o vs} ff e dd hm => by
      obtain ⟨_, o', e', hnf⟩ := ff.mem hm
      rw [e] at e'; cases e'
      exact hnf _ dd
    have nfr := notFr fl3.2.2.1 he3 hd3
    have nL : a ≠ X.env.locals := fun z => nfr (List.mem_filterMap.mpr ⟨X.env, List.mem_cons_self, by rw [hf, z]⟩)
    have nF : a ∉ X.fs := fun hm => by
      obtain ⟨e, he, q⟩ := List.mem_filterMap.mp hm
      exact nfr (List.mem_filterMap.mpr ⟨e, List.mem_cons_of_mem _ he, q⟩)
    have S3 := J3.suite he3 hd3 na nL nF
    have go : ∀ {hds' : List ExceptHandler} {l' : List (Value × Nat × (Addr → Value → Option Addr → TS))}, HasOk X hds' l' → wAsM X.K Wout D l' cls d σ' H' →
        wpAny (model X.prog X.w) X.A (handleBy (.ref a) X.env hds') (SP X pins D) X.xe { s' with heap := h3 } := by
      intro hds' l' hk
      induction hk with
      | nil =>
        intro w
        refine wpAny_handleBy_nil ?_
        obtain ⟨k1, k2, k3, oe, vs, T, oT, ts', he, hz, hd, h1, hr⟩ := id fl3
        unfold PySem.passOn
        refine wpAny_bind (wpAny_field he hd h1 ?_)
        rw [if_neg (show ¬ ((Value.ref T == Value.none) = true) from by simp)]
        have fin : wpAny (model X.prog X.w) X.A (setFlight (.ref a) X.env.frame) (fun _ s4 => wpAny (model X.prog X.w) X.A (throw (.ref a) : Sem Flow) (SP X pins D) X.xe s4) X.xe { s' with heap := h3 } := by
          rw [hf]
          refine HandSPX.setFlight_upZ fl3 fun h4 hh4 up4 => wpAny_throw (tk _ _ ?_)
          exact ⟨a, B, sI, pins, σ', H', cls, d, rfl, J, nb, (up.trans up3).trans up4, .inr (.inr (by rw [hs]; exact hh4)), na, os, ag, w⟩
        first
          | exact wpAny_bind (wpAny_pure (wpAny_bind fin))
          | exact wpAny_bind fin
      | @cons x n c i ts b₀ suite np pos' hds2 l2 hN hi hln hc hsu r ih =>
        intro w
        obtain ⟨b, hb1, hyes, hno⟩ := w
        have hloc : Loc X.env.scope n := .inl hln
        refine wpAny_handleBy_cons (codeAny_handlers_test ?_) (by intro q; cases q)
        have LT : PySem.W.Looks (model X.prog X.w) h3 (typeOf (.ref a)) cls := fun A Q E s k q => wpAny_typeOf_ref (k _ _ he3) (by rw [hz3.1]; exact q)
        have LM := PySem.W.exm_one (M := model X.prog X.w) (J3.kIn) LT hb1
        have test : ∀ {Q : Value → Shared → Prop} {E : Value → Shared → Prop}, Q c { s' with heap := h3 } → wpAny (model X.prog X.w) (X.A.mark (some (.ref a))) (eval (.Name x np) X.env) Q E { s' with heap := h3 } := fun {Q E} q => by
          obtain ⟨hg, hdbg, hm | ⟨hm, hv, hnn⟩⟩ := hc
          · exact ld_glob (X := X.suite a ((a, oe3) :: (X.pn ++ pins))) S3 hg hm q hdbg
          · exact ld_blt (X := X.suite a ((a, oe3) :: (X.pn ++ pins))) S3 hg hm hv q hnn hdbg
        refine test (LM.here ?_)
        cases b with
        | true =>
          refine codeAny_handlers_suite_as ?_
          refine HandSPX.lands_againZ fl3 fun h4 fl4 up4 => ?_
          have J4 : Inv X pins σ' H' { s' with heap := h4 } := J.landed nb fl4.1 ((up.trans up3).trans up4) os ag
          obtain ⟨oe4, vs4, he4, hz4, hd4⟩ := fl4.there
          have S4 := J4.suite he4 hd4 na nL nF
          refine store_ok (X := X.suite a ((a, oe4) :: (X.pn ++ pins))) (v := .ref a) S4 hN hi hloc rfl (fun s5 S5 => ?_) (.inr hln)
          refine wpAny_mono ((hsu a oe4 cls d (X.pn ++ pins) hz4 ⟨_, hd4⟩).run [] s5 _ H' _ S5 (hyes rfl a na)) (fun f s6 hsp => ?_) (fun _ _ z => False.elim z)
          have end_ : ∀ {σ6 : L2.St} {H6 : Hp} {Q : Shared → Prop}, Inv (X.suite a ((a, oe4) :: (X.pn ++ pins))) [] σ6 H6 s6 → (∀ s7, Inv X pins (σ6.set i none) H6 s7 → Q s7) →
              wpAny (model X.prog X.w) X.A (do bindName X.env n .none; unbindBehindTheSuite X.env n pos') (fun _ s7 => Q s7) X.xe s6 := fun {σ6 H6 Q} S6 hq => gone_ok (S6.unsuite ok) hN hi hln hq
          cases f with
          | next =>
            obtain ⟨σ6, H6, S6, q6⟩ := hsp
            exact end_ S6 fun s7 J7 => ⟨_, _, J7, q6⟩
          | brk =>
            obtain ⟨σ6, H6, S6, q6⟩ := hsp
            exact end_ S6 fun s7 J7 => ⟨_, _, J7, q6⟩
          | cont =>
            obtain ⟨σ6, H6, S6, q6⟩ := hsp
            exact end_ S6 fun s7 J7 => ⟨_, _, J7, q6⟩
          | ret u =>
            obtain ⟨v6, σ6, H6, S6, r6, q6⟩ := hsp
            exact end_ S6 fun s7 J7 => ⟨_, _, _, J7, r6, q6⟩
        | false =>
          show wpAny _ X.A (handleBy (.ref a) X.env hds2) _ _ _
          exact ih (hno rfl)
    exact go hh w
  · cases f with
    | next =>
      obtain ⟨σ', H', J', q⟩ := hsp
      exact wpAny_execs_nil ⟨σ', H', J'.ofTry ok, q⟩
    | brk =>
      obtain ⟨σ', H', J', q⟩ := hsp
      exact ⟨σ', H', J'.ofTry ok, q⟩
    | cont =>
      obtain ⟨σ', H', J', q⟩ := hsp
      exact ⟨σ', H', J'.ofTry ok, q⟩
    | ret u =>
      obtain ⟨v, σ', H', J', r, q⟩ := hsp
      exact ⟨v, σ', H', J'.ofTry ok, r, q⟩
end
/-! ### C0.__init__(self, ..), C0 an own class whose __init__ is ValueError's -/
section
variable {X : Cx} {e : Expr} {es : List Expr} {ta : TA} {n : Str} {C0 : Addr} {mc : Value} {p1 p2 pos : Pos}
theorem pe_xinit {pl : Sem Bool} (hg : Gl X n) (hm : X.mg n = some (.ref C0)) (r : ClX.CRead X.K C0 mc) (vV : PySem.W.findCls X.K (.ref C0) mc "__init__" = some (.val (.builtin "ValueError.__init__"))) (ha : PA X (e :: es) ta)
    (hc : eval (.Call (.Attribute (.Name n p1) "__init__" p2) (e :: es) [] pos) X.env = (do
      let ov ← eval (.Name n p1) X.env
      standAt p2.atName
      let (f, first) ← holding [ov] (getMethod ov "__init__" pl)
      callWith pos f first (backTo pos (starEach (e :: es) X.env)) (backToKw pos (keywordEach [] X.env))) := by rfl)
    (hd : (n == ("__debug__" : Str)) = false := by decide)
    (he : starEach (e :: es) X.env = (false, eval e X.env) :: starEach es X.env := by rfl) (hpl : (backTo pos (starEach es X.env)).any (·.1) = false := by rfl) :
    PE X (.Call (.Attribute (.Name n p1) "__init__" p2) (e :: es) [] pos) (tVeI X.K ta) := by
  refine ⟨fun pins s σ H Q I h => ?_⟩
  refine PySem.W.methodCall_KW (ld_glob I hg hm ?_ hd) hc
  refine PySem.W.method_cls I.kIn r.ga ?_
  refine PySem.W.cls_value I.kIn r.rd vV (by decide +kernel) ?_
  show wpAny _ _ (callWith pos (Value.builtin "ValueError.__init__") [] (backTo pos (starEach (e :: es) X.env)) []) _ _ _
  refine PyProof.Rows.callWith_method1 (thn (ha.run pos pins _ σ H _ (I.tok _) h) fun us s1 ⟨vs, H1, I1, r1, a, C, ws, ev, hl, T, ea, q⟩ => ?_) he hpl
  subst ev
  cases r1 with
  | @cons _ u0 _ ur ra rw' =>
    obtain rfl : u0 = Value.ref a := ra
    have hlen : ur.length ≤ sizeLine := by
      rw [← Paired.length rw', sizeLine_eq]
      omega
    exact oinit_ok T I1 ea hlen fun s' J => ⟨.non, H1, J, rfl, q⟩
end
/-! ### readings' heads, and what is told of TooLong -/
theorem k_ifSx {c : TT} {t u : TS} {D : Ends} {σ : L2.St} {H : Hp} (h : c σ H fun b H1 => if b = true then t D σ H1 else u D σ H1) : tIfS c t u D σ H := h
theorem k_callSx {sp : Sp} {E : L2.St → XK} {tr : TA} {σ : L2.St} {H : Hp} {Q : VK} (h : tr σ H fun vs H1 => sp vs H1 Q (E σ)) : tCallS sp E tr σ H Q := h
/-- an error of the class at C may lie in the air, that has needed = m -/
def TL (C : Addr) (E : XK) (H : Hp) (m : Int) : Prop := ∀ (d : Addr) (H' : Hp), Same H H' → H' d = some (.xd [("needed", .int m)]) → E (.ref C) (some d) H'
theorem TL.mono {C : Addr} {E : XK} {H H1 : Hp} {m : Int} (t : TL C E H m) (s : Same H H1) : TL C E H1 m := fun d H' s' e => t d H' (s.trans s') e
theorem k_isX {K : PySem.W.Frag} {H : Hp} {Q : VK} {a D : Addr} {d : Option Addr} {c : V} {cv : Value} {b : Bool} (C : ExcC K D) (hd : DOk H d) (hcv : ∀ u, RelV c u → u = cv) (h : PySem.W.kitOne K (.ref D) cv = some b) (q : Q (.bl b) H) : rIsC K a (.ref D) d [.ref a, c] H Q :=
  ⟨D, c, cv, b, rfl, rfl, C, hd, hcv, h, q⟩
theorem k_xf {a C : Addr} {cls : Value} {d : Option Addr} {f : Str} {te : TE} {σ : L2.St} {H : Hp} {Q : VK} (h : te σ H fun x H1 => x = .ref a ∧ cls = .ref C ∧ ∃ (dd : Addr) (fs : List (Str × V)) (v : V), d = some dd ∧ H1 dd = some (.xd fs) ∧ fs.lookup f = some v ∧ Q v H1) : tXf a cls d C f te σ H Q := h
/-- self of an own error, being made -/
theorem tl_made {C a d : Addr} {E : XK} {H H2 : Hp} {m : Int} (t : TL C E H m) (ha : H a = none) (hd : H d = none) (e : H2 = upd (upd (upd H a (exo a C none)) d (exd d [("needed", .int m)])) a (exo a C (some d))) : E (.ref C) (some d) (upd (del H2 a) d (.xd [("needed", .int m)])) := by
  refine t d _ (fun b o h => ?_) upd_same
  have nb : b ≠ d := ne_of_none h hd
  have na : b ≠ a := ne_of_none h ha
  rw [upd_ne nb, del_ne na, e, upd_ne na, upd_ne nb, upd_ne na]
  exact h
/-- C(self, needed) -/
def spTL (C : Addr) : Sp := fun vs H Q _ => ∃ (a : Addr) (m : Int), vs = [.ref a, .int m] ∧ H a = some (exo a C none) ∧ ∀ dx, H dx = none → dx ≠ a → Q .non (upd (upd H dx (exd dx [("needed", .int m)])) a (exo a C (some dx)))
theorem k_mkTL {C : Addr} {H : Hp} {E : XK} {m : Int} (t : TL C E H m) : ([V.int m] : List V).length ≤ 1000 ∧ ∀ a, H a = none → spTL C (.ref a :: ([V.int m] ++ [])) (upd H a (exo a C none))
    (fun v H2 => v = .non ∧ ∃ (d : Addr) (fs : List (Str × V)), H2 a = some (exo a C (some d)) ∧ H2 d = some (exd d fs) ∧ H d = none ∧ E (.ref C) (some d) (upd (del H2 a) d (.xd fs))) (fun _ _ _ => False) := by
  refine ⟨by show 1 ≤ 1000; decide, fun a ha => ⟨a, m, rfl, upd_same, fun dx hd hda => ⟨rfl, dx, [("needed", .int m)], upd_same, ?_, ?_, ?_⟩⟩⟩
  · rw [upd_ne hda, upd_same]
  · rw [upd_ne hda] at hd; exact hd
  · rw [upd_ne hda] at hd
    exact tl_made t ha hd rfl
theorem k_veI {K : PySem.W.Frag} {ta : TA} {σ : L2.St} {H : Hp} {Q : VK} (h : ta σ H fun vs H1 => ∃ (a C : Addr) (ws : List V), vs = .ref a :: ws ∧ ws.length ≤ 1000 ∧ OexC K C ∧ H1 a = some (exo a C none) ∧ Q .non H1) : tVeI K ta σ H Q := h
theorem k_ost {K : PySem.W.Frag} {f : Str} {to te : TE} {D : Ends} {σ : L2.St} {H : Hp} (h : te σ H fun y H1 => to σ H1 fun x H2 => ∃ a C : Addr, x = .ref a ∧ OexC K C ∧ PySem.W.findIn K (.ref C) f = some none ∧
  ((H2 a = some (exo a C none) ∧ ∀ dx, H2 dx = none → dx ≠ a → D.nx σ (upd (upd H2 dx (exd dx [(f, y)])) a (exo a C (some dx)))) ∨
    ∃ (dx : Addr) (fs : List (Str × V)), H2 a = some (exo a C (some dx)) ∧ H2 dx = some (exd dx fs) ∧ fs.length ≤ 900 ∧ D.nx σ (upd H2 dx (exd dx ((f, y) :: fs))))) : tOst K f to te D σ H := h
theorem k_mkO {C : Addr} {sp : Sp} {dvs : List V} {ta : TA} {σ : L2.St} {H : Hp} {Q : XK} (h : ta σ H fun vs H1 => vs.length ≤ 1000 ∧ ∀ a, H1 a = none → sp (.ref a :: (vs ++ dvs)) (upd H1 a (exo a C none))
  (fun v H2 => v = .non ∧ ∃ (d : Addr) (fs : List (Str × V)), H2 a = some (exo a C (some d)) ∧ H2 d = some (exd d fs) ∧ H1 d = none ∧ Q (.ref C) (some d) (upd (del H2 a) d (.xd fs))) (fun _ _ _ => False)) : tMkO C sp dvs ta σ H Q := h

section
open NdefX LamX
/-! ### methods that raise, objects whose making raises -/
section
variable {X : Cx} {CX : CXT} {k : Nat} {f C : Addr} {fd : FuncData} {ps : List Str} {sp : Sp} {dvs : List V} {ds : List Value} {E : L2.St → XK} {x m : Str} {p pos apos : Pos} {e o : Expr} {es : List Expr} {ta : TE} {t : TA}
def tMethX (C : Addr) (m : Str) (sp : Sp) (dvs : List V) (E : L2.St → XK) (ta : TE) (t : TA) : TE := fun σ H Q => ta σ H fun x H1 => ∃ a dx fs, x = .ref a ∧ H1 a = some (.ins C dx fs) ∧ fs.lookup m = none ∧
  t σ H1 fun vs H2 => sp (x :: (vs ++ dvs)) H2 Q (E σ)
theorem pe_methX {pl : Sem Bool} (he : PE X o ta) (c : Cls X.K C) (hm : Meth X.K C m f) (F : FnOk X.prog X.w X.K X.mg X.base CX k f fd ps sp) (hr : Room k X.A) (hb : Binds X.K fd ps ds) (hd : Vals dvs ds) (hx : ∀ σ, PassesAt CX X σ (E σ)) (ha : PA X (e :: es) t)
    (hst : starEach (e :: es) X.env = (false, eval e X.env) :: starEach es X.env := by rfl) (hpl : (backTo pos (starEach es X.env)).any (·.1) = false := by rfl)
    (ht : eval (.Call (.Attribute o m apos) (e :: es) [] pos) X.env = (do
      let ov ← eval o X.env
      standAt apos.atName
      let (f, first) ← holding [ov] (getMethod ov m pl)
      callWith pos f first (backTo pos (starEach (e :: es) X.env)) (backToKw pos (keywordEach [] X.env))) := by rfl) :
    PE X (.Call (.Attribute o m apos) (e :: es) [] pos) (tMethX C m sp dvs E ta t) := by
  refine ⟨fun pins s σ H Q I h => ?_⟩
  refine PySem.W.methodCall_KW (pl := pl) (thn (he.run pins s σ H _ I h) fun u s1 ⟨x, H1, I1, rx, a, dx, fs, ex, ea, l, q⟩ => ?_) ht
  subst ex
  obtain rfl : u = Value.ref a := rx
  refine getmeth_ok I1 ea c hm l ?_
  refine PySem.W.callWith_K (first := [.ref a]) (h₀ := X.base) I.ok.mod.kin hm.kp (thn (ha.run pos pins s1 σ H1 _ I1 q) fun us s2 ⟨vs, H2, I2, r, q2⟩ => ⟨I2.kIn, ?_⟩) hst hpl
  exact run_fnSD (us := .ref a :: us) (vs := .ref a :: vs) F hr hb hd (hx σ) I2 (.cons rfl r) q2
theorem run_makeX {pins : List (Addr × Obj)} {σ : L2.St} {H : Hp} {s : Shared} {Q : VK} {E : XK} {us : List Value} {vs : List V} (M : Mk X.K C f) (F : FnOk X.prog X.w X.K X.mg X.base CX k f fd ps sp) (hr : Room (k + 1) X.A) (hb : Binds X.K fd ps ds) (hd : Vals dvs ds)
    (hx : PassesAt CX X σ E) (I : Inv X pins σ H s) (r : Vals vs us)
    (h : ∀ x dx, H x = none → H dx = none → dx ≠ x → sp (.ref x :: (vs ++ dvs)) (upd (upd H dx (.own x)) x (.ins C dx [])) (fun v H2 => v = .non ∧ Q (.ref x) H2) E) :
    wpAny (model X.prog X.w) X.A (call (.ref C) us) (EP X pins σ Q) X.xe s := by
  have hq := h (s.heap.objs.size + 1) s.heap.objs.size (I.hok.fresh (Nat.le_succ _)) (I.hok.fresh (Nat.le_refl _)) (Nat.ne_of_lt (Nat.lt_succ_self _))
  have I2 := Inv.made (C := C) I
  have r2 : Vals (V.ref (s.heap.objs.size + 1) :: (vs ++ dvs)) (Value.ref (s.heap.objs.size + 1) :: (us ++ ds)) := .cons rfl (r.append hd)
  have hl : (Value.ref (s.heap.objs.size + 1) :: us ++ ds).length = ps.length := by
    have e := r2.length
    rw [F.len _ _ _ _ hq] at e
    exact e.symm
  refine wpAny_call (make_map (f := f) I.kIn M.makes M.init (beq_iff_eq.mp M.fn) (codeAny_mono (F.run _ X.stack _ _ ⟨Value.ref (s.heap.objs.size + 1) :: us, []⟩ (Value.ref (s.heap.objs.size + 1) :: (us ++ ds)) _ _ E (hr.make C us [])
    (I2.env0.make C us []) (hb _ (Value.ref (s.heap.objs.size + 1) :: us) I2.kIn hl) r2 hq) fun r s' hq' => ?_))
  cases r with
  | error e => exact hx pins _ _ e s' I2 hq'
  | ok fl =>
    cases fl with
    | ret u =>
      obtain ⟨v, H', I3, rv, ev, q3⟩ := I2.after hq'
      subst ev
      exact ⟨rv, ⟨V.ref (s.heap.objs.size + 1), H', I3, rfl, q3⟩⟩
    | next => exact False.elim hq'
    | brk => exact False.elim hq'
    | cont => exact False.elim hq'
def tMakeX (C : Addr) (sp : Sp) (dvs : List V) (E : L2.St → XK) (t : TA) : TE := fun σ H Q => t σ H fun vs H1 => ∀ x dx, H1 x = none → H1 dx = none → dx ≠ x →
  sp (.ref x :: (vs ++ dvs)) (upd (upd H1 dx (.own x)) x (.ins C dx [])) (fun v H2 => v = .non ∧ Q (.ref x) H2) (E σ)
theorem pe_makeX (M : Mk X.K C f) (F : FnOk X.prog X.w X.K X.mg X.base CX k f fd ps sp) (hr : Room (k + 1) X.A) (hg : Gl X x) (hm : X.mg x = some (.ref C)) (hb : Binds X.K fd ps ds) (hd : Vals dvs ds) (hx : ∀ σ, PassesAt CX X σ (E σ))
    (ha : PA X (e :: es) t) (hdb : (x == ("__debug__" : Str)) = false := by decide) (he : starEach (e :: es) X.env = (false, eval e X.env) :: starEach es X.env := by rfl) (hpl : (backTo pos (starEach es X.env)).any (·.1) = false := by rfl) :
    PE X (.Call (.Name x p) (e :: es) [] pos) (tMakeX C sp dvs E t) := by
  refine ⟨fun pins s σ H Q I h => ?_⟩
  refine wpAny_Call_Name_kw (ld_glob I hg hm ?_ hdb)
  refine PySem.W.callWith_K (h₀ := X.base) I.ok.mod.kin M.kp (thn (ha.run pos pins s σ H _ I h) fun us s1 ⟨vs, H1, I1, r, q⟩ => ⟨I1.kIn, ?_⟩) he hpl
  exact run_makeX M F hr hb hd (hx σ) I1 r q
end
section
variable {K : PySem.W.Frag} {σ : L2.St} {H : Hp} {Q : VK} {C a : Addr} {m : Str} {ta : TE} {t : TA} {sp : Sp} {dvs : List V} {E : L2.St → XK}
theorem k_metX' (h : ta σ H fun x H1 => MetR C m sp dvs (E σ) t σ x H1 Q) : tMethX C m sp dvs E ta t σ H Q := h
theorem k_makX (h : t σ H fun vs H1 => MakR C sp dvs (E σ) vs H1 Q) : tMakeX C sp dvs E t σ H Q := h
end
/-- an error of the class at C may lie in the air, with these fields -/
def TV (T : List NTab) (C : Addr) (E : XK) (H : Hp) (fs : List (Str × V)) : Prop := ∀ (d : Addr) (H' : Hp), SameT T H H' → H' d = some (.xd fs) → E (.ref C) (some d) H'
/-- an error without fields -/
def TN (T : List NTab) (C : Addr) (E : XK) (H : Hp) : Prop := ∀ H', SameT T H H' → E (.ref C) none H'
theorem TV.mono {T : List NTab} {C : Addr} {E : XK} {H H1 : Hp} {fs : List (Str × V)} (t : TV T C E H fs) (s : SameT T H H1) : TV T C E H1 fs := fun d H' s' e => t d H' (s.trans s') e
theorem TN.mono {T : List NTab} {C : Addr} {E : XK} {H H1 : Hp} (t : TN T C E H) (s : SameT T H H1) : TN T C E H1 := fun H' s' => t H' (s.trans s')
/-- C(self, v): one field -/
def spTV1 (C : Addr) (f : Str) : Sp := fun vs H Q _ => ∃ (a : Addr) (v : V), vs = [.ref a, v] ∧ H a = some (exo a C none) ∧ ∀ dx, H dx = none → dx ≠ a → Q .non (upd (upd H dx (exd dx [(f, v)])) a (exo a C (some dx)))
theorem k_mkTV1 {T : List NTab} {C : Addr} {H : Hp} {E : XK} {f : Str} {v : V} (t : TV T C E H [(f, v)]) : ([v] : List V).length ≤ 1000 ∧ ∀ a, H a = none → spTV1 C f (.ref a :: ([v] ++ [])) (upd H a (exo a C none))
    (fun w H2 => w = .non ∧ ∃ (d : Addr) (fs : List (Str × V)), H2 a = some (exo a C (some d)) ∧ H2 d = some (exd d fs) ∧ H d = none ∧ E (.ref C) (some d) (upd (del H2 a) d (.xd fs))) (fun _ _ _ => False) := by
  refine ⟨by show 1 ≤ 1000; decide, fun a ha => ⟨a, v, rfl, upd_same, fun dx hd hda => ⟨rfl, dx, [(f, v)], upd_same, ?_, ?_, ?_⟩⟩⟩
  · rw [upd_ne hda, upd_same]
  · rw [upd_ne hda] at hd; exact hd
  · rw [upd_ne hda] at hd
    refine t dx _ (.of fun b o h => ?_) upd_same
    have nb : b ≠ dx := ne_of_none h hd
    have na : b ≠ a := ne_of_none h ha
    rw [upd_ne nb, del_ne na, upd_ne na, upd_ne nb, upd_ne na]
    exact h
/-- C(self, v, w): two fields -/
def spTV2 (C : Addr) (f g : Str) : Sp := fun vs H Q _ => ∃ (a : Addr) (v w : V), vs = [.ref a, v, w] ∧ H a = some (exo a C none) ∧ ∀ dx, H dx = none → dx ≠ a → Q .non (upd (upd (upd H dx (exd dx [(f, v)])) a (exo a C (some dx))) dx (exd dx [(g, w), (f, v)]))
theorem k_mkTV2 {T : List NTab} {C : Addr} {H : Hp} {E : XK} {f g : Str} {v w : V} (t : TV T C E H [(g, w), (f, v)]) : ([v, w] : List V).length ≤ 1000 ∧ ∀ a, H a = none → spTV2 C f g (.ref a :: ([v, w] ++ [])) (upd H a (exo a C none))
    (fun u H2 => u = .non ∧ ∃ (d : Addr) (fs : List (Str × V)), H2 a = some (exo a C (some d)) ∧ H2 d = some (exd d fs) ∧ H d = none ∧ E (.ref C) (some d) (upd (del H2 a) d (.xd fs))) (fun _ _ _ => False) := by
  refine ⟨by show 2 ≤ 1000; decide, fun a ha => ⟨a, v, w, rfl, upd_same, fun dx hd hda => ⟨rfl, dx, [(g, w), (f, v)], ?_, upd_same, ?_, ?_⟩⟩⟩
  · rw [upd_ne (fun z => hda z.symm), upd_same]
  · rw [upd_ne hda] at hd; exact hd
  · rw [upd_ne hda] at hd
    refine t dx _ (.of fun b o h => ?_) upd_same
    have nb : b ≠ dx := ne_of_none h hd
    have na : b ≠ a := ne_of_none h ha
    rw [upd_ne nb, del_ne na, upd_ne nb, upd_ne na, upd_ne nb, upd_ne na]
    exact h
theorem k_callSDx {sp : Sp} {dvs : List V} {E : L2.St → XK} {tr : TA} {σ : L2.St} {H : Hp} {Q : VK} (h : tr σ H fun vs H1 => sp (vs ++ dvs) H1 Q (E σ)) : tCallSD sp dvs E tr σ H Q := h
theorem k_altVX {σ : L2.St} {H : Hp} {Q : VK} {C1 C2 : Addr} {m : Str} {t : TA} {sp1 sp2 : Sp} {E : L2.St → XK} {i : Nat} {x : V} (hs : σ[i]? = some (some x)) (h : AltR C1 C2 m sp1 sp2 (E σ) t σ x H Q) : tAlt (tMethX C1 m sp1 [] E (tVar i) t) (tMethX C2 m sp2 [] E (tVar i) t) σ H Q :=
  h.imp (fun h => ⟨x, hs, h⟩) (fun h => ⟨x, hs, h⟩)
/-! == of the same data -/
theorem shaped_lay {d : PyData} (h : SeqAt.shaped d = true) : d.canLay0 = true := by
  unfold SeqAt.shaped at h
  simp only [Bool.and_eq_true] at h
  exact h.1
theorem k_eqSame {K : PySem.W.Frag} {H : Hp} {Q : VK} {x y : V} {d : PyData} (hd : Dp K H x d) (he : Dp K H y d) (s : SeqAt.shaped d = true) (q : Q (.bl true) H) : rEqA K x y H Q := k_eqDD hd he s s (SeqAt.eqv_refl _ (shaped_lay s)) q
theorem k_neSame {K : PySem.W.Frag} {H : Hp} {Q : VK} {x y : V} {d : PyData} (hd : Dp K H x d) (he : Dp K H y d) (s : SeqAt.shaped d = true) (q : Q (.bl false) H) : rNeA K x y H Q := k_neDD hd he s s (SeqAt.eqv_refl _ (shaped_lay s)) q
theorem dp_t3 {K : PySem.W.Frag} {H : Hp} {p : Addr} {a b c : Int} (h : SqT K H p [.int a, .int b, .int c]) : Dp K H (.ref p) (.tuple [.int a, .int b, .int c]) := .tup h (.cons (.int _) (.cons (.int _) (.cons (.int _) .nil)))

end

section
open NdefX LamX
/-! ### a method of an object of one of several classes; C.__init__(self, ..) of an own class -/
theorem FnOk.weaken {P : Program} {w : World} {K : PySem.W.Frag} {mg : Str → Option Value} {base : Heap} {CX : CXT} {k : Nat} {f : Addr} {fd : FuncData} {ps : List Str} {sp sp' : Sp} (h : ∀ vs H Q E, sp' vs H Q E → sp vs H Q E) (F : FnOk P w K mg base CX k f fd ps sp) :
    FnOk P w K mg base CX k f fd ps sp' := ⟨fun vs H Q E x => F.len vs H Q E (h _ _ _ _ x), fun A outer s H args us vs Q E hr e0 hb r hsp => F.run A outer s H args us vs Q E hr e0 hb r (h _ _ _ _ hsp)⟩
theorem FnOk.none {P : Program} {w : World} {K : PySem.W.Frag} {mg : Str → Option Value} {base : Heap} {CX : CXT} {k : Nat} {f : Addr} {fd : FuncData} {ps : List Str} {sp : Sp} (h : ∀ vs H Q E, ¬ sp vs H Q E) : FnOk P w K mg base CX k f fd ps sp :=
  ⟨fun vs H Q E x => (h _ _ _ _ x).elim, fun A outer s H args us vs Q E hr e0 hb r hsp => (h _ _ _ _ hsp).elim⟩
/-- of objects of the class at C only -/
def spIn (C : Addr) (sp : Sp) : Sp := fun vs H Q E => (∃ a rest dx fs, vs = .ref a :: rest ∧ H a = some (.ins C dx fs)) ∧ sp vs H Q E
structure MFam (P : Program) (w : World) (K : PySem.W.Frag) (mg : Str → Option Value) (base : Heap) (CX : CXT) (k : Nat) (m : Str) (Fm : Addr → Prop) (sp : Sp) : Prop where
  all : ∀ C, Fm C → Cls K C ∧ ∃ (f : Addr) (fd : FuncData) (ps : List Str), Meth K C m f ∧ FnOk P w K mg base CX k f fd ps (spIn C sp) ∧ Binds K fd ps []
section
variable {X : Cx} {CX : CXT} {k : Nat} {f C : Addr} {fd : FuncData} {ps : List Str} {sp : Sp} {dvs : List V} {ds : List Value} {E : XK} {Es : L2.St → XK} {x m n : Str} {p p1 p2 pos apos : Pos} {e o : Expr} {es : List Expr} {ta : TE} {t : TA} {Fm : Addr → Prop} {mc : Value}
def tMethF (Fm : Addr → Prop) (m : Str) (sp : Sp) (E : L2.St → XK) (ta : TE) (t : TA) : TE := fun σ H Q => ta σ H fun x H1 => ∃ a C dx fs, x = .ref a ∧ H1 a = some (.ins C dx fs) ∧ Fm C ∧ fs.lookup m = none ∧
  t σ H1 fun vs H2 => (∃ dx' fs', H2 a = some (.ins C dx' fs')) ∧ sp (x :: vs) H2 Q (E σ)
theorem pe_methF {pl : Sem Bool} (he : PE X o ta) (F : MFam X.prog X.w X.K X.mg X.base CX k m Fm sp) (hr : Room k X.A) (hx : ∀ σ, PassesAt CX X σ (Es σ)) (ha : PA X (e :: es) t)
    (hst : starEach (e :: es) X.env = (false, eval e X.env) :: starEach es X.env := by rfl) (hpl : (backTo pos (starEach es X.env)).any (·.1) = false := by rfl)
    (ht : eval (.Call (.Attribute o m apos) (e :: es) [] pos) X.env = (do
      let ov ← eval o X.env
      standAt apos.atName
      let (f, first) ← holding [ov] (getMethod ov m pl)
      callWith pos f first (backTo pos (starEach (e :: es) X.env)) (backToKw pos (keywordEach [] X.env))) := by rfl) :
    PE X (.Call (.Attribute o m apos) (e :: es) [] pos) (tMethF Fm m sp Es ta t) := by
  refine ⟨fun pins s σ H Q I h => ?_⟩
  refine PySem.W.methodCall_KW (pl := pl) (thn (he.run pins s σ H _ I h) fun u s1 ⟨x, H1, I1, rx, a, C, dx, fs, ex, ea, hf, l, q⟩ => ?_) ht
  subst ex
  obtain rfl : u = Value.ref a := rx
  obtain ⟨c, f, fd, ps, hm, G, hb⟩ := F.all C hf
  refine getmeth_ok I1 ea c hm l ?_
  refine PySem.W.callWith_K (first := [.ref a]) (h₀ := X.base) I.ok.mod.kin hm.kp (thn (ha.run pos pins s1 σ H1 _ I1 q) fun us s2 ⟨vs, H2, I2, r, ⟨dx', fs', e2⟩, q2⟩ => ⟨I2.kIn, ?_⟩) hst hpl
  exact run_fnS (us := .ref a :: us) (vs := .ref a :: vs) G hr hb (hx σ) I2 (.cons rfl r) ⟨⟨a, vs, dx', fs', rfl, e2⟩, q2⟩
theorem pe_methF0 {pl : Sem Bool} (he : PE X o ta) (F : MFam X.prog X.w X.K X.mg X.base CX k m Fm sp) (hr : Room k X.A) (hx : ∀ σ, PassesAt CX X σ (Es σ))
    (ht : eval (.Call (.Attribute o m apos) [] [] pos) X.env = (do
      let ov ← eval o X.env
      standAt apos.atName
      let (f, first) ← holding [ov] (getMethod ov m pl)
      callWith pos f first (backTo pos (starEach [] X.env)) (backToKw pos (keywordEach [] X.env))) := by rfl) :
    PE X (.Call (.Attribute o m apos) [] [] pos) (tMethF Fm m sp Es ta tNil) := by
  refine ⟨fun pins s σ H Q I h => ?_⟩
  refine PySem.W.methodCall_KW (pl := pl) (thn (he.run pins s σ H _ I h) fun u s1 ⟨x, H1, I1, rx, a, C, dx, fs, ex, ea, hf, l, q⟩ => ?_) ht
  subst ex
  obtain rfl : u = Value.ref a := rx
  obtain ⟨c, f, fd, ps, hm, G, hb⟩ := F.all C hf
  refine getmeth_ok I1 ea c hm l ?_
  obtain ⟨⟨dx', fs', e2⟩, q2⟩ := q
  exact PySem.W.callWith_K0 (first := [.ref a]) I1.kIn hm.kp (run_fnS (us := [.ref a]) (vs := [.ref a]) G hr hb (hx σ) I1 (.cons rfl .nil) ⟨⟨a, [], dx', fs', rfl, e2⟩, q2⟩)
theorem pass0s {X : Cx} (σ : L2.St) : PassesAt CX0 X σ E0 := fun _ _ _ _ _ _ h => False.elim h
/-- C0.__init__(self, ..) -/
theorem pe_cinit {pl : Sem Bool} {C0 : Addr} (hg : Gl X n) (hm : X.mg n = some (.ref C0)) (r : ClX.CRead X.K C0 mc) (vV : PySem.W.findCls X.K (.ref C0) mc "__init__" = some (.val (.ref f))) (hk : PySem.W.keepIn X.K (.ref f) = true)
    (F : FnOk X.prog X.w X.K X.mg X.base CX k f fd ps sp) (hr : Room k X.A) (hb : Binds X.K fd ps ds) (hd' : Vals dvs ds) (hx : Passes CX X E) (ha : PA X (e :: es) t)
    (hc : eval (.Call (.Attribute (.Name n p1) "__init__" p2) (e :: es) [] pos) X.env = (do
      let ov ← eval (.Name n p1) X.env
      standAt p2.atName
      let (f, first) ← holding [ov] (getMethod ov "__init__" pl)
      callWith pos f first (backTo pos (starEach (e :: es) X.env)) (backToKw pos (keywordEach [] X.env))) := by rfl)
    (hd : (n == ("__debug__" : Str)) = false := by decide)
    (he : starEach (e :: es) X.env = (false, eval e X.env) :: starEach es X.env := by rfl) (hpl : (backTo pos (starEach es X.env)).any (·.1) = false := by rfl) :
    PE X (.Call (.Attribute (.Name n p1) "__init__" p2) (e :: es) [] pos) (tCall sp dvs E t) := by
  refine ⟨fun pins s σ H Q I h => ?_⟩
  refine PySem.W.methodCall_KW (ld_glob I hg hm ?_ hd) hc
  refine PySem.W.method_cls I.kIn r.ga ?_
  refine PySem.W.cls_value I.kIn r.rd vV rfl ?_
  refine PySem.W.callWith_K (first := []) (h₀ := X.base) I.ok.mod.kin hk (thn (ha.run pos pins _ σ H _ (I.tok _) h) fun us s2 ⟨vs, H2, I2, rr, q2⟩ => ⟨I2.kIn, ?_⟩) he hpl
  exact run_fn F hr hb hd' hx I2 rr q2
end
section
variable {K : PySem.W.Frag} {σ : L2.St} {H : Hp} {Q : VK} {a C dx : Addr} {fs : List (Str × V)} {m : Str} {ta : TE} {t : TA} {sp : Sp} {E : L2.St → XK} {Fm : Addr → Prop} {x : V}
def MetF (Fm : Addr → Prop) (m : Str) (sp : Sp) (E : XK) (t : TA) (σ : L2.St) (x : V) (H1 : Hp) (Q : VK) : Prop := ∃ a C dx fs, x = .ref a ∧ H1 a = some (.ins C dx fs) ∧ Fm C ∧ fs.lookup m = none ∧ t σ H1 fun vs H2 => (∃ dx' fs', H2 a = some (.ins C dx' fs')) ∧ sp (x :: vs) H2 Q E
theorem k_callD {sp : Sp} {v : V} {dvs : List V} {E : XK} {Q : VK} {tr : TA} (h : tr σ H fun vs H1 => sp (vs ++ (v :: dvs)) H1 Q E) : tCall sp (v :: dvs) E tr σ H Q := h
theorem k_metF' (h : ta σ H fun x H1 => MetF Fm m sp (E σ) t σ x H1 Q) : tMethF Fm m sp E ta t σ H Q := h
theorem k_metF {E : XK} (h : H a = some (.ins C dx fs)) (hf : Fm C) (l : fs.lookup m = none) (q : t σ H fun vs H2 => (∃ dx' fs', H2 a = some (.ins C dx' fs')) ∧ sp (.ref a :: vs) H2 Q E) : MetF Fm m sp E t σ (.ref a) H Q := ⟨a, C, dx, fs, rfl, h, hf, l, q⟩
theorem k_metF0 {E : XK} (h : H a = some (.ins C dx fs)) (hf : Fm C) (l : fs.lookup m = none) (q : sp [.ref a] H Q E) : MetF Fm m sp E tNil σ (.ref a) H Q := ⟨a, C, dx, fs, rfl, h, hf, l, ⟨dx, fs, h⟩, q⟩
end
structure InsT (K : PySem.W.Frag) (C : Addr) : Prop where
  cl : Cls K C
  ha : PySem.W.findIn K (.ref C) "__class__" = some (some (.builtin "object.__class__"))
  hn : PySem.W.specialIn K (.builtin "object.__class__") "__get__" = some (some (.builtin "getset_descriptor.__get__"))
  htk : PySem.W.takesIn K (.builtin "object.__class__") = some true
  hm : PySem.W.mroIn K C (.type "object") = some true
theorem k_isi_insX {K : PySem.W.Frag} {H : Hp} {Q : VK} {a C D dx : Addr} {fs : List (Str × V)} {b : Bool} (h : H a = some (.ins C dx fs)) (i : InsT K C) (hk : PySem.W.kitOne K (.ref C) (.ref D) = some b) (q : Q (.bl b) H) : rIsi K [.ref a, .ref D] H Q :=
  ⟨.ref a, .ref D, .ref C, .ref D, b, rfl, .own D, .base (.ins h i.cl i.ha i.hn i.htk i.hm), hk, q⟩
theorem sm_addX {i j : Int} {a : Nat} (h : Sm a i) (h' : Sm a j) : Sm (a + 1) (i + j) := by
  have h1 := h.h
  have h2 := h'.h
  refine ⟨?_⟩
  rw [Nat.pow_succ]; omega
theorem sm_subX {i j : Int} {a : Nat} (h : Sm a i) (h' : Sm a j) : Sm (a + 1) (i - j) := by
  have h1 := h.h
  have h2 := h'.h
  refine ⟨?_⟩
  rw [Nat.pow_succ]; omega

end

section
open NdefX LamX
/-! ### rules -/
noncomputable def decC (p : Prop) : Bool := @decide p (Classical.propDecidable p)
theorem decC_iff {p : Prop} : decC p = true ↔ p := by unfold decC; exact @decide_eq_true_iff p (Classical.propDecidable p)
theorem decC_eq {b : Bool} {p : Prop} (h : b = true ↔ p) : b = decC p := by
  by_cases hp : p
  · rw [h.mpr hp, decC_iff.mpr hp]
  · have h1 : b = false := by
      cases hb : b with
      | false => rfl
      | true => exact absurd (h.mp hb) hp
    have h2 : decC p = false := by
      cases hb : decC p with
      | false => rfl
      | true => exact absurd (decC_iff.mp hb) hp
    rw [h1, h2]
inductive Wd where
  | and_ | or_ | but | unlike | upon | until_ | near | till
def Wd.str : Wd → Str
  | .and_ => "and"
  | .or_ => "or"
  | .but => "but"
  | .unlike => "unlike"
  | .upon => "upon"
  | .until_ => "until"
  | .near => "near"
  | .till => "till"
noncomputable def Wd.f : Wd → (Int → Bool) → (Int → Bool) → Int → Bool
  | .and_, f, g, d => f d && g d
  | .or_, f, g, d => f d || g d
  | .but, f, g, d => f d && !g d
  | .unlike, f, g, d => f d != g d
  | .upon, f, g, d => decC (uponP f g d)
  | .until_, f, g, d => decC (untilP f g d)
  | .near, f, g, d => decC (nearP f g d)
  | .till, f, g, d => decC (tillP f g d)
inductive Kc where
  | all | no | each | dated | notR | later | every | kth | pair (w : Wd)
inductive Rl where
  | all
  | no
  | each (s z : Int)
  | dated (nm : Str) (cal : Cal) (mo da : Option Int) (st re : Int)
  | notR (r : Rl)
  | later (z : Int) (r : Rl)
  | every (z : Int) (r : Rl) (x : Int)
  | kth (z : Int) (r s : Rl)
  | pair (w : Wd) (r s : Rl)
def DatedP (cal : Cal) (mo da : Option Int) (st re x : Int) : Prop :=
  ∃ y m d, DateIs cal x y m d ∧ (y - re) % st = 0 ∧ (mo = none ∨ mo = some m) ∧ (da = none ∨ ∃ v, da = some v ∧ (v = d ∨ (v < 0 ∧ v = d - (cal.lens y).getD (m - 1).toNat 0 - 1)))
def Rl.kc : Rl → Kc
  | .all => .all
  | .no => .no
  | .each .. => .each
  | .dated .. => .dated
  | .notR .. => .notR
  | .later .. => .later
  | .every .. => .every
  | .kth .. => .kth
  | .pair w .. => .pair w
def Rl.n : Rl → Nat
  | .all => 1
  | .no => 1
  | .each s _ => s.toNat
  | .dated _ cal _ _ st _ => (cal.dys * (lcmI cal.yrs st / cal.yrs)).toNat
  | .notR r => r.n
  | .later _ r => r.n
  | .every z r _ => r.n * z.toNat
  | .kth _ r s => Nat.lcm r.n s.n
  | .pair _ r s => Nat.lcm r.n s.n
noncomputable def Rl.f : Rl → Int → Bool
  | .all, _ => true
  | .no, _ => false
  | .each s z, d => decide ((d - z) % s = 0)
  | .dated _ cal mo da st re, d => decC (DatedP cal mo da st re d)
  | .notR r, d => !r.f d
  | .later z r, d => r.f (d - z)
  | .every z r x, d => decC (everyP z.toNat r.n (bitsOf r.n r.f) x d)
  | .kth z r s, d => decC (kthP z r.f s.f d)
  | .pair w r s, d => w.f r.f s.f d
noncomputable def Rl.b (r : Rl) : Nat := bitsOf r.n r.f
def Rl.dep : Rl → Nat
  | .all => 1
  | .no => 1
  | .each .. => 1
  | .dated .. => 1
  | .notR r => r.dep + 1
  | .later _ r => r.dep + 1
  | .every _ r _ => r.dep + 1
  | .kth _ r s => max r.dep s.dep + 1
  | .pair _ r s => max r.dep s.dep + 1
def optV : Option Int → V
  | none => .non
  | some v => .int v
def Rl.ext (c : Addr) : Rl → List (Str × V)
  | .all => []
  | .no => []
  | .each s z => [("rest", .int (z % s))]
  | .dated nm _ mo da st re => [("name", .str nm), ("calendar", .ref c), ("month", optV mo), ("day", optV da), ("step", .int st), ("rest", .int (re % st))]
  | .notR _ => []
  | .later z _ => [("number", .int z)]
  | .every z _ x => [("number", .int z), ("day", .int x)]
  | .kth z _ _ => [("number", .int z)]
  | .pair w _ _ => [("word", .str w.str)]
def Rl.Ok : Rl → Prop
  | .all => True
  | .no => True
  | .each s z => 1 ≤ s ∧ s ≤ 150000 ∧ Sm 400 z
  | .dated _ cal mo da st re => cal.Ok ∧ Sm 400 cal.st ∧ 1 ≤ st ∧ Sm 250 st ∧ Sm 400 re ∧ (∀ v, mo = some v → 1 ≤ v) ∧ da ≠ some 0 ∧ cal.dys * (lcmI cal.yrs st / cal.yrs) ≤ 150000
  | .notR r => r.Ok
  | .later z r => r.Ok ∧ Sm 400 z
  | .every z r x => r.Ok ∧ 1 ≤ z ∧ r.n * z.toNat ≤ 150000 ∧ Sm 400 x
  | .kth z r s => r.Ok ∧ s.Ok ∧ z ≠ 0 ∧ Sm 400 z ∧ Nat.lcm r.n s.n ≤ 150000
  | .pair _ r s => r.Ok ∧ s.Ok ∧ Nat.lcm r.n s.n ≤ 150000
def Wd.idx : Wd → Nat
  | .and_ => 0
  | .or_ => 1
  | .but => 2
  | .unlike => 3
  | .upon => 4
  | .until_ => 5
  | .near => 6
  | .till => 7
def Kc.idx : Kc → Nat
  | .all => 0
  | .no => 1
  | .each => 2
  | .dated => 3
  | .notR => 4
  | .later => 5
  | .every => 6
  | .kth => 7
  | .pair w => 8 + w.idx
theorem Kc.inj {k k' : Kc} (h : k.idx = k'.idx) : k = k' := by
  cases k <;> cases k' <;> first | rfl | (simp [Kc.idx] at h; done) | (rename_i w; cases w <;> simp [Kc.idx, Wd.idx] at h; done) | skip
  rename_i w w'
  cases w <;> cases w' <;> first | rfl | (simp [Kc.idx, Wd.idx] at h; done)
structure RCls where
  ls : List (Nat × Addr)
  s : Addr
  o : Addr
  m : Addr
def RCls.k (cc : RCls) (k : Kc) : Option Addr := cc.ls.lookup k.idx
theorem mem_lookup {l : List (Nat × Addr)} {i : Nat} {C : Addr} (h : l.lookup i = some C) : (i, C) ∈ l := by
  induction l with
  | nil => simp at h
  | cons p r ih =>
    obtain ⟨j, D⟩ := p
    rw [List.lookup_cons] at h
    by_cases e : i = j
    · subst e
      simp at h
      subst h
      exact List.mem_cons_self
    · rw [show (i == j) = false by simpa using e] at h
      exact List.mem_cons_of_mem _ (ih h)
theorem nodup_snd {l : List (Nat × Addr)} (nd : (l.map Prod.snd).Nodup) {i j : Nat} {C : Addr} (h : (i, C) ∈ l) (h' : (j, C) ∈ l) : i = j := by
  induction l with
  | nil => simp at h
  | cons p r ih =>
    rw [List.map_cons, List.nodup_cons] at nd
    obtain ⟨n1, n2⟩ := nd
    rcases List.mem_cons.mp h with e | e <;> rcases List.mem_cons.mp h' with e' | e'
    · rw [← e'] at e; exact (Prod.mk.inj e).1
    · exact absurd (by rw [← e]; exact List.mem_map.mpr ⟨_, e', rfl⟩) n1
    · exact absurd (by rw [← e']; exact List.mem_map.mpr ⟨_, e, rfl⟩) n1
    · exact ih n2 e e'
theorem RCls.inj {cc : RCls} (nd : (cc.ls.map Prod.snd).Nodup) {k k' : Kc} {C : Addr} (h : cc.k k = some C) (h' : cc.k k' = some C) : k = k' := Kc.inj (nodup_snd nd (mem_lookup h) (mem_lookup h'))
theorem kc_notR {r : Rl} (h : r.kc = .notR) : ∃ r', r = .notR r' := by cases r <;> first | exact ⟨_, rfl⟩ | (simp [Rl.kc] at h; done)
theorem kc_later {r : Rl} (h : r.kc = .later) : ∃ z r', r = .later z r' := by cases r <;> first | exact ⟨_, _, rfl⟩ | (simp [Rl.kc] at h; done)
theorem kc_each {r : Rl} (h : r.kc = .each) : ∃ s z, r = .each s z := by cases r <;> first | exact ⟨_, _, rfl⟩ | (simp [Rl.kc] at h; done)
theorem kc_all {r : Rl} (h : r.kc = .all) : r = .all := by cases r <;> first | rfl | (simp [Rl.kc] at h; done)
theorem kc_no {r : Rl} (h : r.kc = .no) : r = .no := by cases r <;> first | rfl | (simp [Rl.kc] at h; done)
theorem kc_every {r : Rl} (h : r.kc = .every) : ∃ z r' x, r = .every z r' x := by cases r <;> first | exact ⟨_, _, _, rfl⟩ | (simp [Rl.kc] at h; done)
theorem kc_kth {r : Rl} (h : r.kc = .kth) : ∃ z r' s, r = .kth z r' s := by cases r <;> first | exact ⟨_, _, _, rfl⟩ | (simp [Rl.kc] at h; done)
theorem kc_pair {r : Rl} {w : Wd} (h : r.kc = .pair w) : ∃ r' s, r = .pair w r' s := by cases r <;> first | (simp [Rl.kc] at h; done) | (simp [Rl.kc] at h; subst h; exact ⟨_, _, rfl⟩)
theorem kc_dated {r : Rl} (h : r.kc = .dated) : ∃ nm cal mo da st re, r = .dated nm cal mo da st re := by cases r <;> first | exact ⟨_, _, _, _, _, _, rfl⟩ | (simp [Rl.kc] at h; done)
def rfs (t l : Addr) (e : List (Str × V)) : List (Str × V) := ("made", .ref t) :: ("inner", .ref l) :: e
def Rl.CalO (K : PySem.W.Frag) (cc : RCls) (H : Hp) (c : Addr) : Rl → Prop
  | .dated _ cal _ _ _ _ => CalAt K cc.s cc.o cc.m H c cal
  | _ => True
def Hd (K : PySem.W.Frag) (cc : RCls) (H : Hp) (r : Rl) (a : Addr) (ps : List Addr) : Prop :=
  ∃ C dx t l c, cc.k r.kc = some C ∧ H a = some (.ins C dx (rfs t l (r.ext c))) ∧ RT K H t r.n r.b ∧ SqL K H l (ps.map V.ref) ∧ (∀ d, hold r.n r.b d = r.f d) ∧ r.CalO K cc H c
def RuleAt (K : PySem.W.Frag) (cc : RCls) (H : Hp) : Rl → Addr → Prop
  | .all, a => Hd K cc H .all a []
  | .no, a => Hd K cc H .no a []
  | .each s z, a => Hd K cc H (.each s z) a []
  | .dated nm cal mo da st re, a => Hd K cc H (.dated nm cal mo da st re) a []
  | .notR r, a => ∃ p, Hd K cc H (.notR r) a [p] ∧ RuleAt K cc H r p
  | .later z r, a => ∃ p, Hd K cc H (.later z r) a [p] ∧ RuleAt K cc H r p
  | .every z r x, a => ∃ p, Hd K cc H (.every z r x) a [p] ∧ RuleAt K cc H r p
  | .kth z r s, a => ∃ p q, Hd K cc H (.kth z r s) a [p, q] ∧ RuleAt K cc H r p ∧ RuleAt K cc H s q
  | .pair w r s, a => ∃ p q, Hd K cc H (.pair w r s) a [p, q] ∧ RuleAt K cc H r p ∧ RuleAt K cc H s q
section
variable {K : PySem.W.Frag} {cc : RCls} {H H' : Hp} {T : List NTab} {r s : Rl} {a x C dx : Addr}
theorem RuleAt.hd (h : RuleAt K cc H r a) : ∃ ps, Hd K cc H r a ps := by
  cases r with
  | all => exact ⟨_, h⟩
  | no => exact ⟨_, h⟩
  | each => exact ⟨_, h⟩
  | dated => exact ⟨_, h⟩
  | notR => obtain ⟨p, h, _⟩ := h; exact ⟨_, h⟩
  | later => obtain ⟨p, h, _⟩ := h; exact ⟨_, h⟩
  | every => obtain ⟨p, h, _⟩ := h; exact ⟨_, h⟩
  | kth => obtain ⟨p, q, h, _⟩ := h; exact ⟨_, h⟩
  | pair => obtain ⟨p, q, h, _⟩ := h; exact ⟨_, h⟩
/-- what is kept of a heap: all but tables and the object at x, which is blank -/
structure Kept (H H' : Hp) : Prop where
  tup : ∀ {a : Addr} {xs : List V}, SqT K H a xs → SqT K H' a xs
  lst : ∀ {a : Addr} {xs : List V}, SqL K H a xs → SqL K H' a xs
  ins : ∀ {a C d : Addr} {f : Str × V} {fs : List (Str × V)}, H a = some (.ins C d (f :: fs)) → H' a = some (.ins C d (f :: fs))
theorem Kept.of (s : SameT T H H') : Kept (K := K) H H' := ⟨s.sqt, s.sql, s.ins⟩
theorem Kept.blank (hx : H x = some (.ins C dx [])) (s : SameX T x H H') : Kept (K := K) H H' := by
  have ne : ∀ {b : Addr} {o : HO}, H b = some o → (∀ C d, o ≠ .ins C d []) → (∀ ps, o ≠ .tbl ps) → H' b = some o := fun {b o} h n nt => s.ext b o h (fun z => by rw [z, hx] at h; exact n _ _ (Option.some.inj h).symm) nt
  refine ⟨fun h => ?_, fun h => ?_, fun h => ne h (fun _ _ z => nomatch z) (fun _ z => nomatch z)⟩
  · rcases h with (h | ⟨o, h⟩) | h
    · exact .inl (.inl (ne h (fun _ _ z => nomatch z) (fun _ z => nomatch z)))
    · exact .inl (.inr ⟨o, ne h (fun _ _ z => nomatch z) (fun _ z => nomatch z)⟩)
    · exact .inr h
  · rcases h with (h | ⟨o, h⟩) | h
    · exact .inl (.inl (ne h (fun _ _ z => nomatch z) (fun _ z => nomatch z)))
    · exact .inl (.inr ⟨o, ne h (fun _ _ z => nomatch z) (fun _ z => nomatch z)⟩)
    · exact .inr h
theorem Kept.rt (k : Kept (K := K) H H') {n b : Nat} (h : RT K H a n b) : RT K H' a n b := ⟨k.tup h.t, h.n1, h.n2, h.lt⟩
theorem Kept.tms (k : Kept (K := K) H H') {l : Addr} {ts : List Tm} (h : TmsL K H l ts) : TmsL K H' l ts := by
  obtain ⟨qs, h1, h2, h3⟩ := h
  exact ⟨qs, k.lst h1, h2, fun i q t a b => k.tup (h3 i q t a b)⟩
theorem Kept.meas (k : Kept (K := K) H H') {CM m : Addr} {b : Int} {ts : List Tm} (h : MeasAt K CM H m b ts) : MeasAt K CM H' m b ts := by
  obtain ⟨dx, l, h1, h2⟩ := h
  exact ⟨dx, l, k.ins h1, k.tms h2⟩
theorem Kept.cal (k : Kept (K := K) H H') {CS CO CM c : Addr} {cal : Cal} (h : CalAt K CS CO CM H c cal) : CalAt K CS CO CM H' c cal := by
  cases cal with
  | sun =>
    obtain ⟨dx, pm, py, h1, h2, h3⟩ := h
    exact ⟨dx, pm, py, k.ins h1, k.lst h2, k.meas h3⟩
  | moon =>
    obtain ⟨dx, pd, pm, h1, h2, h3⟩ := h
    exact ⟨dx, pd, pm, k.ins h1, k.meas h2, k.meas h3⟩
theorem Kept.calO (k : Kept (K := K) H H') {c : Addr} (h : r.CalO K cc H c) : r.CalO K cc H' c := by
  cases r <;> first | exact k.cal h | exact h
theorem Kept.head (k : Kept (K := K) H H') {ps : List Addr} (h : Hd K cc H r a ps) : Hd K cc H' r a ps := by
  obtain ⟨C, dx, t, l, c, h1, h2, h3, h4, h5, h6⟩ := h
  exact ⟨C, dx, t, l, c, h1, k.ins h2, k.rt h3, k.lst h4, h5, k.calO h6⟩
theorem Kept.rule (k : Kept (K := K) H H') : ∀ {r : Rl} {a : Addr}, RuleAt K cc H r a → RuleAt K cc H' r a := by
  intro r
  induction r with
  | all => exact k.head
  | no => exact k.head
  | each => exact k.head
  | dated => exact k.head
  | notR r ih => rintro a ⟨p, h, h2⟩; exact ⟨p, k.head h, ih h2⟩
  | later z r ih => rintro a ⟨p, h, h2⟩; exact ⟨p, k.head h, ih h2⟩
  | every z r x ih => rintro a ⟨p, h, h2⟩; exact ⟨p, k.head h, ih h2⟩
  | kth z r s ih1 ih2 => rintro a ⟨p, q, h, h2, h3⟩; exact ⟨p, q, k.head h, ih1 h2, ih2 h3⟩
  | pair w r s ih1 ih2 => rintro a ⟨p, q, h, h2, h3⟩; exact ⟨p, q, k.head h, ih1 h2, ih2 h3⟩
theorem RuleAt.mono (s : SameT T H H') (h : RuleAt K cc H r a) : RuleAt K cc H' r a := (Kept.of s).rule h
theorem RuleAt.same (s : Same H H') (h : RuleAt K cc H r a) : RuleAt K cc H' r a := h.mono (T := []) (.of s)
end
/-! what a rule is made of -/
inductive RArgs (K : PySem.W.Frag) (cc : RCls) (H : Hp) : Rl → List V → Prop
  | all : RArgs K cc H .all []
  | no : RArgs K cc H .no []
  | each {s z : Int} : RArgs K cc H (.each s z) [.int s, .int z]
  | dated {nm : Str} {c : Addr} {cal : Cal} {mo da : Option Int} {st re : Int} (h : CalAt K cc.s cc.o cc.m H c cal) : RArgs K cc H (.dated nm cal mo da st re) [.str nm, .ref c, optV mo, optV da, .int st, .int re]
  | notR {r : Rl} {p : Addr} (h : RuleAt K cc H r p) : RArgs K cc H (.notR r) [.ref p]
  | later {z : Int} {r : Rl} {p : Addr} (h : RuleAt K cc H r p) : RArgs K cc H (.later z r) [.int z, .ref p]
  | every {z x : Int} {r : Rl} {p : Addr} (h : RuleAt K cc H r p) : RArgs K cc H (.every z r x) [.int z, .ref p, .int x]
  | kth {z : Int} {r s : Rl} {p q : Addr} (h : RuleAt K cc H r p) (h2 : RuleAt K cc H s q) : RArgs K cc H (.kth z r s) [.int z, .ref p, .ref q]
  | pair {w : Wd} {r s : Rl} {p q : Addr} (h : RuleAt K cc H r p) (h2 : RuleAt K cc H s q) : RArgs K cc H (.pair w r s) [.ref p, .ref q]
theorem RArgs.kept {K : PySem.W.Frag} {cc : RCls} {H H' : Hp} {r : Rl} {vs : List V} (k : Kept (K := K) H H') (h : RArgs K cc H r vs) : RArgs K cc H' r vs := by
  cases h with
  | all => exact .all
  | no => exact .no
  | each => exact .each
  | dated h => exact .dated (k.cal h)
  | notR h => exact .notR (k.rule h)
  | later h => exact .later (k.rule h)
  | every h => exact .every (k.rule h)
  | kth h h2 => exact .kth (k.rule h) (k.rule h2)
  | pair h h2 => exact .pair (k.rule h) (k.rule h2)
def spInit (K : PySem.W.Frag) (cc : RCls) (Tb : List NTab) (kc : Kc) : Sp := fun vs H Q _ => ∃ (x dx C : Addr) (ws : List V) (r : Rl), vs = .ref x :: ws ∧ cc.k kc = some C ∧ H x = some (.ins C dx []) ∧ r.kc = kc ∧ RArgs K cc H r ws ∧ r.Ok ∧ TabsN Tb H ∧
  ∀ H', SameX Tb x H H' → RuleAt K cc H' r x → Q .non H'
/-- a rule is made -/
theorem k_mkRule {K : PySem.W.Frag} {cc : RCls} {Tb : List NTab} {C : Addr} {H : Hp} {Q : VK} {vs dvs ws : List V} {r : Rl} (e : vs ++ dvs = ws) (hC : cc.k r.kc = some C) (ha : RArgs K cc H r ws) (ok : r.Ok) (hT : TabsN Tb H)
    (q : ∀ x H', H x = none → SameT Tb H H' → RuleAt K cc H' r x → Q (.ref x) H') : MakR C (spInit K cc Tb r.kc) dvs E0 vs H Q := by
  intro x dx hx hd hne
  have s0 : Same H (upd (upd H dx (.own x)) x (.ins C dx [])) := fun c o h => by
    rw [upd_ne (ne_of_none h hx), upd_ne (ne_of_none h hd)]; exact h
  exact ⟨x, dx, C, ws, r, by rw [e], hC, upd_same, rfl, ha.kept (.of (T := []) (.of s0)), ok, hT.ext s0, fun H' sx hr => ⟨rfl, q x H' hx (SameX.made hx hd sx) hr⟩⟩
def spTurn (K : PySem.W.Frag) (cc : RCls) : Sp := fun vs H Q _ => ∃ (a : Addr) (r : Rl), vs = [.ref a] ∧ RuleAt K cc H r a ∧ ∀ t, RT K H t r.n r.b → (∀ d, hold r.n r.b d = r.f d) → Q (.ref t) H
def spSize (K : PySem.W.Frag) (cc : RCls) : Sp := fun vs H Q _ => ∃ (a : Addr) (r : Rl), vs = [.ref a] ∧ RuleAt K cc H r a ∧ Q (.int (r.n : Int)) H
def spOn (K : PySem.W.Frag) (cc : RCls) (Tb : List NTab) (d : Nat) : Sp := fun vs H Q _ => ∃ (a : Addr) (r : Rl) (x : Int) (n : Nat), vs = [.ref a, .int x] ∧ RuleAt K cc H r a ∧ r.Ok ∧ r.dep ≤ d ∧ Sm n x ∧ 400 ≤ n ∧ n + r.dep ≤ 2900 ∧ TabsN Tb H ∧ ∀ H', SameT Tb H H' → Q (.bl (r.f x)) H'
theorem dep_pos (r : Rl) : 1 ≤ r.dep := by cases r <;> simp [Rl.dep]
theorem spOn_zero {K : PySem.W.Frag} {cc : RCls} {Tb : List NTab} {vs : List V} {H : Hp} {Q : VK} {E : XK} (h : spOn K cc Tb 0 vs H Q E) : False := by
  obtain ⟨a, r, x, n, _, _, _, hd, _⟩ := h
  have := dep_pos r; omega
/-! names that no rule has as a field -/
structure NoR (m : Str) : Prop where
  made : (m == ("made" : Str)) = false
  inner : (m == ("inner" : Str)) = false
  rest : (m == ("rest" : Str)) = false
  name : (m == ("name" : Str)) = false
  calendar : (m == ("calendar" : Str)) = false
  month : (m == ("month" : Str)) = false
  day : (m == ("day" : Str)) = false
  step : (m == ("step" : Str)) = false
  number : (m == ("number" : Str)) = false
  word : (m == ("word" : Str)) = false
theorem rfs_no {t l c : Addr} {r : Rl} {m : Str} (h : NoR m) : (rfs t l (r.ext c)).lookup m = none := by
  cases r <;> simp [rfs, Rl.ext, List.lookup, h.made, h.inner, h.rest, h.name, h.calendar, h.month, h.day, h.step, h.number, h.word]
theorem rfs_made {t l : Addr} {e : List (Str × V)} : (rfs t l e).lookup ("made" : Str) = some (.ref t) := by simp [rfs, List.lookup]
theorem rfs_inner {t l : Addr} {e : List (Str × V)} : (rfs t l e).lookup ("inner" : Str) = some (.ref l) := by
  have e : (("inner" : Str) == "made") = false := by decide +kernel
  simp [rfs, List.lookup, e]
theorem rfs_x {t l : Addr} {e : List (Str × V)} {m : Str} (h1 : (m == ("made" : Str)) = false) (h2 : (m == ("inner" : Str)) = false) : (rfs t l e).lookup m = e.lookup m := by simp [rfs, List.lookup, h1, h2]
theorem noR_on : NoR "on" := ⟨by decide +kernel, by decide +kernel, by decide +kernel, by decide +kernel, by decide +kernel, by decide +kernel, by decide +kernel, by decide +kernel, by decide +kernel, by decide +kernel⟩
theorem noR_turn : NoR "turn" := ⟨by decide +kernel, by decide +kernel, by decide +kernel, by decide +kernel, by decide +kernel, by decide +kernel, by decide +kernel, by decide +kernel, by decide +kernel, by decide +kernel⟩
theorem noR_size : NoR "size" := ⟨by decide +kernel, by decide +kernel, by decide +kernel, by decide +kernel, by decide +kernel, by decide +kernel, by decide +kernel, by decide +kernel, by decide +kernel, by decide +kernel⟩
theorem noR_shown : NoR "shown" := ⟨by decide +kernel, by decide +kernel, by decide +kernel, by decide +kernel, by decide +kernel, by decide +kernel, by decide +kernel, by decide +kernel, by decide +kernel, by decide +kernel⟩
theorem noR_parts : NoR "parts" := ⟨by decide +kernel, by decide +kernel, by decide +kernel, by decide +kernel, by decide +kernel, by decide +kernel, by decide +kernel, by decide +kernel, by decide +kernel, by decide +kernel⟩
theorem noR_remade : NoR "remade" := ⟨by decide +kernel, by decide +kernel, by decide +kernel, by decide +kernel, by decide +kernel, by decide +kernel, by decide +kernel, by decide +kernel, by decide +kernel, by decide +kernel⟩
/-- the classes of rules -/
def RCls.fam (cc : RCls) (C : Addr) : Prop := ∃ k, cc.k k = some C
section
variable {K : PySem.W.Frag} {cc : RCls} {H : Hp} {Q : VK} {r : Rl} {a : Addr} {m : Str} {sp : Sp} {E : XK} {σ : L2.St} {t : TA}
theorem k_ruleM0 (h : RuleAt K cc H r a) (n : NoR m) (q : sp [.ref a] H Q E) : MetF cc.fam m sp E tNil σ (.ref a) H Q := by
  obtain ⟨ps, C, dx, t, l, c, h1, h2, _⟩ := h.hd
  exact k_metF0 h2 ⟨_, h1⟩ (rfs_no n) q
theorem k_ruleM {v : V} (h : RuleAt K cc H r a) (n : NoR m) (ht : ∀ R : List V → Hp → Prop, R [v] H → t σ H R) (q : sp [.ref a, v] H Q E) : MetF cc.fam m sp E t σ (.ref a) H Q := by
  obtain ⟨ps, C, dx, tt, l, c, h1, h2, _⟩ := h.hd
  exact k_metF h2 ⟨_, h1⟩ (rfs_no n) (ht _ ⟨⟨_, _, h2⟩, q⟩)
end
/-! isinstance of an object, by an own class -/
theorem rl_n1 : ∀ {r : Rl}, r.Ok → 1 ≤ r.n ∧ r.n ≤ 150000 := by
  intro r
  induction r with
  | all => exact fun _ => ⟨Nat.le_refl _, by decide⟩
  | no => exact fun _ => ⟨Nat.le_refl _, by decide⟩
  | each s z => rintro ⟨h1, h2, _⟩; show 1 ≤ s.toNat ∧ s.toNat ≤ 150000; omega
  | dated nm cal mo da st re =>
    rintro ⟨ok, _, h1, _, _, _, _, h4⟩
    have y := cal.yrs_bd ok
    have d := cal.dys_pos ok
    obtain ⟨k, hk⟩ := dvd_lcm_left (a := cal.yrs) (b := st) y.1
    have e : lcmI cal.yrs st / cal.yrs = k := by rw [hk]; exact Int.mul_ediv_cancel_left _ (by omega)
    have hl := lcm_pos y.1 h1
    have k1 : 1 ≤ k := by
      by_cases z : k ≤ 0
      · have := Int.mul_le_mul_of_nonneg_left z (show 0 ≤ cal.yrs by omega)
        rw [← hk] at this; omega
      · omega
    have p := Int.mul_le_mul_of_nonneg_left k1 (show 0 ≤ cal.dys by omega)
    rw [e] at h4
    show 1 ≤ (cal.dys * (lcmI cal.yrs st / cal.yrs)).toNat ∧ (cal.dys * (lcmI cal.yrs st / cal.yrs)).toNat ≤ 150000
    rw [e]; omega
  | notR r ih => exact fun h => ih h
  | later z r ih => exact fun h => ih h.1
  | every z r x ih =>
    rintro ⟨h1, h2, h3, _⟩
    exact ⟨Nat.mul_pos (ih h1).1 (by omega), h3⟩
  | kth z r s ih1 ih2 =>
    rintro ⟨h1, h2, _, _, h3⟩
    exact ⟨Nat.lcm_pos (ih1 h1).1 (ih2 h2).1, h3⟩
  | pair w r s ih1 ih2 =>
    rintro ⟨h1, h2, h3⟩
    exact ⟨Nat.lcm_pos (ih1 h1).1 (ih2 h2).1, h3⟩
/-! the round that was made is the rule's -/
theorem rfs_p1 (t l : Addr) : putF "inner" (.ref l) (putF "made" (.ref t) []) = rfs t l [] := by
  show putF "inner" (.ref l) [("made", .ref t)] = _
  rw [putF_ne (by decide +kernel)]; rfl
theorem rfs_put {t l : Addr} {f : Str} {v : V} {e : List (Str × V)} (h1 : ("made" : Str) ≠ f) (h2 : ("inner" : Str) ≠ f) : putF f v (rfs t l e) = rfs t l (putF f v e) := by
  unfold rfs
  rw [putF_ne h1, putF_ne h2]
def MadeAt (K : PySem.W.Frag) (H : Hp) (t : Addr) (r : Rl) : Prop := RT K H t r.n r.b ∧ ∀ d, hold r.n r.b d = r.f d
section
variable {K : PySem.W.Frag} {H H' : Hp} {t : Addr} {r s : Rl}
theorem made_of {x : Nat} (h : RT K H t r.n x) (e : ∀ d, hold r.n x d = true ↔ r.f d = true) : MadeAt K H t r := by
  have e1 : ∀ d, hold r.n x d = r.f d := fun d => Bool.eq_iff_iff.mpr (e d)
  have e2 : hold r.n x = r.f := funext e1
  have e3 : r.b = x := by unfold Rl.b; rw [← e2, bitsOf_self h.lt]
  unfold MadeAt
  rw [e3]
  exact ⟨h, e1⟩
theorem made_bits (n1 : 1 ≤ r.n) (h : RT K H t r.n (bitsOf r.n r.f)) (per : ∀ d : Int, r.f (d % (r.n : Int)) = r.f d) : MadeAt K H t r := ⟨h, fun d => hold_mod n1 per d⟩
theorem MadeAt.fn (h : MadeAt K H t r) : hold r.n r.b = r.f := funext h.2
theorem made_notR (hr : ∀ d, hold r.n r.b d = r.f d) (n1 : 1 ≤ r.n) (h : RT K H t r.n (bitsOf r.n fun d => !hold r.n r.b d)) : MadeAt K H t (.notR r) := by
  rw [show (fun d => !hold r.n r.b d) = (Rl.notR r).f from funext fun d => by rw [hr]; rfl] at h
  refine made_bits (r := .notR r) n1 h fun d => ?_
  show (!r.f (d % (r.n : Int))) = !r.f d
  rw [← hr, ← hr, hold_per]
theorem made_later {z : Int} (hr : ∀ d, hold r.n r.b d = r.f d) (n1 : 1 ≤ r.n) (h : RT K H t r.n (bitsOf r.n fun d => hold r.n r.b (d - z))) : MadeAt K H t (.later z r) := by
  rw [show (fun d => hold r.n r.b (d - z)) = (Rl.later z r).f from funext fun d => by rw [hr]; rfl] at h
  refine made_bits (r := .later z r) n1 h fun d => ?_
  show r.f (d % (r.n : Int) - z) = r.f (d - z)
  rw [← hr, ← hr]
  exact hold_eq (by rw [Int.sub_emod, Int.emod_emod_of_dvd _ (Int.dvd_refl _), ← Int.sub_emod])
theorem made_pair {w : Wd} (hr : ∀ d, hold r.n r.b d = r.f d) (hs : ∀ d, hold s.n s.b d = s.f d) (n1 : 1 ≤ Nat.lcm r.n s.n) (g : Bool → Bool → Bool) (hw : ∀ f1 f2 d, w.f f1 f2 d = g (f1 d) (f2 d))
    (h : RT K H t (Nat.lcm r.n s.n) (bitsOf (Nat.lcm r.n s.n) fun d => g (hold r.n r.b d) (hold s.n s.b d))) : MadeAt K H t (.pair w r s) := by
  rw [show (fun d => g (hold r.n r.b d) (hold s.n s.b d)) = (Rl.pair w r s).f from funext fun d => by rw [hr, hs]; exact (hw _ _ _).symm] at h
  refine made_bits (r := .pair w r s) n1 h fun d => ?_
  show w.f r.f s.f (d % ((Nat.lcm r.n s.n : Nat) : Int)) = w.f r.f s.f d
  rw [hw, hw, ← hr, ← hr, ← hs, ← hs, hold_dvd (Nat.dvd_lcm_left _ _), hold_dvd (Nat.dvd_lcm_right _ _)]
theorem made_wheel {w : Wd} {x : Nat} (P : (Int → Bool) → (Int → Bool) → Int → Prop) (hr : ∀ d, hold r.n r.b d = r.f d) (hs : ∀ d, hold s.n s.b d = s.f d) (hw : ∀ f1 f2 d, w.f f1 f2 d = decC (P f1 f2 d))
    (h : RT K H t (Nat.lcm r.n s.n) x) (e : ∀ d, hold (Nat.lcm r.n s.n) x d = true ↔ P (hold r.n r.b) (hold s.n s.b) d) : MadeAt K H t (.pair w r s) := by
  rw [show hold r.n r.b = r.f from funext hr, show hold s.n s.b = s.f from funext hs] at e
  refine made_of (r := .pair w r s) h fun d => ?_
  show hold (Nat.lcm r.n s.n) x d = true ↔ w.f r.f s.f d = true
  rw [hw, decC_iff]
  exact e d
theorem made_kth {z : Int} {x : Nat} (hr : ∀ d, hold r.n r.b d = r.f d) (hs : ∀ d, hold s.n s.b d = s.f d) (h : RT K H t (Nat.lcm r.n s.n) x) (e : ∀ d, hold (Nat.lcm r.n s.n) x d = true ↔ kthP z (hold r.n r.b) (hold s.n s.b) d) : MadeAt K H t (.kth z r s) := by
  rw [show hold r.n r.b = r.f from funext hr, show hold s.n s.b = s.f from funext hs] at e
  refine made_of (r := .kth z r s) h fun d => ?_
  show hold (Nat.lcm r.n s.n) x d = true ↔ decC (kthP z r.f s.f d) = true
  rw [decC_iff]
  exact e d
theorem made_every {z : Nat} {y : Int} {x : Nat} (h : RT K H t (r.n * z) x) (e : ∀ d, hold (r.n * z) x d = true ↔ everyP z r.n r.b y d) : MadeAt K H t (.every z r y) := by
  have hn : (Rl.every (z : Int) r y).n = r.n * z := by show r.n * (z : Int).toNat = r.n * z; rw [Int.toNat_natCast]
  rw [← hn] at h e
  refine made_of h fun d => ?_
  show _ ↔ decC (everyP (z : Int).toNat r.n (bitsOf r.n r.f) y d) = true
  rw [decC_iff, Int.toNat_natCast]
  exact e d
theorem made_each {n : Nat} {z : Int} {x : Nat} (h : RT K H t n x) (e : ∀ d : Int, hold n x d = true ↔ ∃ e ∈ [z], (d - e) % (n : Int) = 0) : MadeAt K H t (.each n z) := by
  have hn : (Rl.each (n : Int) z).n = n := by show (n : Int).toNat = n; rw [Int.toNat_natCast]
  rw [← hn] at h e
  refine made_of h fun d => ?_
  show _ ↔ decide ((d - z) % (n : Int) = 0) = true
  rw [e d, decide_eq_true_iff]
  show (∃ e ∈ [z], (d - e) % ((Rl.each (n : Int) z).n : Int) = 0) ↔ _
  rw [hn]; simp
theorem made_one {b : Bool} (h : RT K H t 1 (if b = true then 1 else 0)) (hr : r = if b = true then .all else .no) : MadeAt K H t r := by
  subst hr
  have e : ∀ d : Int, (d % ((1 : Nat) : Int)).toNat = 0 := fun d => by omega
  cases b with
  | true => exact made_of (r := .all) h fun d => by show hold 1 1 d = true ↔ true = true; unfold hold; rw [e]; decide
  | false => exact made_of (r := .no) h fun d => by show hold 1 0 d = true ↔ false = true; unfold hold; rw [e]; decide
end
/-- what an __init__ has at its end -/
theorem rule_hd {K : PySem.W.Frag} {cc : RCls} {H1 H' : Hp} {x C dx t l c : Addr} {r : Rl} {ps : List Addr} (hC : cc.k r.kc = some C) (k : Kept (K := K) H1 H') (hx : H' x = some (.ins C dx (rfs t l (r.ext c)))) (m : MadeAt K H1 t r) (hl : SqL K H' l (ps.map V.ref)) (hc : r.CalO K cc H' c) :
    Hd K cc H' r x ps := ⟨C, dx, t, l, c, hC, hx, k.rt m.1, hl, m.2, hc⟩
/-- made, inner -/
def spRInit (K : PySem.W.Frag) (cc : RCls) (Tb : List NTab) : Sp := fun vs H Q _ => ∃ (x dx C t : Addr) (iv : V) (ps : List V), vs = [.ref x, .ref t, iv] ∧ cc.fam C ∧ H x = some (.ins C dx []) ∧ ((iv = .non ∧ ps = []) ∨ ∃ l, iv = .ref l ∧ SqL K H l ps) ∧ ps.length ≤ 100 ∧
  ∀ (l : Addr) (H' : Hp), SameX Tb x H H' → H' x = some (.ins C dx (rfs t l [])) → SqL K H' l ps → Q .non H'
theorem k_RInit {K : PySem.W.Frag} {cc : RCls} {Tb : List NTab} {H : Hp} {Q : VK} {E : XK} {x dx C t l : Addr} {ps : List V} (hC : cc.fam C) (hx : H x = some (.ins C dx [])) (hl : SqL K H l ps) (hz : ps.length ≤ 100)
    (q : ∀ (l : Addr) (H' : Hp), SameX Tb x H H' → H' x = some (.ins C dx (rfs t l [])) → SqL K H' l ps → Q .non H') : spRInit K cc Tb [.ref x, .ref t, .ref l] H Q E := ⟨x, dx, C, t, .ref l, ps, rfl, hC, hx, .inr ⟨l, rfl, hl⟩, hz, q⟩
theorem k_RInit0 {K : PySem.W.Frag} {cc : RCls} {Tb : List NTab} {H : Hp} {Q : VK} {E : XK} {x dx C t : Addr} (hC : cc.fam C) (hx : H x = some (.ins C dx []))
    (q : ∀ (l : Addr) (H' : Hp), SameX Tb x H H' → H' x = some (.ins C dx (rfs t l [])) → SqL K H' l [] → Q .non H') : spRInit K cc Tb [.ref x, .ref t, .non] H Q E := ⟨x, dx, C, t, .non, [], rfl, hC, hx, .inl ⟨rfl, rfl⟩, by decide, q⟩
def spPInit (K : PySem.W.Frag) (cc : RCls) (Tb : List NTab) : Sp := fun vs H Q _ => ∃ (x dx C t p q : Addr) (wd : Str), vs = [.ref x, .ref t, .ref p, .str wd, .ref q] ∧ cc.fam C ∧ NoAttr K C "word" ∧ H x = some (.ins C dx []) ∧
  ∀ (l : Addr) (H' : Hp), SameX Tb x H H' → H' x = some (.ins C dx (rfs t l [("word", .str wd)])) → SqL K H' l [.ref p, .ref q] → Q .non H'
theorem k_PInit {K : PySem.W.Frag} {cc : RCls} {Tb : List NTab} {H : Hp} {Q : VK} {E : XK} {x dx C t p q : Addr} {wd : Str} (hC : cc.fam C) (hn : NoAttr K C "word") (hx : H x = some (.ins C dx []))
    (k : ∀ (l : Addr) (H' : Hp), SameX Tb x H H' → H' x = some (.ins C dx (rfs t l [("word", .str wd)])) → SqL K H' l [.ref p, .ref q] → Q .non H') : spPInit K cc Tb [.ref x, .ref t, .ref p, .str wd, .ref q] H Q E := ⟨x, dx, C, t, p, q, wd, rfl, hC, hn, hx, k⟩
theorem k_rturn {K : PySem.W.Frag} {cc : RCls} {H : Hp} {Q : VK} {E : XK} {a : Addr} {r : Rl} {σ : L2.St} (h : RuleAt K cc H r a) (q : ∀ t, RT K H t r.n r.b → (∀ d, hold r.n r.b d = r.f d) → Q (.ref t) H) : MetF cc.fam "turn" (spTurn K cc) E tNil σ (.ref a) H Q := k_ruleM0 h noR_turn ⟨a, r, rfl, h, q⟩
theorem k_rsize {K : PySem.W.Frag} {cc : RCls} {H : Hp} {Q : VK} {E : XK} {a : Addr} {r : Rl} {σ : L2.St} (h : RuleAt K cc H r a) (q : Q (.int (r.n : Int)) H) : MetF cc.fam "size" (spSize K cc) E tNil σ (.ref a) H Q := k_ruleM0 h noR_size ⟨a, r, rfl, h, q⟩
/-- a rule asked of a day: the call, its argument walked -/
theorem k_ron {K : PySem.W.Frag} {cc : RCls} {Tb : List NTab} {H : Hp} {Q : VK} {E : XK} {a : Addr} {r : Rl} {d n : Nat} {x : Int} {σ : L2.St} {t : TA} (h : RuleAt K cc H r a) (ok : r.Ok) (hd : r.dep ≤ d) (sx : Sm n x) (n0 : 400 ≤ n) (n1 : n + r.dep ≤ 2900) (hT : TabsN Tb H) (ht : ∀ R : List V → Hp → Prop, R [.int x] H → t σ H R)
    (q : ∀ H', SameT Tb H H' → Q (.bl (r.f x)) H') : MetF cc.fam "on" (spOn K cc Tb d) E t σ (.ref a) H Q := k_ruleM h noR_on ht ⟨a, r, x, n, rfl, h, ok, hd, sx, n0, n1, hT, q⟩

end

/-! ### for i, x in enumerate(xs, start=k) -/
def ItE1 (K : PySem.W.Frag) (a : Addr) (c : Int) : It :=
  ⟨fun i H => ∃ (xs : List V) (x : V), SqL K H a xs ∧ xs[i]? = some x, fun i H v H' => ∃ T x, v = .ref T ∧ H T = none ∧ H' = upd H T (.tup [.int (c + (i : Nat)), x]) ∧ ∀ xs, SqL K H a xs → xs[i]? = some x, fun i H => ∃ xs : List V, SqL K H a xs ∧ xs.length = i⟩
theorem turn_enumC {P : Program} {w : World} {K : PySem.W.Frag} {elts : List Expr} {kk : Nat} {tpos : Pos} (c : Int) (a e it : Addr) :
    Turn P w K (.Tuple elts kk tpos) (ItE1 K a c) [e, it] e (fun i h => (∃ old, IsEnum h e it (c + (i : Nat)) old) ∧ h.IsListIter it a i ∧ e ≠ it) where
  mem := by simp
  obj := fun i h st b hb => by
    obtain ⟨⟨old, he⟩, ⟨o, ho, hc, hd⟩, _⟩ := st
    have e' : b = e ∨ b = it := by simpa using hb
    rcases e' with z | z
    · rw [z]; exact ⟨_, he, fun v q => nomatch q⟩
    · rw [z]; exact ⟨o, ho, fun v q => by rw [hd] at q; cases q⟩
  keep := fun i h h' st k => let ⟨⟨old, he⟩, hi, hne⟩ := st; ⟨⟨old, k e (by simp) _ he⟩, hi.at fun o q => k it (by simp) o q, hne⟩
  item := by
    intro X hP hw hK hc i pins s σ H E I hf st hg
    subst hP hw hK
    obtain ⟨⟨old, he⟩, hit, hne⟩ := st
    obtain ⟨xs, x, hq, hx⟩ := hg
    obtain ⟨its, rv, p, hz⟩ := I.list hq
    obtain ⟨u, hu, ru⟩ := rv.get hx
    have hel : e < s.heap.objs.size := Heap.lt_size he
    have hil : it < s.heap.objs.size := by obtain ⟨_, q, _⟩ := hit; exact Heap.lt_size q
    obtain ⟨f0, f1, f2, f3, f4, f5⟩ := hf e (by simp)
    obtain ⟨g0, g1, g2, g3, g4, g5⟩ := hf it (by simp)
    have hilt : i < its.toArray.size := by
      have := (List.getElem?_eq_some_iff.mp hu).1
      simpa using this
    have nal : a ≠ it := fun z => by
      obtain ⟨o, ho, hcl, _⟩ := hit
      obtain ⟨o', ho', hcl', _⟩ := p.isList
      rw [z, ho] at ho'
      cases ho'
      rw [hcl] at hcl'; simp at hcl'
    have nae : e ≠ a := fun z => by
      obtain ⟨o', ho', hcl', _⟩ := p.isList
      rw [← z, he] at ho'
      cases ho'
      simp at hcl'
    have D := Draws.list (prog := X.prog) (w := X.w) (A := X.A.in1) (I.ok.hd hc) it a nal its.toArray
    refine wpAny_pyNext_enum_itemC D he ⟨hit, p.isList⟩ hilt hne (by simp [hne, nae]) fun y h' tk hy ho ⟨hit', hl'⟩ hT hsz hk => ?_
    have ey : y = u := by
      have h1 : its.toArray[i]? = some u := by simpa using hu
      rw [h1] at hy; cases hy; rfl
    subst ey
    refine ⟨_, rfl, wpAny_letOwnedTupleGo_enum (s := { s with heap := h', toks := tk + 1 }) ho fun h'' he' sb => ?_⟩
    have hT2 : h''.get? s.heap.objs.size = some { cls := .type "tuple", data := .seq #[.int (c + (i : Nat)) tk, y] } := (sb.2 _ (Nat.ne_of_gt hel)).trans hT
    have new : ObjOk X.prog X.w (upd H s.heap.objs.size (.tup [.int (c + (i : Nat)), x])) h'' s.heap.objs.size (.tup [.int (c + (i : Nat)), x]) :=
      ⟨by show 2 ≤ sizeLine; decide, [.int (c + (i : Nat)) tk, y], .cons ⟨_, rfl⟩ (.cons ru .nil), ⟨_, hT2, rfl, _, rfl⟩⟩
    have I1 : Inv X pins σ (upd H s.heap.objs.size (.tup [.int (c + (i : Nat)), x])) { s with heap := h'', toks := tk + 1 } :=
      I.turnedNew (ch := [e, it]) (fun b ob hb q => (sb.2 b (fun z => hb (by simp [z]))).trans (hk b ob (fun z => hb (by simp [z])) (fun z => hb (by simp [z])) q)) hf (Nat.le_refl _) new
    refine ⟨.ref s.heap.objs.size, _, I1, rfl, ⟨_, x, rfl, I.hok.fresh (Nat.le_refl _), rfl, fun ys hy' => by rw [I.list_inj hy' hq]; exact hx⟩, ⟨⟨y, ?_⟩, hit'.at fun o q => (sb.2 it (Ne.symm hne)).trans q, hne⟩, fun b hb => ?_⟩
    · have e1 : c + ((i + 1 : Nat) : Int) = c + (i : Int) + 1 := by omega
      rw [e1]; exact he'
    · have hb' : b < s.heap.objs.size := by
        have e' : b = e ∨ b = it := by simpa using hb
        rcases e' with z | z
        · rw [z]; exact hel
        · rw [z]; exact hil
      rw [upd_ne (Nat.ne_of_lt hb')]
      exact (hf b hb).1
  done := by
    intro X hP hw hK hc i pins s σ H E I hf st hg
    subst hP hw hK
    obtain ⟨⟨old, he⟩, hit, hne⟩ := st
    obtain ⟨xs, hq, hx⟩ := hg
    obtain ⟨its, rv, p, hz⟩ := I.list hq
    obtain ⟨f0, f1, f2, f3, f4, f5⟩ := hf it (by simp)
    have hl := rv.length
    have nal : a ≠ it := fun z => by
      obtain ⟨o, ho, hcl, _⟩ := hit
      obtain ⟨o', ho', hcl', _⟩ := p.isList
      rw [z, ho] at ho'
      cases ho'
      rw [hcl] at hcl'; simp at hcl'
    have D := Draws.list (prog := X.prog) (w := X.w) (A := X.A.in1) (I.ok.hd hc) it a nal its.toArray
    have ei : i = its.toArray.size := by simp; omega
    subst ei
    exact wpAny_pyNext_enum_endD D he ⟨hit, p.isList⟩ fun h' eb => ⟨rfl, I.turned (t' := s.toks) (fun b o hb q => eb b o hb q) f0 f1 f3 f4 f5⟩
  self := fun A i s Q E st h => let ⟨⟨_, he⟩, _⟩ := st; wpAny_pyIter_enum he h
def iEnumK (K : PySem.W.Frag) (ta tk : TA) : TI := fun σ H R => ta σ H fun vs H1 => tk σ H1 fun zs H2 => ∃ a xs c, vs = [.ref a] ∧ zs = [.int c] ∧ -1000 ≤ c ∧ c ≤ 1000 ∧ SqL K H2 a xs ∧ R (ItE1 K a c) H2
theorem callWith_typeKW {M : Model} {A : Around} {E : Value → Shared → Prop} {s : Shared} {env : Env} {pos : Pos} {T : String} {Q : Value → Shared → Prop} {e : Expr} {rest : List Expr} {kws : List Keyword} (hall : (backToKw pos (keywordEach kws env)).all (·.1.isSome) = true)
    (h : wpAny M A (spliced (backTo pos (starEach (e :: rest) env))) (fun vs s₁ => wpAny M A (evalAll ((backToKw pos (keywordEach kws env)).map (·.2)))
      (fun ks s₂ => True ∧ wpAny M A (call (.type T) ([] ++ vs) (((backToKw pos (keywordEach kws env)).filterMap (·.1)).zip ks)) Q E s₂) E s₁) E s)
    (hplain : ((backTo pos (starEach (e :: rest) env)).any (·.1) || (backToKw pos (keywordEach kws env)).any (·.1.isNone)) = false := by rfl) (he : starEach (e :: rest) env = (false, eval e env) :: starEach rest env := by rfl) :
    wpAny M A (callWith pos (.type T) [] (backTo pos (starEach (e :: rest) env)) (backToKw pos (keywordEach kws env))) Q E s :=
  PySem.W.callWith_of (P := fun _ => True) hplain (fun h _ => ⟨_, by first | exact .inl rfl | exact .inr (.inl rfl), fun A Q E s k q => wpAny_pure q⟩) (PyProof.Rows.evalArgs_kw2 hall h he)
theorem pi_enumK {X : Cx} {e e2 : Expr} {ta tk : TA} {p pos tpos kpos : Pos} {elts : List Expr} {kk : Nat} (hg : Gl X "enumerate") (hm : X.mg "enumerate" = none) (ha : PA X [e] ta) (hk : PK X [⟨some "start", e2, kpos⟩] tk) (hs : starEach [e] X.env = [(false, eval e X.env)] := by rfl)
    (hall : (backToKw pos (keywordEach [⟨some "start", e2, kpos⟩] X.env)).all (·.1.isSome) = true := by rfl) (hks : (backToKw pos (keywordEach [⟨some "start", e2, kpos⟩] X.env)).filterMap (·.1) = [Str.ofString "start"] := by rfl)
    (hpl : ((backTo pos (starEach [e] X.env)).any (·.1) || (backToKw pos (keywordEach [⟨some "start", e2, kpos⟩] X.env)).any (·.1.isNone)) = false := by rfl) :
    PI X (.Tuple elts kk tpos) (.Call (.Name "enumerate" p) [e] [⟨some "start", e2, kpos⟩] pos) (iEnumK X.K ta tk) := by
  refine ⟨fun pins s σ H R I h => ?_⟩
  refine wpAny_Call_Name_kw (ld_blt I hg hm boot_enumerate (callWith_typeKW hall (thn (ha.run pos pins s σ H _ I h) fun us s1 ⟨vs, H1, I1, r1, q1⟩ => ?_) hpl hs))
  refine thn (hk.run pos pins s1 σ H1 _ I1 q1) fun ws s2 ⟨zs, H2, I2, r2, a, xs, c, ex, ez, c0, c1, hq, q⟩ => ⟨trivial, ?_⟩
  subst ex ez
  rw [hks]
  cases r1 with
  | cons r rr =>
    cases rr
    cases r
    cases r2 with
    | cons r' rr' =>
      cases rr'
      obtain ⟨t, rfl⟩ := r'
      obtain ⟨its, rv, p', hz⟩ := I2.list hq
      refine enum_begins_start (begins_list a its.toArray) p'.isList (by omega) (by omega) fun h' he hit hsz hk => wpAny_pyIter_enum he ?_
      have I3 : Inv X pins σ H2 { s2 with heap := h' } := I2.kept (t' := s2.toks) hk
      refine ⟨s2.heap.objs.size + 1, [s2.heap.objs.size + 1, s2.heap.objs.size], _, _, H2, rfl, I3, turn_enumC c a (s2.heap.objs.size + 1) s2.heap.objs.size, ⟨⟨.none, by rw [show c + ((0 : Nat) : Int) = c by omega]; exact he⟩, ⟨_, hit, rfl, rfl⟩, Nat.succ_ne_self _⟩, fun b hb => ?_, q⟩
      have e' : b = s2.heap.objs.size + 1 ∨ b = s2.heap.objs.size := by simpa using hb
      have hle : s2.heap.objs.size ≤ b := by
        rcases e' with z | z
        · rw [z]; exact Nat.le_add_right _ _
        · rw [z]; exact Nat.le_refl _
      exact I2.fpOk hle (I2.hok.fresh hle)
theorem k_ienumK {K : PySem.W.Frag} {ta tk : TA} {σ : L2.St} {H : Hp} {R : It → Hp → Prop} (h : ta σ H fun vs H1 => tk σ H1 fun zs H2 => ∃ a xs c, vs = [.ref a] ∧ zs = [.int c] ∧ -1000 ≤ c ∧ c ≤ 1000 ∧ SqL K H2 a xs ∧ R (ItE1 K a c) H2) : iEnumK K ta tk σ H R := h
/-- the walk: a new pair at each turn -/
theorem for_enumC {K : PySem.W.Frag} {a : Addr} {xs : List V} {c : Int} {g : TG} {tb : TS} {D : Ends} {σ : L2.St} {H : Hp} (Pv : Nat → L2.St → Hp → Prop) (h0 : Pv 0 σ H) (hl : ∀ i σ H, i ≤ xs.length → Pv i σ H → SqL K H a xs)
    (hs : ∀ i x σ H p, xs[i]? = some x → Pv i σ H → H p = none → g (.ref p) σ (upd H p (.tup [.int (c + (i : Nat)), x])) fun σ2 H2 => tb { D with nx := Pv (i + 1), ct := Pv (i + 1), bk := D.nx } σ2 H2) (hd : ∀ σ H, Pv xs.length σ H → D.nx σ H) :
    ForG (ItE1 K a c) g tb D σ H := by
  refine ⟨fun i m σ H => m = xs.length - i ∧ i ≤ xs.length ∧ Pv i σ H, ⟨xs.length, by simp, Nat.zero_le _, h0⟩, ?_⟩
  rintro i m σ H ⟨rfl, hi, p⟩
  have q := hl i σ H hi p
  by_cases hlt : i < xs.length
  · refine .inr ⟨⟨xs, xs[i], q, by simp [hlt]⟩, Pv (i + 1), fun σ' H' p' => ⟨xs.length - (i + 1), by omega, rfl, hlt, p'⟩, fun x H' y => ?_⟩
    obtain ⟨T, z, rfl, hT, rfl, hz⟩ := y
    exact hs i z σ H T (hz xs q) p hT
  · have e : i = xs.length := by omega
    subst e
    exact .inl ⟨⟨xs, q, rfl⟩, hd σ H p⟩

section
open NdefX LamX
/-! ### days by date -/
theorem or_laid {f g h : Nat → Bool} {a b : Nat} (hf : ∀ i, i < a → h i = f i) (hg : ∀ i, i < b → h (a + i) = g i) : ofB f a ||| ofB g b * 2 ^ a = ofB h (a + b) := by
  refine eq_ofB fun i => ?_
  rw [Nat.testBit_or, tb_ofB, Nat.testBit_mul_two_pow, tb_ofB]
  by_cases h1 : i < a
  · rw [decide_eq_true h1, decide_eq_false (show ¬ a ≤ i by omega), decide_eq_true (show i < a + b by omega), hf i h1]; simp
  · by_cases h2 : i < a + b
    · have e := hg (i - a) (by omega)
      rw [show a + (i - a) = i by omega] at e
      rw [decide_eq_false h1, decide_eq_true (show a ≤ i by omega), decide_eq_true (show i - a < b by omega), decide_eq_true h2, e]; simp
    · rw [decide_eq_false h1, decide_eq_false (show ¬ i - a < b by omega), decide_eq_false h2]; simp
theorem none_laid {f h : Nat → Bool} {a b : Nat} (hf : ∀ i, i < a → h i = f i) (hg : ∀ i, i < b → h (a + i) = false) : ofB f a = ofB h (a + b) := by
  refine eq_ofB fun i => ?_
  rw [tb_ofB]
  by_cases h1 : i < a
  · rw [decide_eq_true h1, decide_eq_true (show i < a + b by omega), hf i h1]
  · by_cases h2 : i < a + b
    · have e := hg (i - a) (by omega)
      rw [show a + (i - a) = i by omega] at e
      rw [decide_eq_false h1, decide_eq_true h2, e]; simp
    · rw [decide_eq_false h1, decide_eq_false h2]; simp
/-- day d of a month of so many days is wanted -/
def dayP (da : Option Int) (many d : Int) : Prop := da = none ∨ ∃ v, da = some v ∧ (v = d ∨ (v < 0 ∧ v = d - many - 1))
noncomputable def monthB (da : Option Int) (many : Int) : Nat := ofB (fun j => decC (dayP da many ((j : Int) + 1))) many.toNat
theorem decC_t {p : Prop} (h : p) : decC p = true := decC_iff.mpr h
theorem decC_f {p : Prop} (h : ¬ p) : decC p = false := by
  cases hb : decC p with
  | false => rfl
  | true => exact absurd (decC_iff.mp hb) h
theorem decC_congr {p q : Prop} (h : p ↔ q) : decC p = decC q := by
  by_cases hp : p
  · rw [decC_t hp, decC_t (h.mp hp)]
  · rw [decC_f hp, decC_f fun hq => hp (h.mpr hq)]
theorem monthB_none {many : Int} : monthB none many = 2 ^ many.toNat - 1 := by
  refine (eq_ofB (f := fun j => decC (dayP none many ((j : Int) + 1))) fun i => ?_).symm
  rw [Nat.testBit_two_pow_sub_one, decC_t (.inl rfl), Bool.and_true]
theorem tb_pow (k i : Nat) : (2 ^ k).testBit i = decide (k = i) := Nat.testBit_two_pow
theorem monthB_pos {v many : Int} (h1 : 0 < v) (h2 : v ≤ many) : monthB (some v) many = 2 ^ (v - 1).toNat := by
  refine (eq_ofB (f := fun j => decC (dayP (some v) many ((j : Int) + 1))) fun i => ?_).symm
  rw [tb_pow]
  by_cases h : (v - 1).toNat = i
  · rw [decide_eq_true h, decide_eq_true (show i < many.toNat by omega), decC_t (.inr ⟨v, rfl, .inl (by omega)⟩)]; rfl
  · rw [decide_eq_false h, decC_f, Bool.and_false]
    rintro (e | ⟨w, e, e2⟩)
    · cases e
    · cases e; omega
theorem monthB_neg {v many : Int} (h1 : v < 0) (h2 : 0 ≤ many + v) : monthB (some v) many = 2 ^ (many + v).toNat := by
  refine (eq_ofB (f := fun j => decC (dayP (some v) many ((j : Int) + 1))) fun i => ?_).symm
  rw [tb_pow]
  by_cases h : (many + v).toNat = i
  · rw [decide_eq_true h, decide_eq_true (show i < many.toNat by omega), decC_t (.inr ⟨v, rfl, .inr ⟨h1, by omega⟩⟩)]; rfl
  · by_cases hi : i < many.toNat
    · rw [decide_eq_false h, decC_f, Bool.and_false]
      rintro (e | ⟨w, e, e2⟩)
      · cases e
      · cases e; omega
    · rw [decide_eq_false h, decide_eq_false hi]; rfl
theorem monthB_no {v many : Int} (h1 : ¬ (0 < v ∧ v ≤ many)) (h2 : ¬ (v < 0 ∧ 0 ≤ many + v)) (h0 : v ≠ 0) : monthB (some v) many = 0 := by
  refine (eq_ofB (f := fun j => decC (dayP (some v) many ((j : Int) + 1))) fun i => ?_).symm
  rw [Nat.zero_testBit]
  by_cases hi : i < many.toNat
  · rw [decC_f, Bool.and_false]
    rintro (e | ⟨w, e, e2⟩)
    · cases e
    · cases e; omega
  · rw [decide_eq_false hi]; rfl
/-- day j of a year with such months is wanted -/
def YP (L : List Int) (mo da : Option Int) (j : Int) : Prop := ∃ (m : Nat) (d : Int), m < L.length ∧ 1 ≤ d ∧ d ≤ L.getD m 0 ∧ j = (L.take m).sum + d - 1 ∧ (mo = none ∨ mo = some ((m : Int) + 1)) ∧ dayP da (L.getD m 0) d
noncomputable def yearB (L : List Int) (mo da : Option Int) (k : Nat) : Nat := ofB (fun j => decC (YP L mo da j)) ((L.take k).sum).toNat
theorem YP_at {L : List Int} {mo da : Option Int} (nn : ∀ x ∈ L, 0 ≤ x) {k : Nat} (hk : k < L.length) {d : Int} (d1 : 1 ≤ d) (d2 : d ≤ L.getD k 0) : YP L mo da ((L.take k).sum + d - 1) ↔ ((mo = none ∨ mo = some ((k : Int) + 1)) ∧ dayP da (L.getD k 0) d) := by
  constructor
  · rintro ⟨m, e, hm, e1, e2, e3, e4, e5⟩
    have p1 := pre_succ (L := L) hk
    have p2 := pre_succ (L := L) hm
    have em : m = k := by
      by_cases c : m < k
      · have := pre_le nn (show m + 1 ≤ k by omega); omega
      by_cases c' : k < m
      · have := pre_le nn (show k + 1 ≤ m by omega); omega
      omega
    subst em
    have ed : e = d := by omega
    subst ed
    exact ⟨e4, e5⟩
  · rintro ⟨e4, e5⟩
    exact ⟨k, d, hk, d1, d2, rfl, e4, e5⟩
theorem year_step {L : List Int} {mo da : Option Int} (nn : ∀ x ∈ L, 0 ≤ x) {k : Nat} (hk : k < L.length) :
    ((mo = none ∨ mo = some ((k : Int) + 1)) → yearB L mo da k ||| monthB da (L.getD k 0) * 2 ^ ((L.take k).sum).toNat = yearB L mo da (k + 1)) ∧ (¬ (mo = none ∨ mo = some ((k : Int) + 1)) → yearB L mo da k = yearB L mo da (k + 1)) := by
  have p := pre_succ (L := L) hk
  have p0 := pre_nn nn k
  have g0 : 0 ≤ L.getD k 0 := by
    rw [List.getD_eq_getElem?_getD, List.getElem?_eq_getElem hk]
    exact nn _ (List.getElem_mem hk)
  have e : ((L.take (k + 1)).sum).toNat = ((L.take k).sum).toNat + (L.getD k 0).toNat := by omega
  have at_ : ∀ i : Nat, i < (L.getD k 0).toNat → (YP L mo da (((((L.take k).sum).toNat + i : Nat) : Int)) ↔ ((mo = none ∨ mo = some ((k : Int) + 1)) ∧ dayP da (L.getD k 0) ((i : Int) + 1))) := fun i hi => by
    rw [show ((((L.take k).sum).toNat + i : Nat) : Int) = (L.take k).sum + ((i : Int) + 1) - 1 by omega]
    exact YP_at nn hk (by omega) (by omega)
  unfold yearB monthB
  rw [e]
  refine ⟨fun h => or_laid (fun i _ => rfl) (fun i hi => decC_congr ((at_ i hi).trans ⟨fun x => x.2, fun x => ⟨h, x⟩⟩)), fun h => none_laid (fun i _ => rfl) (fun i hi => decC_f fun x => h ((at_ i hi).mp x).1)⟩
theorem DatedP_at {cal : Cal} (ok : cal.Ok) {mo da : Option Int} {st re y x : Int} (h1 : cal.start y ≤ x) (h2 : x < cal.start (y + 1)) : DatedP cal mo da st re x ↔ ((y - re) % st = 0 ∧ YP (cal.lens y) mo da (x - cal.start y)) := by
  constructor
  · rintro ⟨y', m, d, hd, e1, e2, e3⟩
    obtain ⟨a1, a2⟩ := hd.year ok
    have ey := cal.uniq ok a1 a2 h1 h2
    subst ey
    have m1 := hd.m1
    have m2 := hd.m2
    have e := hd.e
    unfold dayOf at e
    refine ⟨e1, (m - 1).toNat, d, by omega, hd.d1, hd.d2, by omega, ?_, e3⟩
    rcases e2 with h | h
    · exact .inl h
    · exact .inr (by rw [h, show (((m - 1).toNat : Nat) : Int) + 1 = m by omega])
  · rintro ⟨e1, m, d, hm, d1, d2, e, e2, e3⟩
    refine ⟨y, (m : Int) + 1, d, ⟨by omega, by omega, d1, by rw [show ((m : Int) + 1 - 1).toNat = m by omega]; exact d2, ?_⟩, e1, e2, by rw [show ((m : Int) + 1 - 1).toNat = m by omega]; exact e3⟩
    unfold dayOf
    rw [show ((m : Int) + 1 - 1).toNat = m by omega]; omega
/-- the bits of the first i years -/
noncomputable def datB (cal : Cal) (mo da : Option Int) (st re : Int) (i : Nat) : Nat := ofB (fun j => decC (DatedP cal mo da st re (cal.start 0 + j))) (cal.start i - cal.start 0).toNat
theorem dat_step {cal : Cal} (ok : cal.Ok) {mo da : Option Int} {st re : Int} (i : Nat) :
    (((i : Int) - re) % st = 0 → datB cal mo da st re i ||| yearB (cal.lens i) mo da (cal.lens i).length * 2 ^ (cal.start i - cal.start 0).toNat = datB cal mo da st re (i + 1)) ∧ (¬ ((i : Int) - re) % st = 0 → datB cal mo da st re i = datB cal mo da st re (i + 1)) := by
  have hs := cal.sum ok i
  have hl := cal.lt ok (show (i : Int) < i + 1 by omega)
  have h0 := cal.le ok (show (0 : Int) ≤ i by omega)
  have e : (cal.start ((i + 1 : Nat) : Int) - cal.start 0).toNat = (cal.start i - cal.start 0).toNat + (((cal.lens i).take (cal.lens i).length).sum).toNat := by
    rw [List.take_of_length_le (Nat.le_refl _), show ((i + 1 : Nat) : Int) = (i : Int) + 1 by omega]; omega
  have at_ : ∀ j : Nat, j < (((cal.lens i).take (cal.lens i).length).sum).toNat → (DatedP cal mo da st re (cal.start 0 + (((cal.start i - cal.start 0).toNat + j : Nat) : Int)) ↔ (((i : Int) - re) % st = 0 ∧ YP (cal.lens i) mo da j)) := fun j hj => by
    rw [List.take_of_length_le (Nat.le_refl _)] at hj
    have := DatedP_at (mo := mo) (da := da) (st := st) (re := re) ok (y := i) (x := cal.start 0 + (((cal.start i - cal.start 0).toNat + j : Nat) : Int)) (by omega) (by omega)
    rw [this, show cal.start 0 + (((cal.start i - cal.start 0).toNat + j : Nat) : Int) - cal.start i = j by omega]
  unfold datB yearB
  rw [e]
  refine ⟨fun h => or_laid (fun i _ => rfl) (fun j hj => decC_congr ((at_ j hj).trans ⟨fun x => x.2, fun x => ⟨h, x⟩⟩)), fun h => none_laid (fun i _ => rfl) (fun j hj => decC_f fun x => h ((at_ j hj).mp x).1)⟩
theorem start_cycR {cal : Cal} (ok : cal.Ok) (y : Int) (r : Nat) : cal.start (y + r * cal.yrs) = cal.start y + r * cal.dys ∧ cal.lens (y + r * cal.yrs) = cal.lens y := by
  induction r with
  | zero => simp
  | succ r ih =>
    have e : y + ((r + 1 : Nat) : Int) * cal.yrs = (y + r * cal.yrs) + cal.yrs := by rw [show ((r + 1 : Nat) : Int) = (r : Int) + 1 by omega, Int.add_mul]; omega
    rw [e, cal.start_cyc ok, cal.lens_cyc ok, ih.1, ih.2]
    refine ⟨?_, rfl⟩
    rw [show ((r + 1 : Nat) : Int) = (r : Int) + 1 by omega, Int.add_mul]; omega
theorem dated_per {cal : Cal} (ok : cal.Ok) {mo da : Option Int} {st re : Int} (r : Nat) (hr : st ∣ r * cal.yrs) (x : Int) : DatedP cal mo da st re (x + r * cal.dys) ↔ DatedP cal mo da st re x := by
  obtain ⟨k, hk⟩ := hr
  have em : ∀ y : Int, (y + r * cal.yrs - re) % st = (y - re) % st := fun y => by
    rw [show y + r * cal.yrs - re = y - re + st * k by omega, Int.add_mul_emod_self_left]
  constructor
  · rintro ⟨y, m, d, hd, e1, e2, e3⟩
    obtain ⟨s1, s2⟩ := start_cycR ok (y - r * cal.yrs) r
    rw [show y - r * cal.yrs + r * cal.yrs = y by omega] at s1 s2
    have e := hd.e
    unfold dayOf at e
    refine ⟨y - r * cal.yrs, m, d, ⟨hd.m1, by rw [← s2]; exact hd.m2, hd.d1, by rw [← s2]; exact hd.d2, ?_⟩, ?_, e2, by rw [← s2]; exact e3⟩
    · unfold dayOf; rw [← s2]; omega
    · rw [← em, show y - r * cal.yrs + r * cal.yrs - re = y - re by omega]; exact e1
  · rintro ⟨y, m, d, hd, e1, e2, e3⟩
    obtain ⟨s1, s2⟩ := start_cycR ok y r
    have e := hd.e
    unfold dayOf at e
    refine ⟨y + r * cal.yrs, m, d, ⟨hd.m1, by rw [s2]; exact hd.m2, hd.d1, by rw [s2]; exact hd.d2, ?_⟩, by rw [em]; exact e1, e2, by rw [s2]; exact e3⟩
    unfold dayOf; rw [s2]; omega
theorem shared_of {cal : Cal} (ok : cal.Ok) {st : Int} (h1 : 1 ≤ st) : ∃ r : Nat, 1 ≤ r ∧ lcmI cal.yrs st = r * cal.yrs ∧ lcmI cal.yrs st / cal.yrs = r ∧ st ∣ r * cal.yrs := by
  have y := cal.yrs_bd ok
  obtain ⟨k, hk⟩ := dvd_lcm_left (a := cal.yrs) (b := st) y.1
  have hl := lcm_pos y.1 h1
  have k1 : 1 ≤ k := by
    by_cases z : k ≤ 0
    · have := Int.mul_le_mul_of_nonneg_left z (show 0 ≤ cal.yrs by omega)
      rw [← hk] at this; omega
    · omega
  obtain ⟨r, rfl⟩ := Int.eq_ofNat_of_zero_le (show 0 ≤ k by omega)
  refine ⟨r, by omega, by rw [hk, Int.mul_comm], by rw [hk]; exact Int.mul_ediv_cancel_left _ (by omega), ?_⟩
  rw [Int.mul_comm, ← hk]
  exact dvd_lcm_right _ _
/-- the round that was laid, later by the start, is that of the dates -/
theorem made_dated {K : PySem.W.Frag} {H : Hp} {t : Addr} {nm : Str} {cal : Cal} {mo da : Option Int} {st re : Int} (ok : cal.Ok) (h1 : 1 ≤ st) {r : Nat} (r1 : 1 ≤ r) (er : lcmI cal.yrs st = r * cal.yrs) (ed : lcmI cal.yrs st / cal.yrs = r) (dv : st ∣ r * cal.yrs) {n : Nat} (hn : (n : Int) = cal.dys * r)
    (h : RT K H t n (bitsOf n fun d => hold n (datB cal mo da st re (lcmI cal.yrs st).toNat) (d - cal.start 0))) : MadeAt K H t (.dated nm cal mo da st re) := by
  have en : (Rl.dated nm cal mo da st re).n = n := by
    show (cal.dys * (lcmI cal.yrs st / cal.yrs)).toNat = n
    rw [ed]; omega
  have dp := cal.dys_pos ok
  have n1 : 1 ≤ n := by
    have := Int.mul_le_mul_of_nonneg_left (show (1 : Int) ≤ r by omega) (show 0 ≤ cal.dys by omega)
    omega
  have hst : cal.start (((lcmI cal.yrs st).toNat : Nat) : Int) - cal.start 0 = n := by
    have y := cal.yrs_bd ok
    have l := lcm_pos y.1 h1
    rw [show (((lcmI cal.yrs st).toNat : Nat) : Int) = lcmI cal.yrs st by omega, er]
    have := (start_cycR ok 0 r).1
    rw [Int.zero_add] at this
    rw [this, hn, Int.mul_comm]; omega
  have per : ∀ x : Int, DatedP cal mo da st re (x + n) ↔ DatedP cal mo da st re x := fun x => by
    rw [hn, Int.mul_comm]
    exact dated_per ok r dv x
  have perN : ∀ (x : Int) (k : Nat), DatedP cal mo da st re (x + k * n) ↔ DatedP cal mo da st re x := fun x k => by
    induction k with
    | zero => simp
    | succ k ih =>
      rw [show x + ((k + 1 : Nat) : Int) * n = x + k * n + n by rw [show ((k + 1 : Nat) : Int) = (k : Int) + 1 by omega, Int.add_mul]; omega, per, ih]
  have perZ : ∀ (x z : Int), DatedP cal mo da st re (x + z * n) ↔ DatedP cal mo da st re x := fun x z => by
    by_cases hz : 0 ≤ z
    · obtain ⟨k, rfl⟩ := Int.eq_ofNat_of_zero_le hz
      exact perN x k
    · obtain ⟨k, hk⟩ := Int.eq_ofNat_of_zero_le (show 0 ≤ -z by omega)
      have := perN (x + z * n) k
      rw [show x + z * n + k * n = x by rw [show (k : Int) = -z by omega, Int.neg_mul]; omega] at this
      exact this.symm
  have core : ∀ e : Int, hold n (datB cal mo da st re (lcmI cal.yrs st).toNat) e = true ↔ DatedP cal mo da st re (cal.start 0 + e) := fun e => by
    obtain ⟨hm1, hm2⟩ := mod_lt' n1 e
    unfold hold datB
    rw [tb_ofB, hst, Int.toNat_natCast, decide_eq_true hm1, Bool.true_and, decC_iff, hm2]
    have := perZ (cal.start 0 + e % (n : Int)) (e / (n : Int))
    rw [show cal.start 0 + e % (n : Int) + e / (n : Int) * (n : Int) = cal.start 0 + e by have := Int.emod_add_mul_ediv e (n : Int); rw [Int.mul_comm (e / (n : Int))]; omega] at this
    exact this.symm
  have h' := h
  rw [← en] at h'
  refine made_of h' fun d => ?_
  rw [en]
  show hold n (bitsOf n fun d => hold n (datB cal mo da st re (lcmI cal.yrs st).toNat) (d - cal.start 0)) d = true ↔ decC (DatedP cal mo da st re d) = true
  rw [hold_mod (f := fun d => hold n (datB cal mo da st re (lcmI cal.yrs st).toNat) (d - cal.start 0)) n1 (fun d => hold_eq (by rw [Int.sub_emod, Int.emod_emod_of_dvd _ (Int.dvd_refl _), ← Int.sub_emod])), core, decC_iff, show cal.start 0 + (d - cal.start 0) = d by omega]
theorem sm_ofB' {f : Nat → Bool} {m : Nat} (h : m ≤ 400000) : Sm 400000 ((ofB f m : Nat) : Int) := sm_ofB h
theorem sm_monthB {da : Option Int} {many : Int} (h : many ≤ 400000) : Sm 400000 ((monthB da many : Nat) : Int) := sm_ofB (by omega)
theorem sm_yearB {L : List Int} {mo da : Option Int} {k : Nat} (h : (L.take k).sum ≤ 400000) : Sm 400000 ((yearB L mo da k : Nat) : Int) := sm_ofB (by omega)
theorem sm_datB {cal : Cal} {mo da : Option Int} {st re : Int} {i : Nat} (h : cal.start i - cal.start 0 ≤ 400000) : Sm 400000 ((datB cal mo da st re i : Nat) : Int) := sm_ofB (by omega)
section
variable {K : PySem.W.Frag} {H : Hp} {Q : VK} {a b : Int}
theorem k_eqNi (q : Q (.bl false) H) : rEqA K .non (.int b) H Q := .inl ⟨rfl, q⟩
theorem k_neNi (q : Q (.bl true) H) : rNeA K .non (.int b) H Q := .inl ⟨rfl, q⟩
theorem k_isNo {o : Option Int} (h1 : o = none → Q (.bl true) H) (h2 : o ≠ none → Q (.bl false) H) : rIsN (optV o) .non H Q := by
  cases o with
  | none => exact ⟨rfl, h1 rfl⟩
  | some v => exact ⟨rfl, h2 (by simp)⟩
theorem k_notNo {o : Option Int} (h1 : o = none → Q (.bl false) H) (h2 : o ≠ none → Q (.bl true) H) : rNotN (optV o) .non H Q := by
  cases o with
  | none => exact ⟨rfl, h1 rfl⟩
  | some v => exact ⟨rfl, h2 (by simp)⟩
end

end

section
open NdefX LamX
/-! ### how long a cycle is -/
theorem upto_hi {b : Int} {ts : List Tm} (h : ∀ t ∈ ts, TmOk t) (k : Nat) : uptoM b ts k ≤ (b + ts.length) * k := by
  induction k with
  | zero => rw [show ((0 : Nat) : Int) = 0 from rfl, upto_zero h]; simp
  | succ k ih =>
    have e := upto_next b ts k
    have r := (rise_lo h k).2
    rw [show ((k + 1 : Nat) : Int) = (k : Int) + 1 by omega, e, Int.mul_add, Int.mul_one]
    unfold atM
    omega
theorem perT_one {t : Tm} (n1 : 1 ≤ t.n) : perT [t] = t.n := by
  show lcmI 1 t.n = t.n
  unfold lcmI
  rw [show Int.gcd 1 t.n = 1 from Int.one_gcd]
  show (1 : Int) / 1 * t.n = t.n
  omega
theorem sun_dys {st : Int} {ls : List Int} {lp : Int} {t : Tm} (ok : TmOk t) {A B : Nat} (hA : ls.sum ≤ A) (hB : t.n ≤ B) (h0 : 0 ≤ ls.sum) : (Cal.sun st ls lp [t]).dys ≤ ((A + 1) * B : Nat) := by
  have n1 := ok.n1
  show uptoM ls.sum [t] (perT [t]) ≤ _
  rw [perT_one n1]
  obtain ⟨k, hk⟩ := Int.eq_ofNat_of_zero_le (show 0 ≤ t.n by omega)
  have := upto_hi (b := ls.sum) (ts := [t]) (by simpa using ok) k
  rw [hk]
  refine Int.le_trans this ?_
  have e : (ls.sum + (([t] : List Tm).length : Int)) = ((ls.sum.toNat + 1 : Nat) : Int) := by simp; omega
  rw [e, ← Int.natCast_mul]
  exact_mod_cast Nat.mul_le_mul (show ls.sum.toNat + 1 ≤ A + 1 by omega) (show k ≤ B by omega)
theorem moon_dys {st b1 b2 : Int} {t1 t2 : Tm} (ok : MoonOk b1 [t1] b2 [t2]) {A B C D : Nat} (hA : b1 ≤ A) (hB : t1.n ≤ B) (hC : b2 ≤ C) (hD : t2.n ≤ D) : (Cal.moon st b1 [t1] b2 [t2]).dys ≤ ((A + 1) * ((C + 1) * D * B) : Nat) := by
  have o1 := ok.m1.ok t1 (by simp)
  have o2 := ok.m2.ok t2 (by simp)
  have n1 := o1.n1
  have n2 := o2.n1
  obtain ⟨f1, f2⟩ := moonF_bd ok
  rw [perT_one n1] at f2
  show uptoM b1 [t1] (uptoM b2 [t2] (perT [t2]) * moonF b2 [t1] [t2]) ≤ _
  obtain ⟨u1, u2⟩ := per_upto ok.m2
  have b10 := ok.m1.b0
  have b20 := ok.m2.b0
  rw [perT_one n2] at *
  obtain ⟨k, hk⟩ := Int.eq_ofNat_of_zero_le (show 0 ≤ t2.n by omega)
  have h2 := upto_hi (b := b2) ok.m2.ok k
  rw [← hk] at h2
  generalize hU : uptoM b2 [t2] t2.n = U at *
  generalize hF : moonF b2 [t1] [t2] = F at *
  obtain ⟨u, rfl⟩ := Int.eq_ofNat_of_zero_le (show 0 ≤ U by omega)
  obtain ⟨f, rfl⟩ := Int.eq_ofNat_of_zero_le (show 0 ≤ F by omega)
  have h1 := upto_hi (b := b1) ok.m1.ok (u * f)
  rw [Int.natCast_mul] at h1
  refine Int.le_trans h1 ?_
  have e1 : (b1 + (([t1] : List Tm).length : Int)) = ((b1.toNat + 1 : Nat) : Int) := by simp; omega
  have e2 : (b2 + (([t2] : List Tm).length : Int)) = ((b2.toNat + 1 : Nat) : Int) := by simp; omega
  have hu : u ≤ (C + 1) * D := by
    rw [e2, hk, ← Int.natCast_mul] at h2
    have h3 : u ≤ (b2.toNat + 1) * k := by exact_mod_cast h2
    exact Nat.le_trans h3 (Nat.mul_le_mul (by omega) (by omega))
  rw [e1, ← Int.natCast_mul, ← Int.natCast_mul]
  exact_mod_cast Nat.mul_le_mul (show b1.toNat + 1 ≤ A + 1 by omega) (Nat.mul_le_mul hu (show f ≤ B by omega))
theorem shared_le {cal : Cal} (ok : cal.Ok) {st : Int} (h1 : 1 ≤ st) : lcmI cal.yrs st / cal.yrs ≤ st := by
  have y := cal.yrs_bd ok
  have := lcm_le_mul y.1 h1
  exact Int.ediv_le_of_le_mul (by omega) (by rw [Int.mul_comm]; exact this)
theorem dated_fits {cal : Cal} (ok : cal.Ok) {st : Int} (h1 : 1 ≤ st) {A B : Nat} (hA : cal.dys ≤ A) (hB : st ≤ B) (h : A * B ≤ 150000) : cal.dys * (lcmI cal.yrs st / cal.yrs) ≤ 150000 := by
  obtain ⟨r, r1, e1, e2, _⟩ := shared_of ok h1
  have hl := shared_le ok h1
  rw [e2] at hl ⊢
  have dp := cal.dys_pos ok
  obtain ⟨d, hd⟩ := Int.eq_ofNat_of_zero_le (show 0 ≤ cal.dys by omega)
  rw [hd] at hA ⊢
  rw [← Int.natCast_mul]
  have : d * r ≤ A * B := Nat.mul_le_mul (by omega) (by omega)
  omega
theorem atI_allV {P : V → Prop} {l : List V} {i : Int} (h0 : 0 ≤ i) (h1 : i < l.length) (hP : ∀ z ∈ l, P z) : ∃ z, P z ∧ atI l i = some z := by
  obtain ⟨k, rfl⟩ := Int.eq_ofNat_of_zero_le h0
  have hk : k < l.length := by omega
  exact ⟨l[k], hP _ (List.getElem_mem hk), at_of rfl (List.getElem?_eq_getElem hk)⟩
theorem measOk_one {b : Int} {t : Tm} (ok : TmOk t) (b1 : b ≤ 20000) (hb : 1 ≤ b) (h : t.s = 1 ∨ 2 ≤ b) : MeasOk b [t] ∧ fallsT [t] < b := by
  have hf : fallsT [t] = if t.s = -1 then 1 else 0 := by
    unfold fallsT
    by_cases z : t.s = -1 <;> simp [z]
  have hlt : fallsT [t] < b := by
    rw [hf]
    split
    · rcases h with h | h <;> omega
    · omega
  exact ⟨measOk_of (by simpa using ok) (by show 1 ≤ 6; decide) b1 (by omega) (.inl hlt), hlt⟩

end

/-! ### the walker: one step, by the head of the reading -/
local macro_rules | `(tactic| walk_at "hp") => `(tactic| first | assumption | (refine' same_t ?h1 ?h2; (case h1 => assumption); (case h2 => walk_at "hp")) | (refine' same_l ?h1 ?h2; (case h1 => assumption); (case h2 => walk_at "hp")) | (refine' same_at ?h1 ?h2; (case h1 => assumption); (case h2 => walk_at "hp")) | fail)
local macro_rules | `(tactic| walk_at "hl") => `(tactic| first | walk_at "hp" | (refine' SqL.of ?h1; (case h1 => walk_at "hp")) | fail)
local macro_rules | `(tactic| walk_at "ht") => `(tactic| first | walk_at "hp" | (refine' SqT.of ?h1; (case h1 => walk_at "hp")) | fail)
local macro_rules | `(tactic| walk_at "sm") => `(tactic| first | assumption | (refine' sm_lit ?h1; (case h1 => decide +kernel)) | exact sm41 (by omega) (by omega) | walk_at "smx" | (refine' sm_mul ?h1 ?h2; (case h1 => walk_at "sm"); (case h2 => walk_at "sm")) | fail)
local macro_rules | `(tactic| walk_at "sd") => `(tactic| first
  | omega
  | decide +kernel
  | ((with_reducible apply Int.emod_nonneg); omega)
  | ((with_reducible refine sm_divx (b := 200) ?_ ?_ (by decide) (by decide)) <;> first | omega | walk_at "sm")
  | ((with_reducible refine sm_div (b := 200) ?_ ?_ (by decide) (by decide)) <;> first | omega | walk_at "sm")
  | walk_at "sdx"
  | ((with_reducible refine' sm_mulx ?h1 ?h2 ?h3); (case h1 => walk_at "sm"); (case h2 => walk_at "sm"); (case h3 => decide +kernel)) | fail)
local macro_rules | `(tactic| walk_at "st") => `(tactic| first
  | (with_reducible apply k_seqA)
  | (with_reducible apply k_seqD)
  | (with_reducible apply k_seqP)
  | ((with_reducible apply k_var); (· rfl))
  | (with_reducible apply k_c)
  | (with_reducible apply k_op)
  | (with_reducible apply k_add)
  | (with_reducible apply k_I0)
  | (with_reducible apply k_asg)
  | (with_reducible apply k_call)
  | (with_reducible apply k_cb)
  | (with_reducible apply k_cons)
  | (with_reducible apply k_nil)
  | (with_reducible apply k_ret)
  | (with_reducible apply k_test)
  | (with_reducible apply k_eq)
  | (with_reducible apply k_ne)
  | (with_reducible apply k_bl)
  | ((with_reducible apply k_I); (· walk_at "sd"))
  | (with_reducible apply k_U)
  | (with_reducible apply k_un)
  | ((with_reducible apply k_ixT); (· walk_at "ht"); (· rfl))
  | ((with_reducible apply k_ixL); (· walk_at "hl"); (· rfl))
  | (with_reducible apply k_tup)
  | ((with_reducible apply k_newtup); (· exact Nat.le_of_ble_eq_true rfl); intro p H' hn hs ht)
  | (with_reducible apply k_lst)
  | ((with_reducible apply k_newlst); (· exact Nat.le_of_ble_eq_true rfl); intro p H' hn hs ht)
  | (with_reducible apply k_B)
  | (with_reducible apply k_and)
  | (with_reducible apply k_or)
  | (with_reducible apply k_not)
  | ((with_reducible apply k_and2); (· rfl); (· rfl))
  | ((with_reducible apply k_or2); (· rfl); (· rfl))
  | ((with_reducible apply k_andn2); (· rfl); (· rfl))
  | (with_reducible apply k_andV)
  | (with_reducible apply k_orV)
  | (with_reducible apply k_notV)
  | (with_reducible apply k_chain)
  | (with_reducible apply k_eqb)
  | (with_reducible apply k_neb)
  | (with_reducible apply k_eqs)
  | (with_reducible apply k_nes)
  | (with_reducible apply k_drop)
  | (with_reducible apply k_next)
  | (with_reducible apply if_t)
  | (with_reducible apply if_f)
  | (with_reducible apply if_nt)
  | (with_reducible apply if_nf)
  | (with_reducible apply k_isi_ii)
  | (with_reducible apply k_isi_ib)
  | (with_reducible apply k_isi_bb)
  | (with_reducible apply k_isi_it)
  | ((with_reducible apply k_isi_tt); (· walk_at "ht"))
  | (with_reducible apply k_abs)
  | ((with_reducible apply k_max2); intro k hk1 hk2 hk3)
  | ((with_reducible apply k_min2); intro k hk1 hk2 hk3)
  | ((with_reducible apply k_lenT); (· walk_at "ht"))
  | ((with_reducible apply k_lenL); (· walk_at "hl"))
  | (with_reducible apply k_intI)
  | (with_reducible apply k_intB)
  | (with_reducible apply k_par)
  | (with_reducible apply k_par2)
  | (with_reducible apply k_ifx)
  | (with_reducible apply k_gname)
  | (with_reducible apply k_asgG)
  | (with_reducible apply k_retN)
  | (with_reducible apply k_lstrg)
  | ((with_reducible apply k_lstrgV); (· omega); intro p H' hn hs ht)
  | (with_reducible apply k_bits)
  | (with_reducible apply k_bitsV)
  | (with_reducible apply k_isN_n)
  | (with_reducible apply k_isN_i)
  | (with_reducible apply k_isN_r)
  | (with_reducible apply k_notN_n)
  | (with_reducible apply k_notN_i)
  | (with_reducible apply k_notN_r)
  | (with_reducible apply k_lc)
  | (with_reducible apply k_itup)
  | (with_reducible apply k_ilst)
  | ((with_reducible apply k_sqt); (· walk_at "ht"))
  | ((with_reducible apply k_sql); (· walk_at "hl"))
  | (with_reducible apply k_irng1)
  | ((with_reducible apply k_rng1); (· first | decide | omega))
  | (with_reducible apply k_irng2L)
  | (with_reducible apply k_rng2L)
  | (with_reducible apply k_irng2)
  | (with_reducible apply k_irng3)
  | ((with_reducible apply k_rng2); (· first | decide | omega))
  | ((with_reducible apply k_gtup); (· walk_at "ht"); (· rfl))
  | (with_reducible apply k_gcons)
  | (with_reducible apply k_gnil)
  | ((with_reducible apply k_notin2); (· walk_at "hl"))
  | ((with_reducible apply k_in2); (· walk_at "hl"))
  | ((with_reducible apply k_in3); (· walk_at "hl"))
  | ((with_reducible apply k_notinL); (· walk_at "hl"))
  | ((with_reducible apply k_inL'); (· walk_at "hl"))
  | ((with_reducible apply k_divmod); (· walk_at "sd"); intro p H' hn hs ht) | fail)
local macro_rules | `(tactic| walk_at "go") => `(tactic| repeat' walk_at "st")
/-- a branch: both ways, those that cannot be shut by omega -/
local macro_rules | `(tactic| walk_at "br") => `(tactic| (first | with_reducible apply if_dec | with_reducible apply if_ndec | with_reducible apply if_b) <;> intro hbr <;> first | (first | exact absurd (by assumption) hbr | exact absurd hbr (by assumption) | (exfalso; omega) | (exfalso; simp only [List.length_cons, List.length_nil] at hbr; omega)) | skip)
/-- an if statement: its test walked, the ways that can be -/
local macro_rules | `(tactic| walk_at "if") => `(tactic| ((first | with_reducible apply k_seqI | with_reducible apply k_if); walk_at "go"; walk_at "br"))
/-- a branch of which omega shuts one way -/
local macro_rules | `(tactic| walk_at "br1") => `(tactic| first
  | (with_reducible apply if_dec; (· (intro hbr; first | exact absurd (by assumption) hbr | exact absurd hbr (by assumption) | (exfalso; omega) | (exfalso; simp only [List.length_cons, List.length_nil] at hbr; omega))); intro hbr)
  | (with_reducible apply if_dec; rotate_left; (· (intro hbr; first | exact absurd (by assumption) hbr | exact absurd hbr (by assumption) | (exfalso; omega) | (exfalso; simp only [List.length_cons, List.length_nil] at hbr; omega))); intro hbr)
  | (with_reducible apply if_ndec; (· (intro hbr; first | exact absurd (by assumption) hbr | exact absurd hbr (by assumption) | (exfalso; omega) | (exfalso; simp only [List.length_cons, List.length_nil] at hbr; omega))); intro hbr)
  | (with_reducible apply if_ndec; rotate_left; (· (intro hbr; first | exact absurd (by assumption) hbr | exact absurd hbr (by assumption) | (exfalso; omega) | (exfalso; simp only [List.length_cons, List.length_nil] at hbr; omega))); intro hbr) | fail)
local macro_rules | `(tactic| walk_at "run") => `(tactic| repeat' (first | walk_at "st" | walk_at "br1" | with_reducible apply k_seqI | with_reducible apply k_if))
local macro_rules | `(tactic| walk_at "all") => `(tactic| repeat' (first | walk_at "st" | walk_at "br1" | walk_at "br" | with_reducible apply k_seqI | with_reducible apply k_if))
local macro_rules | `(tactic| walk_at "st") => `(tactic| first
  | ((with_reducible apply k_eqP); (· walk_at "ht"); (· walk_at "ht"))
  | ((with_reducible apply k_neP); (· walk_at "ht"); (· walk_at "ht")) | fail)
local macro_rules | `(tactic| walk_at "st") => `(tactic| first
  | ((with_reducible apply if_seq); (· rfl))
  | ((with_reducible apply if_nseq); (· rfl))
  | ((with_reducible apply if_sne); (· decide +kernel))
  | ((with_reducible apply if_nsne); (· decide +kernel)) | fail)

local macro_rules | `(tactic| walk_at "smx") => `(tactic| first | exact sm_ofB (by omega) | exact sm_bitsOf (by omega) | exact sm_mask (by omega) | (refine' sm_modp ?h1; (case h1 => walk_at "sm")) | (refine' sm_divp ?h1; (case h1 => walk_at "sm")) | (refine' sm_shl ?h1 ?h2; (case h1 => walk_at "sm"); (case h2 => omega)) | (refine' sm_or ?h1 ?h2; (case h1 => walk_at "sm"); (case h2 => walk_at "sm")) | (refine' sm_xor ?h1 ?h2; (case h1 => walk_at "sm"); (case h2 => walk_at "sm")) | (refine' sm_and ?h1; (case h1 => walk_at "sm")) | fail)
local macro_rules | `(tactic| walk_at "sdx") => `(tactic| first | (with_reducible exact pow_pos_c _) | ((with_reducible refine' cshl ?h1 ?h2 ?h3 ?h4); (case h1 => walk_at "sm"); (case h2 => omega); (case h3 => omega); (case h4 => decide +kernel)) | fail)
local macro_rules | `(tactic| walk_at "st") => `(tactic| first
  | (with_reducible apply k_andm)
  | (with_reducible apply k_andc)
  | (with_reducible apply k_orc)
  | (with_reducible apply k_xorm)
  | (with_reducible apply k_xorc)
  | ((with_reducible apply k_shl1); (· first | omega | exact modbd (by omega) (by omega)))
  | ((with_reducible apply k_shlc); (· exact cshl (by walk_at "sm") (by omega) (by omega) (by decide +kernel)))
  | ((with_reducible apply k_shrc); (· first | omega | exact Int.emod_nonneg _ (by omega))) | fail)
local macro_rules | `(tactic| walk_at "hr") => `(tactic| first | assumption | (refine' RT.mono ?h1 ?h2; (case h2 => assumption); (case h1 => walk_at "hr")) | fail)
local macro_rules | `(tactic| walk_at "lround") => `(tactic| (walk_at "go"))

local macro_rules | `(tactic| walk_at "st") => `(tactic| first
  | (with_reducible apply k_bm)
  | ((with_reducible apply k_bmA); (· walk_at "hl"))
  | ((with_reducible apply k_app); (· walk_at "hp"); (· first | assumption | decide | omega | (simp; done) | (simp; omega)); intro H' hm hh)
  | (with_reducible apply k_sl)
  | (with_reducible apply k_part)
  | (with_reducible apply k_partV)
  | (with_reducible apply k_nopart)
  | ((with_reducible apply k_slV); (· walk_at "hl"); intro p H' hn hs ht)
  | ((with_reducible apply k_lofL); (· walk_at "hl"); intro p H' hn hs ht)
  | (with_reducible apply k_gsub)
  | ((with_reducible apply k_eqE); (· walk_at "hl"); (· walk_at "hl"))
  | ((with_reducible apply k_neE); (· walk_at "hl"); (· walk_at "hl")) | fail)

local macro_rules | `(tactic| walk_at "hp") => `(tactic| first | assumption | (refine' SameT.sql ?h1 ?h2; (case h1 => assumption); (case h2 => walk_at "hp")) | (refine' SameT.sqt ?h1 ?h2; (case h1 => assumption); (case h2 => walk_at "hp")) | (refine' same_t ?h1 ?h2; (case h1 => assumption); (case h2 => walk_at "hp")) | (refine' same_l ?h1 ?h2; (case h1 => assumption); (case h2 => walk_at "hp")) | (refine' same_at ?h1 ?h2; (case h1 => assumption); (case h2 => walk_at "hp")) | fail)

local macro_rules | `(tactic| walk_at "st") => `(tactic| first
  | (with_reducible apply k_seqO)
  | (with_reducible apply k_fld)
  | (with_reducible apply k_sto)
  | (with_reducible apply k_met')
  | (with_reducible apply k_mak) | fail)

local macro_rules | `(tactic| walk_at "st") => `(tactic| first | ((with_reducible apply k_altV); (· rfl)) | (with_reducible apply k_break) | fail)

local macro_rules | `(tactic| walk_at "st") => `(tactic| first | (with_reducible apply k_metX') | (with_reducible apply k_makX) | (with_reducible apply k_callSDx) | ((with_reducible apply k_altVX); (· rfl)) | fail)

local macro_rules | `(tactic| walk_at "st") => `(tactic| first | (with_reducible apply k_metF') | (with_reducible apply k_callD) | fail)

local macro_rules | `(tactic| walk_at "st") => `(tactic| first | (with_reducible apply k_callSx) | fail)

theorem sunOk_set {ls : List Int} {lp v : Int} {ts : List Tm} (h1 : 1 ≤ ls.length) (h20 : ls.length ≤ 20) (hr : ∀ x ∈ ls, 0 ≤ x ∧ x ≤ 1000) (l0 : 1 ≤ lp) (l1 : lp ≤ ls.length) (v0 : fallsT ts + 1 ≤ v) (v1 : v ≤ 1000) (hl : ts.length ≤ 6) (hok : ∀ t ∈ ts, TmOk t) : SunOk (ls.set (lp - 1).toNat v) lp ts := by
  have hset := fun d => sum_set (ls := ls) (i := (lp - 1).toNat) (by omega) d
  have fb := falls_bd ts
  have hmem : ∀ w x : Int, x ∈ ls.set (lp - 1).toNat w → x ∈ ls ∨ x = w := fun w x hx => List.mem_or_eq_of_mem_set hx
  have hgs : (ls.set (lp - 1).toNat v).getD (lp - 1).toNat 0 = v := by
    rw [List.getD_eq_getElem?_getD, List.getElem?_set_self (by omega)]; rfl
  have e1 := hset (v - ls.getD (lp - 1).toNat 0)
  have e0 := hset (0 - ls.getD (lp - 1).toNat 0)
  rw [show ls.getD (lp - 1).toNat 0 + (v - ls.getD (lp - 1).toNat 0) = v by omega] at e1
  rw [show ls.getD (lp - 1).toNat 0 + (0 - ls.getD (lp - 1).toNat 0) = 0 by omega] at e0
  have hb0 := (sum_bd (ls := ls.set (lp - 1).toNat 0) (B := 1000) fun x hx => by
    rcases hmem 0 x hx with h | h
    · exact hr x h
    · omega).1
  refine ⟨by rw [List.length_set]; omega, by rw [List.length_set]; omega, fun x hx => ?_, l0, by rw [List.length_set]; omega, by rw [hgs]; omega, by omega, hl, hok⟩
  rcases hmem v x hx with h | h
  · exact hr x h
  · omega
theorem pick_all {P : Int → Prop} {l : List Int} {i : Int} (h0 : 0 ≤ i) (h1 : i < l.length) (hP : ∀ z ∈ l, P z) : P (l.getD i.toNat 0) := by
  have hi : i.toNat < l.length := by omega
  rw [List.getD_eq_getElem?_getD, List.getElem?_eq_getElem hi]
  exact hP _ (List.getElem_mem hi)
theorem and_anyS {t u : TT} {σ : L2.St} {H : Hp} {R : Bool → Hp → Prop} (p : Prop) (P : Hp → Prop) (hT : ∀ H', P H' → p → R true H') (hF : ∀ H', P H' → R false H') (h : ∀ R' : Bool → Hp → Prop, (∀ H', P H' → p → R' true H') → (∀ H', P H' → R' false H') → tAnd t u σ H R') : tAnd t u σ H R := h R hT hF
theorem or_splitS {t u : TT} {σ : L2.St} {H : Hp} {R : Bool → Hp → Prop} (p : Prop) (P : Hp → Prop) (hT : ∀ H', P H' → p → R true H') (hF : ∀ H', P H' → ¬ p → R false H') (h : ∀ R' : Bool → Hp → Prop, (∀ H', P H' → p → R' true H') → (∀ H', P H' → ¬ p → R' false H') → tOr t u σ H R') : tOr t u σ H R := h R hT hF
theorem sm_between {a b x : Int} {n : Nat} (ha : Sm n a) (hb : Sm n b) (h1 : a ≤ x) (h2 : x ≤ b) : Sm n x := by
  have := ha.h
  have := hb.h
  exact ⟨by omega⟩

def topS (i : Nat) : Stmt := PySem.Challenge.pw_feastwheel_k40_days_by_date.main.body.getD i (.Pass ⟨0, 0, 0, 0⟩)
abbrev s_list_of : Stmt := topS 28
theorem sc_list_of : FnScope ["terms"] ["terms"] (defScope s_list_of) := ⟨rfl, rfl, rfl, by decide +kernel, rfl, by decide +kernel, by decide +kernel⟩
abbrev s_counter_summed : Stmt := (defBody (topS 26)).getD 1 (.Pass ⟨0, 0, 0, 0⟩)
theorem sc_counter_summed : NdefX.NScope ["k", "kept", "total", "sign", "a", "b", "n"] ["k"] ["kept"] (C8.fnScope s_counter_summed) := NdefX.nscope_by (by decide +kernel)
abbrev s_counter : Stmt := topS 26
theorem sc_counter : FnScope ["terms", "summed", "kept"] ["terms"] (defScope s_counter) := ⟨rfl, rfl, rfl, by decide +kernel, rfl, by decide +kernel, by decide +kernel⟩
abbrev s_Measure_upto : Stmt := inClass (topS 30) 2
theorem sc_Measure_upto : FnScope ["self", "k", "summed"] ["self", "k"] (defScope s_Measure_upto) := ⟨rfl, rfl, rfl, by decide +kernel, rfl, by decide +kernel, by decide +kernel⟩
abbrev s_many_fall : Stmt := topS 27
theorem sc_many_fall : FnScope ["terms", "term"] ["terms"] (defScope s_many_fall) := ⟨rfl, rfl, rfl, by decide +kernel, rfl, by decide +kernel, by decide +kernel⟩
abbrev s_is_term : Stmt := topS 24
theorem sc_is_term : FnScope ["term", "sign", "a", "b", "n"] ["term"] (defScope s_is_term) := ⟨rfl, rfl, rfl, by decide +kernel, rfl, by decide +kernel, by decide +kernel⟩
abbrev s_is_measure : Stmt := topS 29
theorem sc_is_measure : FnScope ["base", "terms", "term"] ["base", "terms"] (defScope s_is_measure) := ⟨rfl, rfl, rfl, by decide +kernel, rfl, by decide +kernel, by decide +kernel⟩
abbrev s_sized : Stmt := topS 9
theorem sc_sized : FnScope ["size"] ["size"] (defScope s_sized) := ⟨rfl, rfl, rfl, by decide +kernel, rfl, by decide +kernel, by decide +kernel⟩
abbrev s_divisor : Stmt := topS 8
theorem sc_divisor : FnScope ["one", "other"] ["one", "other"] (defScope s_divisor) := ⟨rfl, rfl, rfl, by decide +kernel, rfl, by decide +kernel, by decide +kernel⟩
abbrev s_common : Stmt := topS 10
theorem sc_common : FnScope ["one", "other"] ["one", "other"] (defScope s_common) := ⟨rfl, rfl, rfl, by decide +kernel, rfl, by decide +kernel, by decide +kernel⟩
abbrev s_Measure_period : Stmt := inClass (topS 30) 3
theorem sc_Measure_period : FnScope ["self", "size", "term"] ["self"] (defScope s_Measure_period) := ⟨rfl, rfl, rfl, by decide +kernel, rfl, by decide +kernel, by decide +kernel⟩
abbrev s_Measure_init : Stmt := inClass (topS 30) 0
theorem sc_Measure_init : FnScope ["self", "base", "terms", "kept"] ["self", "base", "terms"] (defScope s_Measure_init) := ⟨rfl, rfl, rfl, by decide +kernel, rfl, by decide +kernel, by decide +kernel⟩
abbrev s_are_months : Stmt := topS 34
theorem sc_are_months : FnScope ["lengths", "leap", "terms"] ["lengths", "leap", "terms"] (defScope s_are_months) := ⟨rfl, rfl, rfl, by decide +kernel, rfl, by decide +kernel, by decide +kernel⟩
abbrev s_Sun_init : Stmt := inClass (topS 36) 0
theorem sc_Sun_init : FnScope ["self", "start", "lengths", "leap", "terms", "months", "kept"] ["self", "start", "lengths", "leap", "terms"] (defScope s_Sun_init) := ⟨rfl, rfl, rfl, by decide +kernel, rfl, by decide +kernel, by decide +kernel⟩
abbrev s_Lnumber : Stmt := topS 41
theorem sc_Lnumber : FnScope ["_law_cell", "_law_part"] ["_law_cell"] (defScope s_Lnumber) := ⟨rfl, rfl, rfl, by decide +kernel, rfl, by decide +kernel, by decide +kernel⟩
abbrev s_Lcell_at : Stmt := topS 39
theorem sc_Lcell_at : FnScope ["_law_script", "_law_k"] ["_law_script", "_law_k"] (defScope s_Lcell_at) := ⟨rfl, rfl, rfl, by decide +kernel, rfl, by decide +kernel, by decide +kernel⟩
abbrev s_Lterm : Stmt := topS 47
theorem sc_Lterm : FnScope ["_law_cell", "_law_most", "_law_n", "_law_a"] ["_law_cell", "_law_most"] (defScope s_Lterm) := ⟨rfl, rfl, rfl, by decide +kernel, rfl, by decide +kernel, by decide +kernel⟩
abbrev s_Lsun : Stmt := topS 48
theorem sc_Lsun : FnScope ["_law_script", "_law_start", "_law_one", "_law_k", "_law_many", "_law_rest", "_law_lengths", "_law_two", "_law_leap", "_law_terms"] ["_law_script"] (defScope s_Lsun) := ⟨rfl, rfl, rfl, by decide +kernel, rfl, by decide +kernel, by decide +kernel⟩
abbrev s_Lwanted : Stmt := topS 50
theorem sc_Lwanted : FnScope ["_law_script", "_law_cell", "_law_month", "_law_far", "_law_day"] ["_law_script"] (defScope s_Lwanted) := ⟨rfl, rfl, rfl, by decide +kernel, rfl, by decide +kernel, by decide +kernel⟩
abbrev s_Sun_cycle : Stmt := inClass (topS 36) 4
theorem sc_Sun_cycle : FnScope ["self", "many"] ["self"] (defScope s_Sun_cycle) := ⟨rfl, rfl, rfl, by decide +kernel, rfl, by decide +kernel, by decide +kernel⟩
abbrev s_Moon_cycle : Stmt := inClass (topS 37) 4
theorem sc_Moon_cycle : FnScope ["self", "years", "months", "size", "times"] ["self"] (defScope s_Moon_cycle) := ⟨rfl, rfl, rfl, by decide +kernel, rfl, by decide +kernel, by decide +kernel⟩
abbrev s_allowed : Stmt := topS 13
theorem sc_allowed : FnScope ["size"] ["size"] (defScope s_allowed) := ⟨rfl, rfl, rfl, by decide +kernel, rfl, by decide +kernel, by decide +kernel⟩
abbrev s_term_on : Stmt := topS 25
theorem sc_term_on : FnScope ["term", "k", "a", "n"] ["term", "k"] (defScope s_term_on) := ⟨rfl, rfl, rfl, by decide +kernel, rfl, by decide +kernel, by decide +kernel⟩
abbrev s_Measure_at : Stmt := inClass (topS 30) 1
theorem sc_Measure_at : FnScope ["self", "k", "found", "term"] ["self", "k"] (defScope s_Measure_at) := ⟨rfl, rfl, rfl, by decide +kernel, rfl, by decide +kernel, by decide +kernel⟩
abbrev s_Sun_lengths : Stmt := inClass (topS 36) 2
theorem sc_Sun_lengths : FnScope ["self", "year", "some"] ["self", "year"] (defScope s_Sun_lengths) := ⟨rfl, rfl, rfl, by decide +kernel, rfl, by decide +kernel, by decide +kernel⟩
abbrev s_Moon_lengths : Stmt := inClass (topS 37) 2
theorem sc_Moon_lengths : FnScope ["self", "year", "first", "k"] ["self", "year"] (defScope s_Moon_lengths) := ⟨rfl, rfl, rfl, by decide +kernel, rfl, by decide +kernel, by decide +kernel⟩
abbrev s_mask : Stmt := topS 14
theorem sc_mask : FnScope ["size"] ["size"] (defScope s_mask) := ⟨rfl, rfl, rfl, by decide +kernel, rfl, by decide +kernel, by decide +kernel⟩
abbrev s_later : Stmt := topS 15
theorem sc_later : FnScope ["turn", "number", "size", "shift"] ["turn", "number"] (defScope s_later) := ⟨rfl, rfl, rfl, by decide +kernel, rfl, by decide +kernel, by decide +kernel⟩
abbrev s_Sun_year_start : Stmt := inClass (topS 36) 1
theorem sc_Sun_year_start : FnScope ["self", "year"] ["self", "year"] (defScope s_Sun_year_start) := ⟨rfl, rfl, rfl, by decide +kernel, rfl, by decide +kernel, by decide +kernel⟩
abbrev s_Moon_year_start : Stmt := inClass (topS 37) 1
theorem sc_Moon_year_start : FnScope ["self", "year"] ["self", "year"] (defScope s_Moon_year_start) := ⟨rfl, rfl, rfl, by decide +kernel, rfl, by decide +kernel, by decide +kernel⟩
abbrev s_month_bits : Stmt := topS 17
theorem sc_month_bits : FnScope ["many", "day"] ["many", "day"] (defScope s_month_bits) := ⟨rfl, rfl, rfl, by decide +kernel, rfl, by decide +kernel, by decide +kernel⟩
abbrev s_year_bits : Stmt := topS 18
theorem sc_year_bits : FnScope ["lengths", "month", "day", "bits", "place", "k", "many"] ["lengths", "month", "day"] (defScope s_year_bits) := ⟨rfl, rfl, rfl, by decide +kernel, rfl, by decide +kernel, by decide +kernel⟩
abbrev s_dated : Stmt := topS 19
theorem sc_dated : FnScope ["calendar", "month", "day", "step", "rest", "years", "days", "shared", "size", "bits", "place", "year", "some"] ["calendar", "month", "day", "step", "rest"] (defScope s_dated) := ⟨rfl, rfl, rfl, by decide +kernel, rfl, by decide +kernel, by decide +kernel⟩
abbrev s_Lmade : Stmt := topS 53
theorem sc_Lmade : FnScope ["_law_calendar", "_law_wanted_here", "_law_cell", "_law_month", "_law_day", "_law_step_here", "_law_rest"] ["_law_calendar", "_law_wanted_here", "_law_cell"] (defScope s_Lmade) := ⟨rfl, rfl, rfl, by decide +kernel, rfl, by decide +kernel, by decide +kernel⟩
abbrev s_Moon_init : Stmt := inClass (topS 37) 0
theorem sc_Moon_init : FnScope ["self", "start", "days", "many"] ["self", "start", "days", "many"] (defScope s_Moon_init) := ⟨rfl, rfl, rfl, by decide +kernel, rfl, by decide +kernel, by decide +kernel⟩
abbrev s_Lmoon : Stmt := topS 49
theorem sc_Lmoon : FnScope ["_law_script", "_law_start", "_law_one", "_law_two", "_law_days"] ["_law_script"] (defScope s_Lmoon) := ⟨rfl, rfl, rfl, by decide +kernel, rfl, by decide +kernel, by decide +kernel⟩
abbrev s_Lis_short : Stmt := topS 52
theorem sc_Lis_short : FnScope ["_law_calendar"] ["_law_calendar"] (defScope s_Lis_short) := ⟨rfl, rfl, rfl, by decide +kernel, rfl, by decide +kernel, by decide +kernel⟩
abbrev s_Lmixed : Stmt := topS 42
theorem sc_Lmixed : FnScope ["_law_cell", "_law_k", "_law_number_here"] ["_law_cell", "_law_k"] (defScope s_Lmixed) := ⟨rfl, rfl, rfl, by decide +kernel, rfl, by decide +kernel, by decide +kernel⟩
abbrev s_Lany_term : Stmt := topS 43
theorem sc_Lany_term : FnScope ["_law_cell", "_law_k", "_law_most", "_law_n", "_law_a"] ["_law_cell", "_law_k", "_law_most"] (defScope s_Lany_term) := ⟨rfl, rfl, rfl, by decide +kernel, rfl, by decide +kernel, by decide +kernel⟩
abbrev s_Lany_terms : Stmt := topS 44
theorem sc_Lany_terms : FnScope ["_law_cell", "_law_most", "_law_k"] ["_law_cell"] (defScope s_Lany_terms) := ⟨rfl, rfl, rfl, by decide +kernel, rfl, by decide +kernel, by decide +kernel⟩
abbrev s_Lany_measure : Stmt := topS 45
theorem sc_Lany_measure : FnScope ["_law_cell", "_law_most", "_law_terms", "_law_falls", "_law_far", "_law_term_here"] ["_law_cell", "_law_most"] (defScope s_Lany_measure) := ⟨rfl, rfl, rfl, by decide +kernel, rfl, by decide +kernel, by decide +kernel⟩
abbrev s_Lany : Stmt := topS 46
theorem sc_Lany : FnScope ["_law_script", "_law_start", "_law_one", "_law_two", "_law_terms", "_law_falls", "_law_many", "_law_lengths", "_law_leap", "_law_k", "_law_term_here"] ["_law_script"] (defScope s_Lany) := ⟨rfl, rfl, rfl, by decide +kernel, rfl, by decide +kernel, by decide +kernel⟩
abbrev s_Lyears : Stmt := topS 54
theorem sc_Lyears : FnScope ["_law_calendar", "_law_step_here", "_law_years_here", "_law_many"] ["_law_calendar", "_law_step_here"] (defScope s_Lyears) := ⟨rfl, rfl, rfl, by decide +kernel, rfl, by decide +kernel, by decide +kernel⟩
abbrev s_Lsize : Stmt := topS 55
theorem sc_Lsize : FnScope ["_law_calendar", "_law_step_here", "_law_years_here", "_law_days"] ["_law_calendar", "_law_step_here"] (defScope s_Lsize) := ⟨rfl, rfl, rfl, by decide +kernel, rfl, by decide +kernel, by decide +kernel⟩
abbrev s_Lstep : Stmt := topS 51
theorem sc_Lstep : FnScope ["_law_calendar", "_law_wanted_here", "_law_cell", "_law_month", "_law_day", "_law_step_here", "_law_rest"] ["_law_calendar", "_law_wanted_here", "_law_cell"] (defScope s_Lstep) := ⟨rfl, rfl, rfl, by decide +kernel, rfl, by decide +kernel, by decide +kernel⟩
abbrev s_NoDate_init : Stmt := inClass (topS 6) 0
theorem sc_NoDate_init : FnScope ["self", "date"] ["self", "date"] (defScope s_NoDate_init) := ⟨rfl, rfl, rfl, by decide +kernel, rfl, by decide +kernel, by decide +kernel⟩
abbrev s_Calendar_day_of : Stmt := inClass (topS 35) 1
theorem sc_Calendar_day_of : FnScope ["self", "date", "year", "month", "day", "some"] ["self", "date"] (defScope s_Calendar_day_of) := ⟨rfl, rfl, rfl, by decide +kernel, rfl, by decide +kernel, by decide +kernel⟩
abbrev s_Laimed : Stmt := topS 56
theorem sc_Laimed : FnScope ["_law_calendar", "_law_wanted_here", "_law_number_here", "_law_month", "_law_day", "_law_step_here", "_law_rest", "_law_year", "_law_lengths", "_law_found"] ["_law_calendar", "_law_wanted_here", "_law_number_here"] (defScope s_Laimed) := ⟨rfl, rfl, rfl, by decide +kernel, rfl, by decide +kernel, by decide +kernel⟩
abbrev s_Lwhole : Stmt := topS 40
theorem sc_Lwhole : FnScope ["_law_found"] ["_law_found"] (defScope s_Lwhole) := ⟨rfl, rfl, rfl, by decide +kernel, rfl, by decide +kernel, by decide +kernel⟩
abbrev s_Measure_seek : Stmt := inClass (topS 30) 4
theorem sc_Measure_seek : FnScope ["self", "total", "size", "rounds", "rest", "low", "high", "middle"] ["self", "total"] (defScope s_Measure_seek) := ⟨rfl, rfl, rfl, by decide +kernel, rfl, by decide +kernel, by decide +kernel⟩
abbrev s_Sun_year_at : Stmt := inClass (topS 36) 3
theorem sc_Sun_year_at : FnScope ["self", "day"] ["self", "day"] (defScope s_Sun_year_at) := ⟨rfl, rfl, rfl, by decide +kernel, rfl, by decide +kernel, by decide +kernel⟩
abbrev s_Moon_year_at : Stmt := inClass (topS 37) 3
theorem sc_Moon_year_at : FnScope ["self", "day"] ["self", "day"] (defScope s_Moon_year_at) := ⟨rfl, rfl, rfl, by decide +kernel, rfl, by decide +kernel, by decide +kernel⟩
abbrev s_Calendar_date_of : Stmt := inClass (topS 35) 0
theorem sc_Calendar_date_of : FnScope ["self", "day", "year", "rest", "month", "many"] ["self", "day"] (defScope s_Calendar_date_of) := ⟨rfl, rfl, rfl, by decide +kernel, rfl, by decide +kernel, by decide +kernel⟩
abbrev s_Ldue : Stmt := topS 57
theorem sc_Ldue : FnScope ["_law_calendar", "_law_wanted_here", "_law_day", "_law_month", "_law_number_here", "_law_step_here", "_law_rest", "_law_date", "_law_most"] ["_law_calendar", "_law_wanted_here", "_law_day"] (defScope s_Ldue) := ⟨rfl, rfl, rfl, by decide +kernel, rfl, by decide +kernel, by decide +kernel⟩
abbrev s_law : Stmt := topS 58
theorem sc_law : FnScope ["_law_script", "_law_calendar", "_law_wanted_here", "_law_found", "_law_day", "_law_one"] ["_law_script"] (defScope s_law) := ⟨rfl, rfl, rfl, by decide +kernel, rfl, by decide +kernel, by decide +kernel⟩
set_option genSizeOf false in
set_option genSizeOfSpec false in
set_option genInjectivity false in
structure Txt (K : PySem.W.Frag) (mg : Str → Option Value) (base : Heap) where
  a_list_of : Addr
  fd_list_of : FuncData
  F_list_of : Fun K "list_of" "list_of" s_list_of a_list_of fd_list_of
  g_list_of : mg "list_of" = some (.ref a_list_of)
  b_list_of : Binds K fd_list_of ["terms"] []
  a_counter : Addr
  fd_counter : FuncData
  cc_counter : Addr
  ct_counter : Addr
  tb_counter : LamX.TabB base mg cc_counter ct_counter
  F_counter : FunC K "counter" "counter" s_counter a_counter fd_counter cc_counter
  g_counter : mg "counter" = some (.ref a_counter)
  b_counter : Binds K fd_counter ["terms"] []
  a_Measure_upto : Addr
  fd_Measure_upto : FuncData
  F_Measure_upto : Fun K "upto" "Measure.upto" s_Measure_upto a_Measure_upto fd_Measure_upto
  b_Measure_upto : Binds K fd_Measure_upto ["self", "k"] []
  a_many_fall : Addr
  fd_many_fall : FuncData
  F_many_fall : Fun K "many_fall" "many_fall" s_many_fall a_many_fall fd_many_fall
  g_many_fall : mg "many_fall" = some (.ref a_many_fall)
  b_many_fall : Binds K fd_many_fall ["terms"] []
  a_is_term : Addr
  fd_is_term : FuncData
  F_is_term : Fun K "is_term" "is_term" s_is_term a_is_term fd_is_term
  g_is_term : mg "is_term" = some (.ref a_is_term)
  b_is_term : Binds K fd_is_term ["term"] []
  a_is_measure : Addr
  fd_is_measure : FuncData
  F_is_measure : Fun K "is_measure" "is_measure" s_is_measure a_is_measure fd_is_measure
  g_is_measure : mg "is_measure" = some (.ref a_is_measure)
  b_is_measure : Binds K fd_is_measure ["base", "terms"] []
  a_sized : Addr
  fd_sized : FuncData
  F_sized : Fun K "sized" "sized" s_sized a_sized fd_sized
  g_sized : mg "sized" = some (.ref a_sized)
  b_sized : Binds K fd_sized ["size"] []
  a_divisor : Addr
  fd_divisor : FuncData
  F_divisor : Fun K "divisor" "divisor" s_divisor a_divisor fd_divisor
  g_divisor : mg "divisor" = some (.ref a_divisor)
  b_divisor : Binds K fd_divisor ["one", "other"] []
  a_common : Addr
  fd_common : FuncData
  F_common : Fun K "common" "common" s_common a_common fd_common
  g_common : mg "common" = some (.ref a_common)
  b_common : Binds K fd_common ["one", "other"] []
  a_Measure_period : Addr
  fd_Measure_period : FuncData
  F_Measure_period : Fun K "period" "Measure.period" s_Measure_period a_Measure_period fd_Measure_period
  b_Measure_period : Binds K fd_Measure_period ["self"] []
  a_Measure_init : Addr
  fd_Measure_init : FuncData
  F_Measure_init : FunD K "__init__" "Measure.__init__" (defArgs s_Measure_init) (defBody s_Measure_init) (defScope s_Measure_init) [.non] [] a_Measure_init fd_Measure_init
  ds_Measure_init_3 : List Value
  v_Measure_init_3 : Vals [] ds_Measure_init_3
  b_Measure_init_3 : Binds K fd_Measure_init ["self", "base", "terms"] ds_Measure_init_3
  a_are_months : Addr
  fd_are_months : FuncData
  F_are_months : Fun K "are_months" "are_months" s_are_months a_are_months fd_are_months
  g_are_months : mg "are_months" = some (.ref a_are_months)
  b_are_months : Binds K fd_are_months ["lengths", "leap", "terms"] []
  a_Sun_init : Addr
  fd_Sun_init : FuncData
  F_Sun_init : FunD K "__init__" "Sun.__init__" (defArgs s_Sun_init) (defBody s_Sun_init) (defScope s_Sun_init) [.int 1, .non] [] a_Sun_init fd_Sun_init
  ds_Sun_init_3 : List Value
  v_Sun_init_3 : Vals [.int 1, .non] ds_Sun_init_3
  b_Sun_init_3 : Binds K fd_Sun_init ["self", "start", "lengths", "leap", "terms"] ds_Sun_init_3
  ds_Sun_init_5 : List Value
  v_Sun_init_5 : Vals [] ds_Sun_init_5
  b_Sun_init_5 : Binds K fd_Sun_init ["self", "start", "lengths", "leap", "terms"] ds_Sun_init_5
  a_Lnumber : Addr
  fd_Lnumber : FuncData
  F_Lnumber : Fun K "_law_number" "_law_number" s_Lnumber a_Lnumber fd_Lnumber
  g_Lnumber : mg "_law_number" = some (.ref a_Lnumber)
  b_Lnumber : Binds K fd_Lnumber ["_law_cell"] []
  a_Lcell_at : Addr
  fd_Lcell_at : FuncData
  F_Lcell_at : Fun K "_law_cell_at" "_law_cell_at" s_Lcell_at a_Lcell_at fd_Lcell_at
  g_Lcell_at : mg "_law_cell_at" = some (.ref a_Lcell_at)
  b_Lcell_at : Binds K fd_Lcell_at ["_law_script", "_law_k"] []
  a_Lterm : Addr
  fd_Lterm : FuncData
  F_Lterm : Fun K "_law_term" "_law_term" s_Lterm a_Lterm fd_Lterm
  g_Lterm : mg "_law_term" = some (.ref a_Lterm)
  b_Lterm : Binds K fd_Lterm ["_law_cell", "_law_most"] []
  a_Lsun : Addr
  fd_Lsun : FuncData
  F_Lsun : Fun K "_law_sun" "_law_sun" s_Lsun a_Lsun fd_Lsun
  g_Lsun : mg "_law_sun" = some (.ref a_Lsun)
  b_Lsun : Binds K fd_Lsun ["_law_script"] []
  a_Lwanted : Addr
  fd_Lwanted : FuncData
  F_Lwanted : Fun K "_law_wanted" "_law_wanted" s_Lwanted a_Lwanted fd_Lwanted
  g_Lwanted : mg "_law_wanted" = some (.ref a_Lwanted)
  b_Lwanted : Binds K fd_Lwanted ["_law_script"] []
  a_Sun_cycle : Addr
  fd_Sun_cycle : FuncData
  F_Sun_cycle : Fun K "cycle" "Sun.cycle" s_Sun_cycle a_Sun_cycle fd_Sun_cycle
  b_Sun_cycle : Binds K fd_Sun_cycle ["self"] []
  a_Moon_cycle : Addr
  fd_Moon_cycle : FuncData
  F_Moon_cycle : Fun K "cycle" "Moon.cycle" s_Moon_cycle a_Moon_cycle fd_Moon_cycle
  b_Moon_cycle : Binds K fd_Moon_cycle ["self"] []
  a_allowed : Addr
  fd_allowed : FuncData
  F_allowed : Fun K "allowed" "allowed" s_allowed a_allowed fd_allowed
  g_allowed : mg "allowed" = some (.ref a_allowed)
  b_allowed : Binds K fd_allowed ["size"] []
  a_term_on : Addr
  fd_term_on : FuncData
  F_term_on : Fun K "term_on" "term_on" s_term_on a_term_on fd_term_on
  g_term_on : mg "term_on" = some (.ref a_term_on)
  b_term_on : Binds K fd_term_on ["term", "k"] []
  a_Measure_at : Addr
  fd_Measure_at : FuncData
  F_Measure_at : Fun K "at" "Measure.at" s_Measure_at a_Measure_at fd_Measure_at
  b_Measure_at : Binds K fd_Measure_at ["self", "k"] []
  a_Sun_lengths : Addr
  fd_Sun_lengths : FuncData
  F_Sun_lengths : Fun K "lengths" "Sun.lengths" s_Sun_lengths a_Sun_lengths fd_Sun_lengths
  b_Sun_lengths : Binds K fd_Sun_lengths ["self", "year"] []
  a_Moon_lengths : Addr
  fd_Moon_lengths : FuncData
  F_Moon_lengths : Fun K "lengths" "Moon.lengths" s_Moon_lengths a_Moon_lengths fd_Moon_lengths
  b_Moon_lengths : Binds K fd_Moon_lengths ["self", "year"] []
  a_mask : Addr
  fd_mask : FuncData
  F_mask : Fun K "mask" "mask" s_mask a_mask fd_mask
  g_mask : mg "mask" = some (.ref a_mask)
  b_mask : Binds K fd_mask ["size"] []
  a_later : Addr
  fd_later : FuncData
  F_later : Fun K "later" "later" s_later a_later fd_later
  g_later : mg "later" = some (.ref a_later)
  b_later : Binds K fd_later ["turn", "number"] []
  a_Sun_year_start : Addr
  fd_Sun_year_start : FuncData
  F_Sun_year_start : Fun K "year_start" "Sun.year_start" s_Sun_year_start a_Sun_year_start fd_Sun_year_start
  b_Sun_year_start : Binds K fd_Sun_year_start ["self", "year"] []
  a_Moon_year_start : Addr
  fd_Moon_year_start : FuncData
  F_Moon_year_start : Fun K "year_start" "Moon.year_start" s_Moon_year_start a_Moon_year_start fd_Moon_year_start
  b_Moon_year_start : Binds K fd_Moon_year_start ["self", "year"] []
  a_month_bits : Addr
  fd_month_bits : FuncData
  F_month_bits : Fun K "month_bits" "month_bits" s_month_bits a_month_bits fd_month_bits
  g_month_bits : mg "month_bits" = some (.ref a_month_bits)
  b_month_bits : Binds K fd_month_bits ["many", "day"] []
  a_year_bits : Addr
  fd_year_bits : FuncData
  F_year_bits : Fun K "year_bits" "year_bits" s_year_bits a_year_bits fd_year_bits
  g_year_bits : mg "year_bits" = some (.ref a_year_bits)
  b_year_bits : Binds K fd_year_bits ["lengths", "month", "day"] []
  a_dated : Addr
  fd_dated : FuncData
  F_dated : FunD K "dated" "dated" (defArgs s_dated) (defBody s_dated) (defScope s_dated) [.non, .non, .int 1, .int 0] [] a_dated fd_dated
  g_dated : mg "dated" = some (.ref a_dated)
  ds_dated_1 : List Value
  v_dated_1 : Vals [.non, .non, .int 1, .int 0] ds_dated_1
  b_dated_1 : Binds K fd_dated ["calendar", "month", "day", "step", "rest"] ds_dated_1
  ds_dated_2 : List Value
  v_dated_2 : Vals [.non, .int 1, .int 0] ds_dated_2
  b_dated_2 : Binds K fd_dated ["calendar", "month", "day", "step", "rest"] ds_dated_2
  ds_dated_3 : List Value
  v_dated_3 : Vals [.int 1, .int 0] ds_dated_3
  b_dated_3 : Binds K fd_dated ["calendar", "month", "day", "step", "rest"] ds_dated_3
  ds_dated_5 : List Value
  v_dated_5 : Vals [] ds_dated_5
  b_dated_5 : Binds K fd_dated ["calendar", "month", "day", "step", "rest"] ds_dated_5
  a_Lmade : Addr
  fd_Lmade : FuncData
  F_Lmade : Fun K "_law_made" "_law_made" s_Lmade a_Lmade fd_Lmade
  g_Lmade : mg "_law_made" = some (.ref a_Lmade)
  b_Lmade : Binds K fd_Lmade ["_law_calendar", "_law_wanted_here", "_law_cell"] []
  a_Moon_init : Addr
  fd_Moon_init : FuncData
  F_Moon_init : Fun K "__init__" "Moon.__init__" s_Moon_init a_Moon_init fd_Moon_init
  b_Moon_init : Binds K fd_Moon_init ["self", "start", "days", "many"] []
  a_Lmoon : Addr
  fd_Lmoon : FuncData
  F_Lmoon : Fun K "_law_moon" "_law_moon" s_Lmoon a_Lmoon fd_Lmoon
  g_Lmoon : mg "_law_moon" = some (.ref a_Lmoon)
  b_Lmoon : Binds K fd_Lmoon ["_law_script"] []
  a_Lis_short : Addr
  fd_Lis_short : FuncData
  F_Lis_short : Fun K "_law_is_short" "_law_is_short" s_Lis_short a_Lis_short fd_Lis_short
  g_Lis_short : mg "_law_is_short" = some (.ref a_Lis_short)
  b_Lis_short : Binds K fd_Lis_short ["_law_calendar"] []
  a_Lmixed : Addr
  fd_Lmixed : FuncData
  F_Lmixed : Fun K "_law_mixed" "_law_mixed" s_Lmixed a_Lmixed fd_Lmixed
  g_Lmixed : mg "_law_mixed" = some (.ref a_Lmixed)
  b_Lmixed : Binds K fd_Lmixed ["_law_cell", "_law_k"] []
  a_Lany_term : Addr
  fd_Lany_term : FuncData
  F_Lany_term : Fun K "_law_any_term" "_law_any_term" s_Lany_term a_Lany_term fd_Lany_term
  g_Lany_term : mg "_law_any_term" = some (.ref a_Lany_term)
  b_Lany_term : Binds K fd_Lany_term ["_law_cell", "_law_k", "_law_most"] []
  a_Lany_terms : Addr
  fd_Lany_terms : FuncData
  F_Lany_terms : Fun K "_law_any_terms" "_law_any_terms" s_Lany_terms a_Lany_terms fd_Lany_terms
  g_Lany_terms : mg "_law_any_terms" = some (.ref a_Lany_terms)
  b_Lany_terms : Binds K fd_Lany_terms ["_law_cell"] []
  a_Lany_measure : Addr
  fd_Lany_measure : FuncData
  F_Lany_measure : Fun K "_law_any_measure" "_law_any_measure" s_Lany_measure a_Lany_measure fd_Lany_measure
  g_Lany_measure : mg "_law_any_measure" = some (.ref a_Lany_measure)
  b_Lany_measure : Binds K fd_Lany_measure ["_law_cell", "_law_most"] []
  a_Lany : Addr
  fd_Lany : FuncData
  F_Lany : Fun K "_law_any" "_law_any" s_Lany a_Lany fd_Lany
  g_Lany : mg "_law_any" = some (.ref a_Lany)
  b_Lany : Binds K fd_Lany ["_law_script"] []
  a_Lyears : Addr
  fd_Lyears : FuncData
  F_Lyears : Fun K "_law_years" "_law_years" s_Lyears a_Lyears fd_Lyears
  g_Lyears : mg "_law_years" = some (.ref a_Lyears)
  b_Lyears : Binds K fd_Lyears ["_law_calendar", "_law_step_here"] []
  a_Lsize : Addr
  fd_Lsize : FuncData
  F_Lsize : Fun K "_law_size" "_law_size" s_Lsize a_Lsize fd_Lsize
  g_Lsize : mg "_law_size" = some (.ref a_Lsize)
  b_Lsize : Binds K fd_Lsize ["_law_calendar", "_law_step_here"] []
  a_Lstep : Addr
  fd_Lstep : FuncData
  F_Lstep : Fun K "_law_step" "_law_step" s_Lstep a_Lstep fd_Lstep
  g_Lstep : mg "_law_step" = some (.ref a_Lstep)
  b_Lstep : Binds K fd_Lstep ["_law_calendar", "_law_wanted_here", "_law_cell"] []
  a_NoDate_init : Addr
  fd_NoDate_init : FuncData
  F_NoDate_init : Fun K "__init__" "NoDate.__init__" s_NoDate_init a_NoDate_init fd_NoDate_init
  b_NoDate_init : Binds K fd_NoDate_init ["self", "date"] []
  a_Calendar_day_of : Addr
  fd_Calendar_day_of : FuncData
  F_Calendar_day_of : Fun K "day_of" "Calendar.day_of" s_Calendar_day_of a_Calendar_day_of fd_Calendar_day_of
  b_Calendar_day_of : Binds K fd_Calendar_day_of ["self", "date"] []
  a_Laimed : Addr
  fd_Laimed : FuncData
  F_Laimed : Fun K "_law_aimed" "_law_aimed" s_Laimed a_Laimed fd_Laimed
  g_Laimed : mg "_law_aimed" = some (.ref a_Laimed)
  b_Laimed : Binds K fd_Laimed ["_law_calendar", "_law_wanted_here", "_law_number_here"] []
  a_Lwhole : Addr
  fd_Lwhole : FuncData
  F_Lwhole : Fun K "_law_whole" "_law_whole" s_Lwhole a_Lwhole fd_Lwhole
  g_Lwhole : mg "_law_whole" = some (.ref a_Lwhole)
  b_Lwhole : Binds K fd_Lwhole ["_law_found"] []
  a_Measure_seek : Addr
  fd_Measure_seek : FuncData
  F_Measure_seek : Fun K "seek" "Measure.seek" s_Measure_seek a_Measure_seek fd_Measure_seek
  b_Measure_seek : Binds K fd_Measure_seek ["self", "total"] []
  a_Sun_year_at : Addr
  fd_Sun_year_at : FuncData
  F_Sun_year_at : Fun K "year_at" "Sun.year_at" s_Sun_year_at a_Sun_year_at fd_Sun_year_at
  b_Sun_year_at : Binds K fd_Sun_year_at ["self", "day"] []
  a_Moon_year_at : Addr
  fd_Moon_year_at : FuncData
  F_Moon_year_at : Fun K "year_at" "Moon.year_at" s_Moon_year_at a_Moon_year_at fd_Moon_year_at
  b_Moon_year_at : Binds K fd_Moon_year_at ["self", "day"] []
  a_Calendar_date_of : Addr
  fd_Calendar_date_of : FuncData
  F_Calendar_date_of : Fun K "date_of" "Calendar.date_of" s_Calendar_date_of a_Calendar_date_of fd_Calendar_date_of
  b_Calendar_date_of : Binds K fd_Calendar_date_of ["self", "day"] []
  a_Ldue : Addr
  fd_Ldue : FuncData
  F_Ldue : Fun K "_law_due" "_law_due" s_Ldue a_Ldue fd_Ldue
  g_Ldue : mg "_law_due" = some (.ref a_Ldue)
  b_Ldue : Binds K fd_Ldue ["_law_calendar", "_law_wanted_here", "_law_day"] []
  a_law : Addr
  fd_law : FuncData
  F_law : Fun K "law" "law" s_law a_law fd_law
  g_law : mg "law" = some (.ref a_law)
  b_law : Binds K fd_law ["_law_script"] []
  t_MOST_N : Tok
  c_MOST_N : mg "MOST_N" = some (.int 1000 t_MOST_N)
  t_MOST_BASE : Tok
  c_MOST_BASE : mg "MOST_BASE" = some (.int 20000 t_MOST_BASE)
  t_MOST_TERMS : Tok
  c_MOST_TERMS : mg "MOST_TERMS" = some (.int 6 t_MOST_TERMS)
  t_MOST_MONTHS : Tok
  c_MOST_MONTHS : mg "MOST_MONTHS" = some (.int 20 t_MOST_MONTHS)
  t_MOST_DAYS : Tok
  c_MOST_DAYS : mg "MOST_DAYS" = some (.int 1000 t_MOST_DAYS)
  t_LIMIT : Tok
  c_LIMIT : mg "LIMIT" = some (.int 150000 t_LIMIT)
  n_abs : mg "abs" = none
  n_all : mg "all" = none
  n_bool : mg "bool" = none
  n_divmod : mg "divmod" = none
  n_enumerate : mg "enumerate" = none
  n_int : mg "int" = none
  n_isinstance : mg "isinstance" = none
  n_len : mg "len" = none
  n_list : mg "list" = none
  n_max : mg "max" = none
  n_min : mg "min" = none
  n_range : mg "range" = none
  n_sum : mg "sum" = none
  n_tuple : mg "tuple" = none
  C_FeastError : Addr
  gc_FeastError : mg "FeastError" = some (.ref C_FeastError)
  kc_FeastError : PySem.W.keepIn K (.ref C_FeastError) = true
  bc_FeastError : PySem.W.subIn K (.ref C_FeastError) (.type "BaseException") = some true
  tc_FeastError : PySem.W.typeIn K (.ref C_FeastError) = some (.type "type")
  ic_FeastError : PySem.W.isClsIn K C_FeastError = true
  sc_FeastError : PySem.W.subIn K (.ref C_FeastError) (.ref C_FeastError) = some true
  C_NoDate : Addr
  gc_NoDate : mg "NoDate" = some (.ref C_NoDate)
  kc_NoDate : PySem.W.keepIn K (.ref C_NoDate) = true
  bc_NoDate : PySem.W.subIn K (.ref C_NoDate) (.type "BaseException") = some true
  tc_NoDate : PySem.W.typeIn K (.ref C_NoDate) = some (.type "type")
  ic_NoDate : PySem.W.isClsIn K C_NoDate = true
  sc_NoDate : PySem.W.subIn K (.ref C_NoDate) (.ref C_NoDate) = some true
  C_Measure : Addr
  gc_Measure : mg "Measure" = some (.ref C_Measure)
  cl_Measure : Cls K C_Measure
  mk_Measure : Mk K C_Measure a_Measure_init
  na_Measure_base : NoAttr K C_Measure "base"
  na_Measure_terms : NoAttr K C_Measure "terms"
  me_Measure_at : Meth K C_Measure "at" a_Measure_at
  me_Measure_upto : Meth K C_Measure "upto" a_Measure_upto
  me_Measure_period : Meth K C_Measure "period" a_Measure_period
  me_Measure_seek : Meth K C_Measure "seek" a_Measure_seek
  C_Sun : Addr
  gc_Sun : mg "Sun" = some (.ref C_Sun)
  cl_Sun : Cls K C_Sun
  mk_Sun : Mk K C_Sun a_Sun_init
  na_Sun_start : NoAttr K C_Sun "start"
  na_Sun_months : NoAttr K C_Sun "months"
  na_Sun_leap : NoAttr K C_Sun "leap"
  na_Sun_years : NoAttr K C_Sun "years"
  me_Sun_year_start : Meth K C_Sun "year_start" a_Sun_year_start
  me_Sun_lengths : Meth K C_Sun "lengths" a_Sun_lengths
  me_Sun_year_at : Meth K C_Sun "year_at" a_Sun_year_at
  me_Sun_cycle : Meth K C_Sun "cycle" a_Sun_cycle
  me_Sun_date_of : Meth K C_Sun "date_of" a_Calendar_date_of
  me_Sun_day_of : Meth K C_Sun "day_of" a_Calendar_day_of
  C_Moon : Addr
  gc_Moon : mg "Moon" = some (.ref C_Moon)
  cl_Moon : Cls K C_Moon
  mk_Moon : Mk K C_Moon a_Moon_init
  na_Moon_start : NoAttr K C_Moon "start"
  na_Moon_days : NoAttr K C_Moon "days"
  na_Moon_many : NoAttr K C_Moon "many"
  me_Moon_year_start : Meth K C_Moon "year_start" a_Moon_year_start
  me_Moon_lengths : Meth K C_Moon "lengths" a_Moon_lengths
  me_Moon_year_at : Meth K C_Moon "year_at" a_Moon_year_at
  me_Moon_cycle : Meth K C_Moon "cycle" a_Moon_cycle
  me_Moon_date_of : Meth K C_Moon "date_of" a_Calendar_date_of
  me_Moon_day_of : Meth K C_Moon "day_of" a_Calendar_day_of
  in_NoDate_init : PySem.W.findIn K (.ref C_NoDate) "__init__" = some (some (.ref a_NoDate_init))
  ti_NoDate_init : PySem.W.typeIn K (.ref a_NoDate_init) = some (.type "function")
  xf_NoDate : XfC K C_NoDate
  no_NoDate_date : PySem.W.findIn K (.ref C_NoDate) "date" = some none
  ox_NoDate : OexC K C_NoDate
  cr_FeastError : ClX.CRead K C_FeastError (.type "type")
  vi_FeastError : PySem.W.findCls K (.ref C_FeastError) (.type "type") "__init__" = some (.val (.builtin "ValueError.__init__"))
section
variable {P : Program} {w : World} {K : PySem.W.Frag} {mg : Str → Option Value} {base : Heap}

/-! ### list_of -/
def sp_list_of (K : PySem.W.Frag) : Sp := fun vs H Q _ => ∃ (v : V) (xs : List V), vs = [v] ∧ ((v = .non ∧ xs = []) ∨ ∃ a, v = .ref a ∧ SqL K H a xs) ∧ xs.length ≤ 1000 ∧ ∀ (p : Addr) (H' : Hp), H p = none → Same H H' → H' p = some (.lst xs) → Q (.ref p) H'
theorem ok_list_of (T : Txt K mg base) : FnOk P w K mg base CX0 1 T.a_list_of T.fd_list_of ["terms"] (sp_list_of K) := by
  refine T.F_list_of.ok sc_list_of (fun vs H Q E h => ?_) (fun cdv A outer s H vs Q E hr h => ?_)
  · obtain ⟨_, _, rfl, _⟩ := h; rfl
  · obtain ⟨v, xs, rfl, hv, hl, q⟩ := h
    have hu := hr.units
    rcases hv with ⟨rfl, rfl⟩ | ⟨a, rfl, hS⟩
    · refine ⟨_, (pss_cons (ps_if (pt_cmpR kb_isN (pv 0) pe_non (nomark _)) (pss_one (ps_ret (pe_lst pa_nil))) pss_nil)
        (pss_one (ps_ret (pe_callTy (kb_lof K rfl) (by rfl) T.n_list (by decide +kernel) (pa_cons (pv 0) pa_nil))))), ?_⟩
      walk_at "run"
      rename_i p H1 hn s1 t1
      exact q p H1 hn s1 t1
    · refine ⟨_, (pss_cons (ps_if (pt_cmpR kb_isN (pv 0) pe_non (nomark _)) (pss_one (ps_ret (pe_lst pa_nil))) pss_nil)
        (pss_one (ps_ret (pe_callTy (kb_lof K rfl) (by rfl) T.n_list (by decide +kernel) (pa_cons (pv 0) pa_nil))))), ?_⟩
      walk_at "run"
      rename_i p H1 hn s1 t1
      exact q p H1 hn s1 t1
theorem k_list_of {K : PySem.W.Frag} {H : Hp} {Q : VK} {E : XK} {v : V} {xs : List V} (hv : (v = .non ∧ xs = []) ∨ ∃ a, v = .ref a ∧ SqL K H a xs) (hl : xs.length ≤ 1000) (q : ∀ (p : Addr) (H' : Hp), H p = none → Same H H' → H' p = some (.lst xs) → Q (.ref p) H') : sp_list_of K [v] H Q E := ⟨v, xs, rfl, hv, hl, q⟩

/-! ### counter.summed -/
def mk_counter_summed (ca c : Addr) : NdefX.NF := NdefX.NF.of s_counter_summed "summed" "counter.<locals>.summed" [("kept", ca)] c
def sp_counter_summed (K : PySem.W.Frag) : V → Sp := fun x vs H Q _ => ∃ (l : Addr) (ts : List Tm) (k : Int), x = .ref l ∧ vs = [.int k] ∧ TmsL K H l ts ∧ (∀ t ∈ ts, TmOk t) ∧ Sm 5000 k ∧ ∀ H', Same H H' → Q (.int (sumT ts k)) H'
theorem ok_counter_summed (T : Txt K mg base) (f ca c : Addr) : NdefX.NOk P w K mg base CX0 1 f (mk_counter_summed ca c) ["k"] ["kept"] (fun ws vs H Q E => ∃ x, ws = [some x] ∧ sp_counter_summed K x vs H Q E) := by
  refine NdefX.nok_of sc_counter_summed (fun _ _ _ us hl => match us, hl with | [_], _ => rfl) (fun ws vs H Q E h => ?_) (fun A outer s H vs ws Q E hr hf hc hw h => ?_)
  · obtain ⟨x, rfl, l, ts, k, rfl, rfl, _⟩ := h; rfl
  · obtain ⟨x, rfl, l, ts, k, rfl, rfl, hT, hok, sk, q⟩ := h
    have hu := hr.units
    obtain ⟨qs, hS, hlen, hts⟩ := hT
    refine ⟨_, PSs.nox (pss_cons (ps_set (i := 2) sc_counter_summed.nd rfl (Or.inl rfl) pe_int)
        (pss_cons (ps_for PassesOwn.never rfl (pi_list (pv 1)) (pg_tup rfl (pgs_cons (pg_name (i := 3) sc_counter_summed.nd rfl (Or.inl rfl)) (pgs_cons (pg_name (i := 4) sc_counter_summed.nd rfl (Or.inl rfl)) (pgs_cons (pg_name (i := 5) sc_counter_summed.nd rfl (Or.inl rfl)) (pgs_cons (pg_name (i := 6) sc_counter_summed.nd rfl (Or.inl rfl)) pgs_nil))))) (pss_one (ps_set (i := 2) sc_counter_summed.nd rfl (Or.inl rfl) (pe_op op_addA (pv 2) (pe_op op_mulX (pv 3) (pe_op op_fdivW (pe_op op_addA (pe_op op_mulX (pv 4) (pv 0)) (pv 5)) (pv 6)))))))
        (pss_one (ps_ret (pv 2))))), ?_⟩
    walk_at "go"
    with_reducible apply k_seqF
    with_reducible apply k_for
    walk_at "go"
    refine for_list (xs := qs.map V.ref) (fun i σ' H' => ∃ v3 v4 v5 v6 : Option V, σ' = [some (.int k), some (.ref l), some (.int (sumT (ts.take i) k)), v3, v4, v5, v6] ∧ H = H') ⟨none, none, none, none, rfl, rfl⟩
      (fun i σ' H' _ hW => by obtain ⟨_, _, _, _, _, rfl⟩ := hW; exact hS) (fun i y σ' H' hy hW => ?_) (fun σ' H' hW => ?_)
    · obtain ⟨_, _, _, _, rfl, rfl⟩ := hW
      rw [List.getElem?_map] at hy
      obtain ⟨p, hp, rfl⟩ := Option.map_eq_some_iff.mp hy
      have hi : i < ts.length := by
        have := (List.getElem?_eq_some_iff.mp hp).1
        omega
      have ht := List.getElem?_eq_getElem hi
      have htq := hts i p _ hp ht
      have ok := hok _ (List.getElem_mem hi)
      have es := sumT_snoc (k := k) ht
      generalize ts[i] = t at *
      have ht4 : SqT K H p [.int t.s, .int t.a, .int t.b, .int t.n] := htq
      have hs1 := ok.s
      have hn1 := ok.n1
      have hn2 := ok.n2
      have ha0 := ok.a0
      have han := ok.an
      have hb0 := ok.b0
      have hbn := ok.bn
      walk_at "go"
      refine k_I (sm_mulx (sm41 (i := t.s) (by omega) (by omega)) (sm_quot (sm_addM (sm_mul (sm41 (i := t.a) (by omega) (by omega)) sk) (sm41 (i := t.b) (by omega) (by omega)))) (by decide)) ?_
      walk_at "go"
      rw [← es]
      exact ⟨_, _, _, _, rfl, rfl⟩
    · obtain ⟨_, _, _, _, rfl, rfl⟩ := hW
      rw [List.length_map, hlen, List.take_of_length_le (Nat.le_refl _)]
      walk_at "go"
      exact q _ (Same.refl _)

/-! ### counter -/
/-- a counter stands at f, of the terms ts, its own list at l -/
structure CloP (K : PySem.W.Frag) (T : Txt K mg base) (H : Hp) (f l : Addr) (ts : List Tm) (c' ca : Addr) (ob : Obj) (u : Value) : Prop where
  fn : H f = some (NdefX.FnO f (mk_counter_summed ca c'))
  co : H c' = some (LamX.CodeO c' "counter.<locals>.summed")
  ce : H ca = some (exV ca ob)
  da : ob.data = .cell (some u)
  rl : RelV (.ref l) u
  n1 : f ≠ ca
  n2 : c' ≠ ca
  tm : TmsL K H l ts
  ok : ∀ t ∈ ts, TmOk t
def Clo (K : PySem.W.Frag) (T : Txt K mg base) (H : Hp) (f l : Addr) (ts : List Tm) : Prop := ∃ (c' ca : Addr) (ob : Obj) (u : Value), CloP K T H f l ts c' ca ob u
theorem CloP.mono {T : Txt K mg base} {H H' : Hp} {f l c' ca : Addr} {ts : List Tm} {ob : Obj} {u : Value} (s : SameT (NT T.ct_counter) H H') (h : CloP K T H f l ts c' ca ob u) : CloP K T H' f l ts c' ca ob u :=
  ⟨s.ext _ _ h.fn NdefX.fnO_ne, s.ext _ _ h.co LamX.codeO_ne, s.ext _ _ h.ce (fun _ => exV_tbl), h.da, h.rl, h.n1, h.n2, h.tm.mono s, h.ok⟩
theorem Clo.mono {T : Txt K mg base} {H H' : Hp} {f l : Addr} {ts : List Tm} (s : SameT (NT T.ct_counter) H H') (h : Clo K T H f l ts) : Clo K T H' f l ts := by
  obtain ⟨c', ca, ob, u, h⟩ := h
  exact ⟨c', ca, ob, u, h.mono s⟩
def CloFin (K : PySem.W.Frag) (f : Addr) (c' ca l : Addr) (ob : Obj) (u : Value) (vs : List V) (H1 : Hp) (Q : VK) : Prop :=
  H1 f = some (NdefX.FnO f (mk_counter_summed ca c')) ∧ H1 (mk_counter_summed ca c').c = some (LamX.CodeO (mk_counter_summed ca c').c (mk_counter_summed ca c').qual) ∧ H1 ca = some (exV ca ob) ∧ ob.data = .cell (some u) ∧ RelV (.ref l) u ∧ f ≠ ca ∧ (mk_counter_summed ca c').c ≠ ca ∧
    sp_counter_summed K (.ref l) vs (dlH H1 ca) (fun v H2 => Q v (upd H2 ca (exV ca ob))) (fun _ _ _ => False)
theorem k_clo1 {T : Txt K mg base} {i : Nat} {t : TA} {σ : L2.St} {H : Hp} {Q : VK} {f l c' ca : Addr} {ts : List Tm} {ob : Obj} {u : Value} (hc : CloP K T H f l ts c' ca ob u) (hi : σ[i]? = some (some (.ref f)))
    (h : t σ H fun vs H1 => CloFin K f c' ca l ob u vs H1 Q) : tCallClo mk_counter_summed i (sp_counter_summed K) t σ H Q := ⟨f, c', ca, ob, u, .ref l, hi, hc.fn, h⟩
theorem k_clo2 {T : Txt K mg base} {H : Hp} {Q : VK} {f l c' ca : Addr} {ts : List Tm} {ob : Obj} {u : Value} {k : Int} (hc : CloP K T H f l ts c' ca ob u) (sk : Sm 5000 k) (q : ∀ H', Same H H' → Q (.int (sumT ts k)) H') : CloFin K f c' ca l ob u [.int k] H Q :=
  ⟨hc.fn, hc.co, hc.ce, hc.da, hc.rl, hc.n1, hc.n2, l, ts, k, rfl, rfl, hc.tm.dl hc.ce, hc.ok, sk, fun H2 s2 => q _ (upd_dl hc.ce s2)⟩
/-- another list changes -/
theorem Clo.mut {T : Txt K mg base} {H : Hp} {f l a : Addr} {ts : List Tm} {xs ys : List V} (h : Clo K T H f l ts) (ha : H a = some (.lst xs)) (hl : l ≠ a) : Clo K T (upd H a (.lst ys)) f l ts := by
  obtain ⟨c', ca, ob, u, h⟩ := h
  have ne : ∀ {b : Addr} {o : HO}, H b = some o → (∀ z, o ≠ .lst z) → upd H a (.lst ys) b = some o := fun {b o} hb hn => by
    rw [upd_ne (fun z => by rw [z, ha] at hb; exact hn _ (Option.some.inj hb).symm)]; exact hb
  obtain ⟨qs, hS, hq⟩ := h.tm
  refine ⟨c', ca, ob, u, ne h.fn (fun z e => by cases e), ne h.co (fun z e => by cases e), ne h.ce (fun z e => by cases e), h.da, h.rl, h.n1, h.n2, ⟨qs, ?_, hq.updL ha⟩, h.ok⟩
  rcases hS with (hS | ⟨o, hS⟩) | hS
  · exact .inl (.inl (by rw [upd_ne hl]; exact hS))
  · exact .inl (.inr ⟨o, by rw [upd_ne hl]; exact hS⟩)
  · exact .inr hS
def sp_counter (K : PySem.W.Frag) (T : Txt K mg base) : Sp := fun vs H Q _ => ∃ (a : Addr) (ts : List Tm), vs = [.ref a] ∧ TmsL K H a ts ∧ (∀ t ∈ ts, TmOk t) ∧ ts.length ≤ 100 ∧ NdefX.TabsN (NT T.ct_counter) H ∧ ∀ f l H', SameT (NT T.ct_counter) H H' → H l = none → Clo K T H' f l ts → Q (.ref f) H'
theorem ok_counter (T : Txt K mg base) : FnOk P w K mg base CX0 2 T.a_counter T.fd_counter ["terms"] (sp_counter K T) := by
  refine FunC.okClo (j := 2) (y := "kept") T.F_counter sc_counter (fun vs H Q E h => ?_) rfl rfl rfl (fun A outer s H vs Q E hr h => ?_)
  · obtain ⟨_, _, rfl, _⟩ := h; rfl
  · obtain ⟨a, ts, rfl, ⟨qs, hS, hq⟩, hok, hl, hT, q⟩ := h
    have hu := hr.units
    refine ⟨_, _, _, (ps_set (i := 2) sc_counter.nd rfl (Or.inr rfl) (pe_callTy (kb_lof K rfl) (by rfl) T.n_list (by decide +kernel) (pa_cons (pv 0) pa_nil))), NdefX.ps_ndefMS (i := 1) (st := s_counter_summed) (T := NT T.ct_counter) (nm := fun _ _ => "counter.<locals>.summed") rfl T.tb_counter rfl List.mem_cons_self rfl (fun p hp _ => by cases List.mem_singleton.mp hp; rfl) (NdefX.ndef_free (sc := defScope s_counter) (nsc := C8.fnScope s_counter_summed) (fr := ["kept"]) (by decide +kernel)) rfl rfl rfl sc_counter.nd rfl (Or.inl rfl) (Or.inl rfl), (pv 1), ?_⟩
    walk_at "go"
    rename_i p H1 hn s1 t1
    refine ⟨hT.ext s1, fun f c' H2 eN _ T2 f0 f1 c1 => ?_⟩
    walk_at "go"
    refine ⟨.ref p, rfl, fun ca ob u hca hH f3 hd hru => ?_⟩
    have e1 : cellsFrom (s.heap.objs.size + 1) (defScope s_counter).names [] = [(("kept" : Str), s.heap.objs.size + 1)] := rfl
    rw [e1] at hca
    have e2 : s.heap.objs.size + 1 = ca := by simpa [List.lookup] using hca
    subst e2
    have ne : ∀ {b : Addr} {o : HO}, H2 b = some o → b ≠ s.heap.objs.size + 1 := fun {b o} h z => by
      rw [z, f3] at h; cases h
    have s2 : SameT (NT T.ct_counter) H1 H2 := ⟨eN, fun _ => T2⟩
    have s3 : SameT (NT T.ct_counter) H2 (upd H2 (s.heap.objs.size + 1) (exV (s.heap.objs.size + 1) ob)) := .of (same_new f3)
    have s13 := (SameT.of (T := NT T.ct_counter) s1).trans (s2.trans s3)
    refine q f p _ s13 hn ⟨c', _, ob, u, s3.ext _ _ f1 NdefX.fnO_ne, s3.ext _ _ c1 LamX.codeO_ne, upd_same, hd, hru, ne f1, ne c1, ⟨qs, ?_, hq.mono s13⟩, hok⟩
    exact (s2.trans s3).sql (SqL.of t1)
theorem k_counter {T : Txt K mg base} {H : Hp} {Q : VK} {E : XK} {a : Addr} {ts : List Tm} (hS : TmsL K H a ts) (hok : ∀ t ∈ ts, TmOk t) (hl : ts.length ≤ 100) (hT : NdefX.TabsN (NT T.ct_counter) H)
    (q : ∀ f l H', SameT (NT T.ct_counter) H H' → H l = none → Clo K T H' f l ts → Q (.ref f) H') : sp_counter K T [.ref a] H Q E := ⟨a, ts, rfl, hS, hok, hl, hT, q⟩

/-! ### Measure.upto -/
def sp_Measure_upto (K : PySem.W.Frag) (T : Txt K mg base) : Sp := fun vs H Q _ => ∃ (m : Addr) (b : Int) (ts : List Tm) (k : Int), vs = [.ref m, .int k] ∧ MeasAt K T.C_Measure H m b ts ∧ 0 ≤ b ∧ b ≤ 20000 ∧ (∀ t ∈ ts, TmOk t) ∧ ts.length ≤ 100 ∧ Sm 5000 k ∧ NdefX.TabsN (NT T.ct_counter) H ∧ ∀ H', SameT (NT T.ct_counter) H H' → Q (.int (uptoM b ts k)) H'
theorem ok_Measure_upto (T : Txt K mg base) : FnOk P w K mg base CX0 3 T.a_Measure_upto T.fd_Measure_upto ["self", "k"] (sp_Measure_upto K T) := by
  refine T.F_Measure_upto.ok sc_Measure_upto (fun vs H Q E h => ?_) (fun cdv A outer s H vs Q E hr h => ?_)
  · obtain ⟨_, _, _, _, rfl, _⟩ := h; rfl
  · obtain ⟨m, b, ts, k, rfl, ⟨dx, l, hm, hT⟩, b0, b1, hok, hl, sk, hTab, q⟩ := h
    have hu := hr.units
    refine ⟨_, (pss_cons (ps_set (i := 2) sc_Measure_upto.nd rfl (Or.inl rfl) (pe_call (ok_counter T) (hr.mono (by decide)) (by rfl) T.g_counter T.F_counter.kp T.b_counter .nil pass0 (pa_cons (pe_fld (pv 0) rfl) pa_nil)))
        (pss_one (ps_ret (pe_op op_addA (pe_op op_mulX (pe_fld (pv 0) rfl) (pv 1)) (pe_callClo (i := 2) (fun f ca c => ok_counter_summed T f ca c) (fun _ _ => rfl) (hr.mono (by decide)) (fun _ _ _ _ _ z => z) rfl (Or.inl rfl) (pa_cons (pv 1) pa_nil)))))), ?_⟩
    walk_at "go"
    refine k_fldX hm T.cl_Measure T.na_Measure_terms (mfs_terms _ _) ?_
    walk_at "go"
    refine k_counter hT hok hl hTab fun f l2 H1 s1 _ hc => ?_
    have hm1 := s1.ins hm
    obtain ⟨c', ca, ob, u, hcp⟩ := hc
    walk_at "go"
    refine k_fldX hm1 T.cl_Measure T.na_Measure_base (mfs_base _ _) ?_
    walk_at "go"
    refine k_clo1 hcp rfl ?_
    walk_at "go"
    refine k_clo2 hcp sk fun H2 s2 => ?_
    walk_at "go"
    exact q _ (s1.trans (.of s2))
theorem k_Measure_upto {T : Txt K mg base} {H : Hp} {Q : VK} {E : XK} {m : Addr} {b : Int} {ts : List Tm} {k : Int} (h : MeasAt K T.C_Measure H m b ts) (b0 : 0 ≤ b) (b1 : b ≤ 20000) (hok : ∀ t ∈ ts, TmOk t) (hl : ts.length ≤ 100) (sk : Sm 5000 k) (hT : NdefX.TabsN (NT T.ct_counter) H)
    (q : ∀ H', SameT (NT T.ct_counter) H H' → Q (.int (uptoM b ts k)) H') : sp_Measure_upto K T [.ref m, .int k] H Q E := ⟨m, b, ts, k, rfl, h, b0, b1, hok, hl, sk, hT, q⟩

/-! ### many_fall -/
def sp_many_fall (K : PySem.W.Frag) : Sp := fun vs H Q _ => ∃ (a : Addr) (ts : List Tm), vs = [.ref a] ∧ TmsL K H a ts ∧ ts.length ≤ 1000 ∧ ∀ H', Same H H' → Q (.int (fallsT ts)) H'
theorem ok_many_fall (T : Txt K mg base) : FnOk P w K mg base CX0 1 T.a_many_fall T.fd_many_fall ["terms"] (sp_many_fall K) := by
  refine T.F_many_fall.ok sc_many_fall (fun vs H Q E h => ?_) (fun cdv A outer s H vs Q E hr h => ?_)
  · obtain ⟨_, _, rfl, _⟩ := h; rfl
  · obtain ⟨a, ts, rfl, ⟨qs, hS, hq⟩, hl, q⟩ := h
    have hu := hr.units
    refine ⟨_, (pss_one (ps_ret (pe_callB (kb_len K) (by rfl) T.n_len (by decide +kernel) (pa_cons (pe_lc (own := [("term", 1)]) (g := gName 1) rfl sc_many_fall.nd (pi_list (pv 0)) (blkOk_by (N := ["terms", "term"]) (sc := defScope s_many_fall) (by decide +kernel)) (fun _ _ _ _ _ => pg_name (i := 1) sc_many_fall.nd rfl (Or.inl rfl)) (fun _ _ _ _ _ => pts_one (pt_cmpR (kb_eq K (hu := hu)) (pe_ix (kb_ix K) (pv 1) pe_int (fun _ _ => rfl)) (pe_un un_neg pe_int) (nomark _))) (fun _ _ _ _ _ => (pv 1))) pa_nil)))), ?_⟩
    walk_at "go"
    have hlq := hq.1
    have hget : ∀ i, i < (qs.map V.ref).length → ∃ (p : Addr) (t : Tm), (qs.map V.ref).getD i .non = .ref p ∧ ts[i]? = some t ∧ SqT K H p [.int t.s, .int t.a, .int t.b, .int t.n] := fun i hi => by
      rw [List.length_map] at hi
      refine ⟨qs[i], ts[i]'(by omega), ?_, List.getElem?_eq_getElem (by omega), hq.2 i _ _ (List.getElem?_eq_getElem hi) (List.getElem?_eq_getElem (by omega))⟩
      rw [List.getD_eq_getElem?_getD, List.getElem?_map, List.getElem?_eq_getElem hi]; rfl
    refine k_lclf hS (fun i => decide ((ts[i]?.map (·.s)) = some (-1))) (fun i => (qs.map V.ref).getD i .non) (by rw [List.length_map]; omega) (fun i H2 R hi s2 hR => ?_) (fun i H2 R hi _ s2 hR => ?_) (fun D H2 _ s2 hD => ?_)
    · obtain ⟨p, t, e1, e2, hp⟩ := hget i hi
      have hp2 := same_t s2 hp
      rw [e1]
      walk_at "go"
      have := hR H2 (Same.refl _)
      rw [e2] at this
      have e3 : decide (Option.map (fun x => x.s) (some t) = some (-1)) = decide (t.s = -1) := by simp
      rw [e3] at this
      exact this
    · walk_at "go"
      exact hR _ (Same.refl _)
    · have := q H2 s2
      walk_at "go"
      have e : (((List.range (qs.map V.ref).length).filter fun i => decide ((ts[i]?.map (·.s)) = some (-1))).length : Int) = fallsT ts := by
        rw [List.length_map, hlq]
        exact falls_range ts
      rw [List.length_map, e]
      exact this
theorem k_many_fall {K : PySem.W.Frag} {H : Hp} {Q : VK} {E : XK} {a : Addr} {ts : List Tm} (h : TmsL K H a ts) (hl : ts.length ≤ 1000) (q : ∀ H', Same H H' → Q (.int (fallsT ts)) H') : sp_many_fall K [.ref a] H Q E := ⟨a, ts, rfl, h, hl, q⟩

/-! ### is_term -/
def sp_is_term (K : PySem.W.Frag) : Sp := fun vs H Q _ => ∃ (p : Addr) (t : Tm), vs = [.ref p] ∧ SqT K H p (tmV t) ∧ TmOk t ∧ Q (.bl true) H
theorem ok_is_term (T : Txt K mg base) : FnOk P w K mg base CX0 1 T.a_is_term T.fd_is_term ["term"] (sp_is_term K) := by
  refine T.F_is_term.ok sc_is_term (fun vs H Q E h => ?_) (fun cdv A outer s H vs Q E hr h => ?_)
  · obtain ⟨_, _, rfl, _⟩ := h; rfl
  · obtain ⟨p, t, rfl, htq, ok, q⟩ := h
    have hu := hr.units
    have ht4 : SqT K H p [.int t.s, .int t.a, .int t.b, .int t.n] := htq
    have hs1 := ok.s
    have hn1 := ok.n1
    have hn2 := ok.n2
    have ha0 := ok.a0
    have han := ok.an
    have hb0 := ok.b0
    have hbn := ok.bn
    refine ⟨_, (pss_cons (ps_asg (pv 0) (pg_tup rfl (pgs_cons (pg_name (i := 1) sc_is_term.nd rfl (Or.inl rfl)) (pgs_cons (pg_name (i := 2) sc_is_term.nd rfl (Or.inl rfl)) (pgs_cons (pg_name (i := 3) sc_is_term.nd rfl (Or.inl rfl)) (pgs_cons (pg_name (i := 4) sc_is_term.nd rfl (Or.inl rfl)) pgs_nil))))))
        (pss_cons (ps_if (PW.pt (pw_and (pt_cmpR (kb_ne K (hu := hu)) (pv 1) pe_int (nomark _)) (pw_and1 (pt_cmpR (kb_ne K (hu := hu)) (pv 1) (pe_un un_neg pe_int) (nomark _))))) (pss_one (ps_ret pe_bl)) pss_nil)
        (pss_one (ps_ret (pe_and (pe_chain op_le op_le pe_int (pv 4) (pe_glob (v := (.int 1000)) rfl T.c_MOST_N ⟨_, rfl⟩)) (pe_and (pe_chain op_le op_le pe_int (pv 2) (pv 4)) (pe_one (pe_chain op_le op_lt pe_int (pv 3) (pv 4))))))))), ?_⟩
    walk_at "go"
    with_reducible apply k_seqI
    rcases hs1 with hs1 | hs1
    · walk_at "run"
      exact fin_t (decide_eq_true hbn) q
    · walk_at "run"
      exact fin_t (decide_eq_true hbn) q
theorem k_is_term {K : PySem.W.Frag} {H : Hp} {Q : VK} {E : XK} {p : Addr} {t : Tm} (h : SqT K H p (tmV t)) (ok : TmOk t) (q : Q (.bl true) H) : sp_is_term K [.ref p] H Q E := ⟨p, t, rfl, h, ok, q⟩

/-! ### is_measure -/
def sp_is_measure (K : PySem.W.Frag) : Sp := fun vs H Q _ => ∃ (b : Int) (a : Addr) (ts : List Tm), vs = [.int b, .ref a] ∧ TmsL K H a ts ∧ MeasOk b ts ∧ ∀ H', Same H H' → Q (.bl true) H'
theorem ok_is_measure (T : Txt K mg base) : FnOk P w K mg base CX0 2 T.a_is_measure T.fd_is_measure ["base", "terms"] (sp_is_measure K) := by
  refine T.F_is_measure.ok sc_is_measure (fun vs H Q E h => ?_) (fun cdv A outer s H vs Q E hr h => ?_)
  · obtain ⟨_, _, _, rfl, _⟩ := h; rfl
  · obtain ⟨b, a, ts, rfl, ⟨qs, hS, hq⟩, ok, q⟩ := h
    have hu := hr.units
    have b0 := ok.b0
    have b1 := ok.b1
    have hl := ok.len
    have hf := ok.falls
    have hlq := hq.1
    have hlq2 : (qs.map V.ref).length = qs.length := List.length_map _
    refine ⟨_, (pss_cons (ps_if (PW.pt (pw_or (pt_cmpR op_lt (pv 0) pe_int (nomark _)) (pw_or (pt_cmpR op_gt (pv 0) (pe_glob (v := (.int 20000)) rfl T.c_MOST_BASE ⟨_, rfl⟩) (nomark _)) (pw_or1 (pt_cmpR op_gt (pe_callB (kb_len K) (by rfl) T.n_len (by decide +kernel) (pa_cons (pv 1) pa_nil)) (pe_glob (v := (.int 6)) rfl T.c_MOST_TERMS ⟨_, rfl⟩) (nomark _)))))) (pss_one (ps_ret pe_bl)) pss_nil)
        (pss_cons (ps_if (pt_not (pt_val (pe_callB (kb_all K (hc := rfl)) (by rfl) T.n_all (by decide +kernel) (pa_cons (pe_lc (own := [("term", 2)]) (g := gName 2) (tt := tYes) rfl sc_is_measure.nd (pi_list (pv 1)) (blkOk_by (N := ["base", "terms", "term"]) (sc := defScope s_is_measure) (by decide +kernel)) (fun _ _ _ _ _ => pg_name (i := 2) sc_is_measure.nd rfl (Or.inl rfl)) (fun _ _ _ _ _ => pts_nil) (fun _ _ _ _ _ => (pe_call (ok_is_term T) (hr.mono (by decide)) (by rfl) T.g_is_term T.F_is_term.kp T.b_is_term .nil pass0 (pa_cons (pv 2) pa_nil)))) pa_nil)))) (pss_one (ps_ret pe_bl)) pss_nil)
        (pss_one (ps_ret (pe_cmpR op_le (pe_call (ok_many_fall T) (hr.mono (by decide)) (by rfl) T.g_many_fall T.F_many_fall.kp T.b_many_fall .nil pass0 (pa_cons (pv 1) pa_nil)) (pv 0) (nomark _)))))), ?_⟩
    walk_at "run"
    refine k_lcl hS ((ts.map fun _ => true).map V.bl) (by simp [hlq]) (by omega) (fun i y v H2 R hx hv s2 hR => ?_) (fun M H1 _ s1 t1 => ?_)
    · rw [List.getElem?_map] at hx
      obtain ⟨p, hp, rfl⟩ := Option.map_eq_some_iff.mp hx
      rw [List.getElem?_map, List.getElem?_map] at hv
      have hi : i < ts.length := by
        have := (List.getElem?_eq_some_iff.mp hp).1
        omega
      rw [List.getElem?_eq_getElem hi] at hv
      cases hv
      walk_at "go"
      exact k_is_term (same_t s2 (hq.2 i p _ hp (List.getElem?_eq_getElem hi))) (ok.ok _ (List.getElem_mem hi)) (hR _ (Same.refl _))
    walk_at "go"
    refine k_all (SqL.of t1) ?_
    rw [show (ts.map fun _ => true).all id = true by simp]
    walk_at "run"
    refine k_many_fall ⟨qs, same_l s1 hS, hq.same s1⟩ (by omega) fun H2 s2 => ?_
    walk_at "go"
    exact fin_t (decide_eq_true hf) (q _ (s1.trans s2))
theorem k_is_measure {K : PySem.W.Frag} {H : Hp} {Q : VK} {E : XK} {b : Int} {a : Addr} {ts : List Tm} (h : TmsL K H a ts) (ok : MeasOk b ts) (q : ∀ H', Same H H' → Q (.bl true) H') : sp_is_measure K [.int b, .ref a] H Q E := ⟨b, a, ts, rfl, h, ok, q⟩

/-! ### sized -/
def sp_sized (K : PySem.W.Frag) : Sp := fun vs H Q _ => ∃ i, vs = [.int i] ∧ 1 ≤ i ∧ Q .non H
theorem ok_sized (T : Txt K mg base) : FnOk P w K mg base CX0 1 T.a_sized T.fd_sized ["size"] (sp_sized K) := by
  refine T.F_sized.ok sc_sized (fun vs H Q E h => ?_) (fun cdv A outer s H vs Q E hr h => ?_)
  · obtain ⟨i, rfl, _⟩ := h; rfl
  · obtain ⟨i, rfl, h1, q⟩ := h
    refine ⟨_, (pss_one (ps_if (pt_cmpR op_lt (pv 0) pe_int (nomark _)) (pss_one ps_never) pss_nil)), ?_⟩
    walk_at "if"; walk_at "go"; exact q
theorem k_sized {H : Hp} {Q : VK} {E : XK} {i : Int} (h1 : 1 ≤ i) (q : Q .non H) : sp_sized K [.int i] H Q E := ⟨i, rfl, h1, q⟩
local macro_rules | `(tactic| walk_at "st") => `(tactic| first | ((with_reducible apply k_sized); (· omega)) | fail)

/-! ### divisor -/
def sp_divisor (K : PySem.W.Frag) : Sp := fun vs H Q _ => ∃ i j : Int, vs = [.int i, .int j] ∧ Q (.int (Int.gcd i j : Nat)) H
theorem ok_divisor (T : Txt K mg base) : FnOk P w K mg base CX0 1 T.a_divisor T.fd_divisor ["one", "other"] (sp_divisor K) := by
  refine T.F_divisor.ok sc_divisor (fun vs H Q E h => ?_) (fun cdv A outer s H vs Q E hr h => ?_)
  · obtain ⟨_, _, rfl, _⟩ := h; rfl
  · obtain ⟨i, j, rfl, q⟩ := h
    have hu := hr.units
    refine ⟨_, (pss_cons (ps_set (i := 0) sc_divisor.nd rfl (Or.inl rfl) (pe_callB cb_abs (by rfl) T.n_abs (by decide +kernel) (pa_cons (pv 0) pa_nil)))
        (pss_cons (ps_set (i := 1) sc_divisor.nd rfl (Or.inl rfl) (pe_callB cb_abs (by rfl) T.n_abs (by decide +kernel) (pa_cons (pv 1) pa_nil)))
        (pss_cons (ps_while PassesOwn.never (pt_cmpR (kb_ne K (hu := hu)) (pv 1) pe_int (nomark _)) (pss_one (ps_par rfl sc_divisor.nd (i := 0) (j := 1) rfl rfl (by decide) rfl rfl (pa_cons (pv 1) (pa_cons (pe_op op_mod (pv 0) (pv 1)) pa_nil)) (by rfl))))
        (pss_one (ps_ret (pv 0)))))), ?_⟩
    walk_at "go"
    apply k_seqW
    refine k_while (fun m σ' H' => ∃ x y : Int, σ' = [some (.int x), some (.int y)] ∧ H = H' ∧ 0 ≤ x ∧ 0 ≤ y ∧ m = y.toNat ∧ Int.gcd x y = Int.gcd i j) _ ⟨_, _, rfl, rfl, abs_nn _, abs_nn _, rfl, gcd_abs i j⟩ ?_
    rintro m _ _ ⟨x, y, rfl, rfl, hx, hy, rfl, hg⟩
    walk_at "go"
    refine if_ndec (fun hbr => ?_) (fun hbr => ?_)
    · apply k_turn
      walk_at "go"
      have h1 := Int.emod_nonneg x hbr
      have h2 := Int.emod_lt_of_pos x (show 0 < y by omega)
      exact ⟨_, by omega, _, _, rfl, rfl, hy, h1, rfl, by rw [gcd_mod]; exact hg⟩
    · walk_at "go"
      rw [← hg, hbr, gcd_zero x hx] at q
      exact q
theorem k_divisor {H : Hp} {Q : VK} {E : XK} {i j : Int} (q : Q (.int (Int.gcd i j : Nat)) H) : sp_divisor K [.int i, .int j] H Q E := ⟨i, j, rfl, q⟩
local macro_rules | `(tactic| walk_at "st") => `(tactic| first | (with_reducible apply k_divisor) | fail)

/-! ### common -/
def sp_common (K : PySem.W.Frag) : Sp := fun vs H Q _ => ∃ i j : Int, vs = [.int i, .int j] ∧ 1 ≤ i ∧ 1 ≤ j ∧ Sm 300 i ∧ Sm 300 j ∧ Q (.int (lcmI i j)) H
theorem ok_common (T : Txt K mg base) : FnOk P w K mg base CX0 2 T.a_common T.fd_common ["one", "other"] (sp_common K) := by
  refine T.F_common.ok sc_common (fun vs H Q E h => ?_) (fun cdv A outer s H vs Q E hr h => ?_)
  · obtain ⟨_, _, rfl, _⟩ := h; rfl
  · obtain ⟨i, j, rfl, h1, h2, s1, s2, q⟩ := h
    have g1 := gcd_pos (b := j) h1
    have g2 := gcd_le (b := j) h1
    have sg : Sm 300 ((Int.gcd i j : Nat) : Int) := ⟨Nat.lt_of_le_of_lt (by omega) s1.h⟩
    have sq : Sm 300 (i / ((Int.gcd i j : Nat) : Int)) := ⟨Nat.lt_of_le_of_lt (by
      have := Int.ediv_le_self ((Int.gcd i j : Nat) : Int) (show 0 ≤ i by omega)
      have := Int.ediv_nonneg (show 0 ≤ i by omega) (show (0 : Int) ≤ ((Int.gcd i j : Nat) : Int) by omega)
      omega) s1.h⟩
    refine ⟨_, (pss_cons (ps_expr (pe_call (ok_sized T) (hr.mono (by decide)) (by rfl) T.g_sized T.F_sized.kp T.b_sized .nil pass0 (pa_cons (pv 0) pa_nil)))
        (pss_cons (ps_expr (pe_call (ok_sized T) (hr.mono (by decide)) (by rfl) T.g_sized T.F_sized.kp T.b_sized .nil pass0 (pa_cons (pv 1) pa_nil)))
        (pss_one (ps_ret (pe_op op_mulX (pe_op op_fdivW (pv 0) (pe_call (ok_divisor T) (hr.mono (by decide)) (by rfl) T.g_divisor T.F_divisor.kp T.b_divisor .nil pass0 (pa_cons (pv 0) (pa_cons (pv 1) pa_nil)))) (pv 1)))))), ?_⟩
    walk_at "go"
    refine k_I (sm_div (by omega) sg (by decide) (by decide)) ?_
    walk_at "go"
    exact q
theorem k_common {H : Hp} {Q : VK} {E : XK} {i j : Int} (h1 : 1 ≤ i) (h2 : 1 ≤ j) (s1 : Sm 300 i) (s2 : Sm 300 j) (q : Q (.int (lcmI i j)) H) : sp_common K [.int i, .int j] H Q E := ⟨i, j, rfl, h1, h2, s1, s2, q⟩
theorem sm300 {i : Int} (h : Sm 200 i) : Sm 300 i := sm_mono h (by decide)
local macro_rules | `(tactic| walk_at "st") => `(tactic| first | ((with_reducible apply k_common); (· omega); (· omega); (· first | assumption | exact sm300 (sm41 (by omega) (by omega))); (· first | assumption | exact sm300 (sm41 (by omega) (by omega)))) | fail)

/-! ### Measure.period -/
def sp_Measure_period (K : PySem.W.Frag) (T : Txt K mg base) : Sp := fun vs H Q _ => ∃ (m : Addr) (b : Int) (ts : List Tm), vs = [.ref m] ∧ MeasAt K T.C_Measure H m b ts ∧ (∀ t ∈ ts, TmOk t) ∧ ts.length ≤ 6 ∧ Q (.int (perT ts)) H
theorem ok_Measure_period (T : Txt K mg base) : FnOk P w K mg base CX0 3 T.a_Measure_period T.fd_Measure_period ["self"] (sp_Measure_period K T) := by
  refine T.F_Measure_period.ok sc_Measure_period (fun vs H Q E h => ?_) (fun cdv A outer s H vs Q E hr h => ?_)
  · obtain ⟨_, _, _, rfl, _⟩ := h; rfl
  · obtain ⟨m, b, ts, rfl, ⟨dx, l, hm, qs, hS, hq⟩, hok, hl, q⟩ := h
    have hu := hr.units
    refine ⟨_, (pss_cons (ps_set (i := 1) sc_Measure_period.nd rfl (Or.inl rfl) pe_int)
        (pss_cons (ps_for PassesOwn.never rfl (pi_list (pe_fld (pv 0) rfl)) (pg_name (i := 2) sc_Measure_period.nd rfl (Or.inl rfl)) (pss_one (ps_set (i := 1) sc_Measure_period.nd rfl (Or.inl rfl) (pe_call (ok_common T) (hr.mono (by decide)) (by rfl) T.g_common T.F_common.kp T.b_common .nil pass0 (pa_cons (pv 1) (pa_cons (pe_ix (kb_ix K) (pv 2) pe_int (fun _ _ => rfl)) pa_nil))))))
        (pss_one (ps_ret (pv 1))))), ?_⟩
    walk_at "go"
    with_reducible apply k_seqF
    with_reducible apply k_for
    walk_at "go"
    refine k_fldX hm T.cl_Measure T.na_Measure_terms (mfs_terms _ _) ?_
    walk_at "go"
    have hlq := hq.1
    refine for_list (xs := qs.map V.ref) (fun i σ' H' => ∃ v : Option V, σ' = [some (.ref m), some (.int (perT (ts.take i))), v] ∧ H = H') ⟨none, rfl, rfl⟩
      (fun i σ' H' _ hW => by obtain ⟨_, _, rfl⟩ := hW; exact hS) (fun i y σ' H' hy hW => ?_) (fun σ' H' hW => ?_)
    · obtain ⟨_, rfl, rfl⟩ := hW
      rw [List.getElem?_map] at hy
      obtain ⟨p, hp, rfl⟩ := Option.map_eq_some_iff.mp hy
      have hi : i < ts.length := by
        have := (List.getElem?_eq_some_iff.mp hp).1
        omega
      have ht := List.getElem?_eq_getElem hi
      have htq := hq.2 i p _ hp ht
      have ok := hok _ (List.getElem_mem hi)
      have es := perT_snoc ht
      obtain ⟨g1, g2⟩ := perT_bd hok hl i
      generalize ts[i] = t at *
      have ht4 : SqT K H p [.int t.s, .int t.a, .int t.b, .int t.n] := htq
      have hn1 := ok.n1
      have hn2 := ok.n2
      walk_at "go"
      exact ⟨_, by rw [es]; rfl, rfl⟩
    · obtain ⟨_, rfl, rfl⟩ := hW
      rw [List.length_map, hlq, List.take_of_length_le (Nat.le_refl _)]
      walk_at "go"
      exact q
theorem k_Measure_period {T : Txt K mg base} {H : Hp} {Q : VK} {E : XK} {m : Addr} {b : Int} {ts : List Tm} (h : MeasAt K T.C_Measure H m b ts) (hok : ∀ t ∈ ts, TmOk t) (hl : ts.length ≤ 6) (q : Q (.int (perT ts)) H) : sp_Measure_period K T [.ref m] H Q E := ⟨m, b, ts, rfl, h, hok, hl, q⟩

/-! ### Measure.__init__ -/
def sp_Measure_init (K : PySem.W.Frag) (T : Txt K mg base) : Sp := fun vs H Q _ => ∃ (x dx : Addr) (b : Int) (v : V) (ts : List Tm), vs = [.ref x, .int b, v] ∧ H x = some (.ins T.C_Measure dx []) ∧ ((v = .non ∧ ts = []) ∨ ∃ a, v = .ref a ∧ TmsL K H a ts) ∧ MeasOk b ts ∧ NdefX.TabsN (NT T.ct_counter) H ∧
  ∀ H', SameX (NT T.ct_counter) x H H' → MeasN K T.C_Measure H H' x b ts → Q .non H'
theorem ok_Measure_init (T : Txt K mg base) : FnOk P w K mg base CX0 4 T.a_Measure_init T.fd_Measure_init ["self", "base", "terms"] (sp_Measure_init K T) := by
  refine FunD.okN T.F_Measure_init sc_Measure_init (fun vs H Q E h => ?_) (fun cdv A outer s H vs Q E hr h => ?_)
  · obtain ⟨_, _, _, _, _, rfl, _⟩ := h; rfl
  · obtain ⟨x, dx, b, v, ts, rfl, hx, hv, ok, hTab, q⟩ := h
    have hu := hr.units
    have hl := ok.len
    obtain ⟨qs, hq, hv2⟩ : ∃ qs : List Addr, TmsAt K H qs ts ∧ ((v = .non ∧ qs.map V.ref = []) ∨ ∃ a, v = .ref a ∧ SqL K H a (qs.map V.ref)) := by
      rcases hv with ⟨rfl, rfl⟩ | ⟨a, rfl, qs, h1, h2⟩
      · exact ⟨[], .nil, .inl ⟨rfl, rfl⟩⟩
      · exact ⟨qs, h2, .inr ⟨a, rfl, h1⟩⟩
    have hlq := hq.1
    refine ⟨_, (pss_cons (ps_set (i := 3) sc_Measure_init.nd rfl (Or.inl rfl) (pe_call (ok_list_of T) (hr.mono (by decide)) (by rfl) T.g_list_of T.F_list_of.kp T.b_list_of .nil pass0 (pa_cons (pv 2) pa_nil)))
        (pss_cons (ps_if (pt_not (pt_val (pe_call (ok_is_measure T) (hr.mono (by decide)) (by rfl) T.g_is_measure T.F_is_measure.kp T.b_is_measure .nil pass0 (pa_cons (pv 1) (pa_cons (pv 3) pa_nil))))) (pss_one ps_never) pss_nil)
        (pss_cons (ps_fld (pv 0) (pv 1) rfl)
        (pss_cons (ps_fld (pv 0) (pv 3) rfl)
        (pss_one (ps_if (pt_cmpR op_lt (pe_meth (pv 0) T.cl_Measure T.me_Measure_upto (ok_Measure_upto T) (hr.mono (by decide)) T.b_Measure_upto .nil pass0 (pa_cons (pe_meth0 (pv 0) T.cl_Measure T.me_Measure_period (ok_Measure_period T) (hr.mono (by decide)) T.b_Measure_period .nil pass0) pa_nil)) pe_int (nomark _)) (pss_one ps_never) pss_nil)))))), ?_⟩
    walk_at "go"
    refine k_list_of hv2 (by rw [List.length_map]; omega) fun p H1 hn s1 t1 => ?_
    have hx1 := s1 _ _ hx
    have tm1 : TmsL K H1 p ts := ⟨qs, SqL.of t1, hq.same s1⟩
    walk_at "run"
    refine k_is_measure tm1 ok fun H2 s2 => ?_
    have hx2 := s2 _ _ hx1
    have tm2 : TmsL K H2 p ts := tm1.mono (T := []) (.of s2)
    walk_at "run"
    refine k_stoX hx2 T.cl_Measure T.na_Measure_base (by show 0 < 1000; decide) ?_
    walk_at "run"
    refine k_stoX upd_same T.cl_Measure T.na_Measure_terms (by show 1 < 1000; decide) ?_
    rw [mfs_put]
    have x3 := SameX.upd (T := NT T.ct_counter) (o := .ins T.C_Measure dx (putF "base" (.int b) [])) hx2
    have tm3 := tm2.updI (o := .ins T.C_Measure dx (putF "base" (.int b) [])) hx2
    have u3 : upd H2 x (.ins T.C_Measure dx (putF "base" (.int b) [])) x = some (.ins T.C_Measure dx (putF "base" (.int b) [])) := upd_same
    generalize upd H2 x (.ins T.C_Measure dx (putF "base" (.int b) [])) = H3 at *
    have x4 := SameX.upd (T := NT T.ct_counter) (o := .ins T.C_Measure dx (mfs b p)) u3
    have tm4 := tm3.updI (o := .ins T.C_Measure dx (mfs b p)) u3
    have u4 : upd H3 x (.ins T.C_Measure dx (mfs b p)) x = some (.ins T.C_Measure dx (mfs b p)) := upd_same
    generalize upd H3 x (.ins T.C_Measure dx (mfs b p)) = H4 at *
    have xx : SameX (NT T.ct_counter) x H H4 := (SameX.of (.of (s1.trans s2))).trans (x3.trans x4)
    have hT4 := xx.tab hTab
    have hm4 : MeasAt K T.C_Measure H4 x b ts := ⟨dx, p, u4, tm4⟩
    have hmN : MeasN K T.C_Measure H H4 x b ts := ⟨dx, p, u4, hn, tm4⟩
    have hpp := perT_bd ok.ok hl ts.length
    rw [List.take_of_length_le (Nat.le_refl _)] at hpp
    walk_at "run"
    refine k_metX u4 (mfs_no _ _ (by decide +kernel) (by decide +kernel)) ?_
    walk_at "go"
    refine k_metX u4 (mfs_no _ _ (by decide +kernel) (by decide +kernel)) ?_
    walk_at "go"
    refine k_Measure_period hm4 ok.ok hl ?_
    walk_at "go"
    refine k_Measure_upto hm4 ok.b0 ok.b1 ok.ok (by omega) (sm_mono (sm41 (by omega) (by omega)) (by decide)) hT4 fun H5 s5 => ?_
    have hpos := ok.pos
    walk_at "run"
    exact q _ (xx.trans (.of s5)) (hmN.mono s5)
theorem k_Measure_init {T : Txt K mg base} {H : Hp} {Q : VK} {E : XK} {x dx : Addr} {b : Int} {v : V} {ts : List Tm} (hx : H x = some (.ins T.C_Measure dx [])) (hv : (v = .non ∧ ts = []) ∨ ∃ a, v = .ref a ∧ TmsL K H a ts) (ok : MeasOk b ts) (hT : NdefX.TabsN (NT T.ct_counter) H)
    (q : ∀ H', SameX (NT T.ct_counter) x H H' → MeasN K T.C_Measure H H' x b ts → Q .non H') : sp_Measure_init K T [.ref x, .int b, v] H Q E := ⟨x, dx, b, v, ts, rfl, hx, hv, ok, hT, q⟩
/-- Measure(b, terms) -/
theorem k_mkMeasure {T : Txt K mg base} {H : Hp} {Q : VK} {b : Int} {v : V} {ts : List Tm} {vs dvs : List V} (e : vs ++ dvs = [.int b, v]) (hv : (v = .non ∧ ts = []) ∨ ∃ a, v = .ref a ∧ TmsL K H a ts) (ok : MeasOk b ts) (hT : NdefX.TabsN (NT T.ct_counter) H)
    (q : ∀ x H', H x = none → SameT (NT T.ct_counter) H H' → MeasN K T.C_Measure H H' x b ts → Q (.ref x) H') : MakR T.C_Measure (sp_Measure_init K T) dvs E0 vs H Q := by
  intro x dx hx hd hne
  rw [e]
  have s0 : Same H (upd (upd H dx (.own x)) x (.ins T.C_Measure dx [])) := fun c o h => by
    rw [upd_ne (ne_of_none h hx), upd_ne (ne_of_none h hd)]; exact h
  refine k_Measure_init upd_same ?_ ok (hT.ext s0) fun H' sx hm => ⟨rfl, q x H' hx (SameX.made hx hd sx) (hm.back fun l hl => by
    by_cases z : l = x
    · rw [z]; exact hx
    by_cases z2 : l = dx
    · rw [z2]; exact hd
    rw [upd_ne z, upd_ne z2] at hl; exact hl)⟩
  rcases hv with h | ⟨a, rfl, h⟩
  · exact .inl h
  · exact .inr ⟨a, rfl, h.mono (T := []) (.of s0)⟩

/-! ### are_months -/
def sp_are_months (K : PySem.W.Frag) : Sp := fun vs H Q _ => ∃ (a k : Addr) (ls : List Int) (lp : Int) (ts : List Tm), vs = [.ref a, .int lp, .ref k] ∧ SqL K H a (ls.map V.int) ∧ TmsL K H k ts ∧ SunOk ls lp ts ∧ ∀ H', Same H H' → Q (.bl true) H'
theorem ok_are_months (T : Txt K mg base) : FnOk P w K mg base CX0 2 T.a_are_months T.fd_are_months ["lengths", "leap", "terms"] (sp_are_months K) := by
  refine T.F_are_months.ok sc_are_months (fun vs H Q E h => ?_) (fun cdv A outer s H vs Q E hr h => ?_)
  · obtain ⟨_, _, _, _, _, rfl, _⟩ := h; rfl
  · obtain ⟨a, k, ls, lp, ts, rfl, hS, hT, ok, q⟩ := h
    have hu := hr.units
    have h1 := ok.len1
    have h2 := ok.len20
    have h3 := ok.lp1
    have h4 := ok.lp2
    have h5 := ok.fl
    have h6 := ok.fs
    have h7 := ok.len
    have hlen : (ls.map V.int).length = ls.length := List.length_map _
    have hix := atI_getD (ls := ls) (i := lp - 1) (by omega) (by omega)
    refine ⟨_, (pss_cons (ps_if (PW.pt (pw_or (pt_cmpR op_lt (pe_callB (kb_len K) (by rfl) T.n_len (by decide +kernel) (pa_cons (pv 0) pa_nil)) pe_int (nomark _)) (pw_or1 (pt_cmpR op_gt (pe_callB (kb_len K) (by rfl) T.n_len (by decide +kernel) (pa_cons (pv 0) pa_nil)) (pe_glob (v := (.int 20)) rfl T.c_MOST_MONTHS ⟨_, rfl⟩) (nomark _))))) (pss_one (ps_ret pe_bl)) pss_nil)
        (pss_cons (ps_if (PW.pt (pw_or (pt_cmpR op_lt (pe_callB (kb_min K (hc := rfl)) (by rfl) T.n_min (by decide +kernel) (pa_cons (pv 0) pa_nil)) pe_int (nomark _)) (pw_or1 (pt_cmpR op_gt (pe_callB (kb_max K (hc := rfl)) (by rfl) T.n_max (by decide +kernel) (pa_cons (pv 0) pa_nil)) (pe_glob (v := (.int 1000)) rfl T.c_MOST_DAYS ⟨_, rfl⟩) (nomark _))))) (pss_one (ps_ret pe_bl)) pss_nil)
        (pss_cons (ps_if (PW.pt (pw_or (pt_cmpR op_lt (pv 1) pe_int (nomark _)) (pw_or1 (pt_cmpR op_gt (pv 1) (pe_callB (kb_len K) (by rfl) T.n_len (by decide +kernel) (pa_cons (pv 0) pa_nil)) (nomark _))))) (pss_one (ps_ret pe_bl)) pss_nil)
        (pss_one (ps_ret (pe_and (pe_cmpR op_le (pe_call (ok_many_fall T) (hr.mono (by decide)) (by rfl) T.g_many_fall T.F_many_fall.kp T.b_many_fall .nil pass0 (pa_cons (pv 2) pa_nil)) (pe_ix (kb_ix K) (pv 0) (pe_op op_sub (pv 1) pe_int) (fun _ _ => rfl)) (nomark _)) (pe_one (pe_cmpR op_lt (pe_call (ok_many_fall T) (hr.mono (by decide)) (by rfl) T.g_many_fall T.F_many_fall.kp T.b_many_fall .nil pass0 (pa_cons (pv 2) pa_nil)) (pe_callB (kb_sum K (hc := rfl)) (by rfl) T.n_sum (by decide +kernel) (pa_cons (pv 0) pa_nil)) (nomark _))))))))), ?_⟩
    walk_at "run"
    refine ⟨a, ls, rfl, hS, by omega, fun m hm _ => ?_⟩
    have hm2 := ok.rng m hm
    walk_at "run"
    refine ⟨a, ls, rfl, hS, by omega, fun m2 hm _ => ?_⟩
    have hm2 := ok.rng m2 hm
    walk_at "run"
    refine k_many_fall hT (by omega) fun H1 s1 => ?_
    have hS1 := same_l s1 hS
    walk_at "go"
    refine k_ixL hS1 hix ?_
    walk_at "go"
    refine if_dec (fun hb => ?_) (fun hb => absurd h5 hb)
    walk_at "go"
    refine k_many_fall (hT.mono (T := []) (.of s1)) (by omega) fun H2 s2 => ?_
    have hS2 := same_l s2 hS1
    walk_at "go"
    refine k_sum hS2 ?_
    walk_at "go"
    exact fin_t (decide_eq_true h6) (q _ (s1.trans s2))
theorem k_are_months {K : PySem.W.Frag} {H : Hp} {Q : VK} {E : XK} {a k : Addr} {ls : List Int} {lp : Int} {ts : List Tm} (hS : SqL K H a (ls.map V.int)) (hT : TmsL K H k ts) (ok : SunOk ls lp ts) (q : ∀ H', Same H H' → Q (.bl true) H') : sp_are_months K [.ref a, .int lp, .ref k] H Q E := ⟨a, k, ls, lp, ts, rfl, hS, hT, ok, q⟩

/-! ### Sun.__init__ -/
def sp_Sun_init (K : PySem.W.Frag) (T : Txt K mg base) : Sp := fun vs H Q _ => ∃ (x dx a : Addr) (v : V) (st : Int) (ls : List Int) (lp : Int) (ts : List Tm), vs = [.ref x, .int st, .ref a, .int lp, v] ∧ H x = some (.ins T.C_Sun dx []) ∧ SqL K H a (ls.map V.int) ∧ ((v = .non ∧ ts = []) ∨ ∃ a, v = .ref a ∧ TmsL K H a ts) ∧ SunOk ls lp ts ∧ NdefX.TabsN (NT T.ct_counter) H ∧
  ∀ H', SameX (NT T.ct_counter) x H H' → SunAt K T.C_Sun T.C_Measure (own H H') x st ls lp ts → Q .non H'
theorem ok_Sun_init (T : Txt K mg base) : FnOk P w K mg base CX0 6 T.a_Sun_init T.fd_Sun_init ["self", "start", "lengths", "leap", "terms"] (sp_Sun_init K T) := by
  refine FunD.okN T.F_Sun_init sc_Sun_init (fun vs H Q E h => ?_) (fun cdv A outer s H vs Q E hr h => ?_)
  · obtain ⟨_, _, _, _, _, _, _, _, rfl, _⟩ := h; rfl
  · obtain ⟨x, dx, a, v, st, ls, lp, ts, rfl, hx, hS, hv, ok, hTab, q⟩ := h
    have hu := hr.units
    have mo := ok.meas
    have hl := mo.len
    have hl20 := ok.len20
    obtain ⟨qs, hq, hv2⟩ : ∃ qs : List Addr, TmsAt K H qs ts ∧ ((v = .non ∧ qs.map V.ref = []) ∨ ∃ a, v = .ref a ∧ SqL K H a (qs.map V.ref)) := by
      rcases hv with ⟨rfl, rfl⟩ | ⟨a, rfl, qs, h1, h2⟩
      · exact ⟨[], .nil, .inl ⟨rfl, rfl⟩⟩
      · exact ⟨qs, h2, .inr ⟨a, rfl, h1⟩⟩
    have hlq := hq.1
    refine ⟨_, (pss_cons (ps_set (i := 5) sc_Sun_init.nd rfl (Or.inl rfl) (pe_callTy (kb_lof K rfl) (by rfl) T.n_list (by decide +kernel) (pa_cons (pv 2) pa_nil)))
        (pss_cons (ps_set (i := 6) sc_Sun_init.nd rfl (Or.inl rfl) (pe_call (ok_list_of T) (hr.mono (by decide)) (by rfl) T.g_list_of T.F_list_of.kp T.b_list_of .nil pass0 (pa_cons (pv 4) pa_nil)))
        (pss_cons (ps_if (pt_not (pt_val (pe_call (ok_are_months T) (hr.mono (by decide)) (by rfl) T.g_are_months T.F_are_months.kp T.b_are_months .nil pass0 (pa_cons (pv 5) (pa_cons (pv 3) (pa_cons (pv 6) pa_nil)))))) (pss_one ps_never) pss_nil)
        (pss_cons (ps_fld (pv 0) (pv 1) rfl)
        (pss_cons (ps_fld (pv 0) (pv 5) rfl)
        (pss_cons (ps_fld (pv 0) (pv 3) rfl)
        (pss_one (ps_fld (pv 0) (pe_make T.mk_Measure (ok_Measure_init T) (hr.mono (by decide)) rfl T.gc_Measure T.b_Measure_init_3 T.v_Measure_init_3 pass0 (pa_cons (pe_callB (kb_sum K (hc := rfl)) (by rfl) T.n_sum (by decide +kernel) (pa_cons (pv 5) pa_nil)) (pa_cons (pv 6) pa_nil))) rfl)))))))), ?_⟩
    walk_at "go"
    rename_i pm H1 hn1 s1 t1
    refine k_list_of (xs := qs.map V.ref) (hv2.imp id fun ⟨a, e, h⟩ => ⟨a, e, same_l s1 h⟩) (by rw [List.length_map]; omega) fun p H2 hn2 s2 t2 => ?_
    have t1' := s2 _ _ t1
    have tm2 : TmsL K H2 p ts := ⟨qs, SqL.of t2, hq.same (s1.trans s2)⟩
    walk_at "run"
    refine k_are_months (SqL.of t1') tm2 ok fun H3 s3 => ?_
    have s03 := (s1.trans s2).trans s3
    have t3 := s3 _ _ t1'
    have tm3 : TmsL K H3 p ts := tm2.mono (T := []) (.of s3)
    have hx3 := s03 _ _ hx
    walk_at "run"
    refine k_stoX hx3 T.cl_Sun T.na_Sun_start (by show 0 < 1000; decide) ?_
    walk_at "run"
    refine k_stoX upd_same T.cl_Sun T.na_Sun_months (by show 1 < 1000; decide) ?_
    walk_at "run"
    refine k_stoX upd_same T.cl_Sun T.na_Sun_leap (by rw [sfs_p1, sfs_p2]; show 2 < 1000; decide) ?_
    rw [sfs_p1, sfs_p2, sfs_p3]
    have f1 : ∀ {b : Addr} {o : HO}, H3 b = some o → b ≠ x → upd (upd (upd H3 x (.ins T.C_Sun dx (sfs1 st))) x (.ins T.C_Sun dx (sfs2 st pm))) x (.ins T.C_Sun dx (sfs3 st pm lp)) b = some o := fun {b o} h n => by
      rw [upd_ne n, upd_ne n, upd_ne n]; exact h
    have xx : SameX (NT T.ct_counter) x H3 (upd (upd (upd H3 x (.ins T.C_Sun dx (sfs1 st))) x (.ins T.C_Sun dx (sfs2 st pm))) x (.ins T.C_Sun dx (sfs3 st pm lp))) := (SameX.upd hx3).trans ((SameX.upd upd_same).trans (SameX.upd upd_same))
    have u4 : upd (upd (upd H3 x (.ins T.C_Sun dx (sfs1 st))) x (.ins T.C_Sun dx (sfs2 st pm))) x (.ins T.C_Sun dx (sfs3 st pm lp)) x = some (.ins T.C_Sun dx (sfs3 st pm lp)) := upd_same
    have tm4 := ((tm3.updI (o := .ins T.C_Sun dx (sfs1 st)) hx3).updI (o := .ins T.C_Sun dx (sfs2 st pm)) upd_same).updI (o := .ins T.C_Sun dx (sfs3 st pm lp)) upd_same
    have n4 : ∀ b, upd (upd (upd H3 x (.ins T.C_Sun dx (sfs1 st))) x (.ins T.C_Sun dx (sfs2 st pm))) x (.ins T.C_Sun dx (sfs3 st pm lp)) b = none → H b = none := fun b hb => by
      by_cases z : b = x
      · rw [z, upd_same] at hb; cases hb
      · rw [upd_ne z, upd_ne z, upd_ne z] at hb
        cases hh : H b with
        | none => rfl
        | some o => rw [s03 _ _ hh] at hb; cases hb
    have t4 := f1 t3 (fun z => by rw [z, hx3] at t3; cases t3)
    generalize upd (upd (upd H3 x (.ins T.C_Sun dx (sfs1 st))) x (.ins T.C_Sun dx (sfs2 st pm))) x (.ins T.C_Sun dx (sfs3 st pm lp)) = H4 at *
    have x04 : SameX (NT T.ct_counter) x H H4 := (SameX.of (.of s03)).trans xx
    have hT4 := x04.tab hTab
    walk_at "run"
    refine k_sum (SqL.of t4) ?_
    walk_at "run"
    refine k_mkMeasure (v := .ref p) rfl (.inr ⟨p, rfl, tm4⟩) mo hT4 fun py H5 hn5 s5 hm => ?_
    have u5 := s5.ins u4
    obtain ⟨dy, ly, hyi, hy0, hyt⟩ := hm
    have t5 := s5.lst t4
    walk_at "run"
    refine k_stoX u5 T.cl_Sun T.na_Sun_years (by show 3 < 1000; decide) ?_
    rw [sfs_p4]
    have hyx : py ≠ x := fun z => by rw [z, u4] at hn5; cases hn5
    have hpx : pm ≠ x := fun z => by rw [z, u5] at t5; cases t5
    have xf : SameX (NT T.ct_counter) x H (upd H5 x (.ins T.C_Sun dx (sfs st pm lp py))) := (x04.trans (.of s5)).trans (SameX.upd u5)
    refine q _ xf ⟨dx, pm, py, own_ins upd_same, sql_own (SqL.of (by rw [upd_ne hpx]; exact t5)) hn1, dy, ly, own_ins (by rw [upd_ne hyx]; exact hyi), (hyt.updI u5).own (n4 _ hy0)⟩
theorem k_Sun_init {T : Txt K mg base} {H : Hp} {Q : VK} {E : XK} {x dx a : Addr} {v : V} {st : Int} {ls : List Int} {lp : Int} {ts : List Tm} (hx : H x = some (.ins T.C_Sun dx [])) (hS : SqL K H a (ls.map V.int)) (hv : (v = .non ∧ ts = []) ∨ ∃ a, v = .ref a ∧ TmsL K H a ts) (ok : SunOk ls lp ts) (hT : NdefX.TabsN (NT T.ct_counter) H)
    (q : ∀ H', SameX (NT T.ct_counter) x H H' → SunAt K T.C_Sun T.C_Measure (own H H') x st ls lp ts → Q .non H') : sp_Sun_init K T [.ref x, .int st, .ref a, .int lp, v] H Q E := ⟨x, dx, a, v, st, ls, lp, ts, rfl, hx, hS, hv, ok, hT, q⟩
/-- Sun(..) -/
theorem k_mkSun {T : Txt K mg base} {H : Hp} {Q : VK} {a : Addr} {v : V} {st : Int} {ls : List Int} {lp : Int} {ts : List Tm} {vs dvs : List V} (e : vs ++ dvs = [.int st, .ref a, .int lp, v]) (hS : SqL K H a (ls.map V.int)) (hv : (v = .non ∧ ts = []) ∨ ∃ a, v = .ref a ∧ TmsL K H a ts) (ok : SunOk ls lp ts) (hT : NdefX.TabsN (NT T.ct_counter) H)
    (q : ∀ x H', H x = none → SameT (NT T.ct_counter) H H' → SunAt K T.C_Sun T.C_Measure (own H H') x st ls lp ts → Q (.ref x) H') : MakR T.C_Sun (sp_Sun_init K T) dvs E0 vs H Q := by
  intro x dx hx hd hne
  rw [e]
  have s0 : Same H (upd (upd H dx (.own x)) x (.ins T.C_Sun dx [])) := fun c o h => by
    rw [upd_ne (ne_of_none h hx), upd_ne (ne_of_none h hd)]; exact h
  refine k_Sun_init upd_same (same_l s0 hS) ?_ ok (hT.ext s0) fun H' sx hm => ⟨rfl, q x H' hx (SameX.made hx hd sx) (hm.mono (own_back fun l hl => ?_))⟩
  · rcases hv with h | ⟨a, rfl, h⟩
    · exact .inl h
    · exact .inr ⟨a, rfl, h.mono (T := []) (.of s0)⟩
  · by_cases z : l = x
    · rw [z]; exact hx
    by_cases z2 : l = dx
    · rw [z2]; exact hd
    rw [upd_ne z, upd_ne z2] at hl; exact hl

/-! ### _law_number -/
def sp_Lnumber (K : PySem.W.Frag) : Sp := fun vs H Q _ => ∃ c : Int, vs = [.int c] ∧ ∀ (z : Int) (H' : Hp), Same H H' → -10000000000000000000000000000000000000000 ≤ z → z ≤ 10000000000000000000000000000000000000000 → Q (.int z) H'
theorem ok_Lnumber (T : Txt K mg base) : FnOk P w K mg base CX0 1 T.a_Lnumber T.fd_Lnumber ["_law_cell"] (sp_Lnumber K) := by
  refine T.F_Lnumber.ok sc_Lnumber (fun vs H Q E h => ?_) (fun cdv A outer s H vs Q E hr h => ?_)
  · obtain ⟨_, rfl, _⟩ := h; rfl
  · obtain ⟨c, rfl, q⟩ := h
    have hu := hr.units
    have h1 := Int.emod_nonneg (c / 3) (show (10000000000000000000000000000000000000000 : Int) ≠ 0 by decide)
    have h2 := Int.emod_lt_of_pos (c / 3) (show (0 : Int) < 10000000000000000000000000000000000000000 by decide)
    refine ⟨_, (pss_cons (ps_set (i := 1) sc_Lnumber.nd rfl (Or.inl rfl) (pe_op op_mod (pe_op op_fdivW (pv 0) pe_int) (pe_powc (n := 10000000000000000000000000000000000000000) (by decide +kernel))))
        (pss_one (ps_ret (pe_ix (kb_ix K) (pe_lst (pa_cons (pv 1) (pa_cons (pe_un un_neg (pv 1)) (pa_cons (pe_op op_sub (pe_op op_mod (pv 1) pe_int) pe_int) pa_nil)))) (pe_op op_mod (pv 0) pe_int) (fun _ _ => rfl))))), ?_⟩
    walk_at "go"
    generalize c / 3 % 10000000000000000000000000000000000000000 = x at *
    walk_at "go"
    rename_i L1 H1 hn1 s1 t1
    obtain ⟨z, ⟨z0, z1⟩, hz⟩ := atI_all (P := fun z => -10000000000000000000000000000000000000000 ≤ z ∧ z ≤ 10000000000000000000000000000000000000000) (l := [x, -x, x % 1000 - 500]) (i := c % 3) (by omega) (by show c % 3 < 3; omega) (fun z hz => by
      simp only [List.mem_cons, List.not_mem_nil, or_false] at hz
      omega)
    refine k_ixL (SqL.of t1) hz ?_
    exact q z _ s1 z0 z1
theorem k_Lnumber {K : PySem.W.Frag} {H : Hp} {Q : VK} {E : XK} {c : Int} (q : ∀ (z : Int) (H' : Hp), Same H H' → -10000000000000000000000000000000000000000 ≤ z → z ≤ 10000000000000000000000000000000000000000 → Q (.int z) H') : sp_Lnumber K [.int c] H Q E := ⟨c, rfl, q⟩

/-! ### _law_cell_at -/
/-- a cell of the script; nought behind its end -/
def sp_Lcell_at (K : PySem.W.Frag) : Sp := fun vs H Q _ => ∃ (a : Addr) (ns : List Int) (k : Int), vs = [.ref a, .int k] ∧ SqL K H a (ns.map V.int) ∧ 0 ≤ k ∧ Q (.int (ns.getD k.toNat 0)) H
theorem ok_Lcell_at (T : Txt K mg base) : FnOk P w K mg base CX0 1 T.a_Lcell_at T.fd_Lcell_at ["_law_script", "_law_k"] (sp_Lcell_at K) := by
  refine T.F_Lcell_at.ok sc_Lcell_at (fun vs H Q E h => ?_) (fun cdv A outer s H vs Q E hr h => ?_)
  · obtain ⟨_, _, _, rfl, _⟩ := h; rfl
  · obtain ⟨a, ns, k, rfl, hS, h0, q⟩ := h
    refine ⟨_, (pss_cons (ps_if (pt_cmpR op_lt (pv 1) (pe_callB (kb_len K) (by rfl) T.n_len (by decide +kernel) (pa_cons (pv 0) pa_nil)) (nomark _)) (pss_one (ps_ret (pe_ix (kb_ix K) (pv 0) (pv 1) (fun _ _ => rfl)))) pss_nil)
        (pss_one (ps_ret pe_int))), ?_⟩
    apply k_seqI; walk_at "go"
    refine if_dec (fun hk => ?_) (fun hk => ?_)
    · walk_at "go"
      rw [List.length_map] at hk
      have e : ((ns.map V.int)[k.toNat]?) = some (V.int (ns.getD k.toNat 0)) := by
        rw [List.getElem?_map, List.getElem?_eq_getElem (show k.toNat < ns.length by omega), List.getD_eq_getElem?_getD, List.getElem?_eq_getElem (show k.toNat < ns.length by omega)]
        rfl
      exact k_ixL hS (at_of (show k = ((k.toNat : Nat) : Int) by omega) e) q
    · walk_at "go"
      rw [List.length_map] at hk
      have e : ns.getD k.toNat 0 = 0 := by
        rw [List.getD_eq_getElem?_getD, List.getElem?_eq_none (by omega)]; rfl
      rw [e] at q
      exact q
theorem sm_getD {ns : List Int} {n : Nat} (hb : ∀ z ∈ ns, Builtin.Int.intBits z ≤ n) (k : Nat) : Sm n (ns.getD k 0) := by
  rw [List.getD_eq_getElem?_getD]
  by_cases h : k < ns.length
  · rw [List.getElem?_eq_getElem h]; exact sm_bits (hb _ (List.getElem_mem h))
  · rw [List.getElem?_eq_none (by omega)]; exact ⟨Nat.pow_pos (by decide)⟩
theorem k_cell {H : Hp} {Q : VK} {E : XK} {a : Addr} {ns : List Int} {k : Int} (hb : ∀ z ∈ ns, Builtin.Int.intBits z ≤ 1048576) (hS : SqL K H a (ns.map V.int)) (h0 : 0 ≤ k)
    (q : ∀ c, c = ns.getD k.toNat 0 → Sm 1048576 c → Q (.int c) H) : sp_Lcell_at K [.ref a, .int k] H Q E := ⟨a, ns, k, rfl, hS, h0, q _ rfl (sm_getD hb _)⟩
local macro_rules | `(tactic| walk_at "st") => `(tactic| first | ((with_reducible apply k_cell); (· assumption); (· walk_at "hp"); (· first | decide | omega); intro c hc hm) | fail)

/-! ### _law_term -/
def sp_Lterm (K : PySem.W.Frag) : Sp := fun vs H Q _ => ∃ c m : Int, vs = [.int c, .int m] ∧ Sm 1048576 c ∧ 1 ≤ m ∧ m ≤ 1000 ∧ ∀ (p : Addr) (H' : Hp) (t : Tm), Same H H' → H' p = some (.tup (tmV t)) → TmOk t → t.n ≤ m → Q (.ref p) H'
theorem ok_Lterm (T : Txt K mg base) : FnOk P w K mg base CX0 1 T.a_Lterm T.fd_Lterm ["_law_cell", "_law_most"] (sp_Lterm K) := by
  refine T.F_Lterm.ok sc_Lterm (fun vs H Q E h => ?_) (fun cdv A outer s H vs Q E hr h => ?_)
  · obtain ⟨_, _, rfl, _⟩ := h; rfl
  · obtain ⟨c, m, rfl, sc, m0, m1, q⟩ := h
    have hu := hr.units
    refine ⟨_, (pss_cons (ps_set (i := 2) sc_Lterm.nd rfl (Or.inl rfl) (pe_op op_addA pe_int (pe_op op_mod (pv 0) (pv 1))))
        (pss_cons (ps_set (i := 3) sc_Lterm.nd rfl (Or.inl rfl) (pe_op op_mod (pe_op op_fdivW (pv 0) (pv 1)) (pe_op op_addA (pv 2) pe_int)))
        (pss_one (ps_ret (pe_tup (pa_cons (pe_op op_sub pe_int (pe_op op_mulX pe_int (pe_op op_mod (pe_op op_fdivW (pv 0) pe_int) pe_int))) (pa_cons (pv 3) (pa_cons (pe_op op_mod (pe_op op_fdivW (pv 0) pe_int) (pv 2)) (pa_cons (pv 2) pa_nil))))))))), ?_⟩
    have n0 := Int.emod_nonneg c (show m ≠ 0 by omega)
    have n1 := Int.emod_lt_of_pos c (show 0 < m by omega)
    have a0 := Int.emod_nonneg (c / m) (show 1 + c % m + 1 ≠ 0 by omega)
    have a1 := Int.emod_lt_of_pos (c / m) (show 0 < 1 + c % m + 1 by omega)
    have b0 := Int.emod_nonneg (c / 62) (show 1 + c % m ≠ 0 by omega)
    have b1 := Int.emod_lt_of_pos (c / 62) (show 0 < 1 + c % m by omega)
    walk_at "go"
    rename_i p H1 hn1 s1 t1
    exact q p H1 ⟨1 - 2 * (c / 31 % 2), c / m % (1 + c % m + 1), c / 62 % (1 + c % m), 1 + c % m⟩ s1 t1 ⟨by show 1 - 2 * (c / 31 % 2) = 1 ∨ 1 - 2 * (c / 31 % 2) = -1; omega, by show 1 ≤ 1 + c % m; omega, by show 1 + c % m ≤ 1000; omega, a0, by show c / m % (1 + c % m + 1) ≤ 1 + c % m; omega, b0, b1⟩ (by show 1 + c % m ≤ m; omega)
theorem k_Lterm {K : PySem.W.Frag} {H : Hp} {Q : VK} {E : XK} {c m : Int} (sc : Sm 1048576 c) (h2 : 1 ≤ m) (h3 : m ≤ 1000) (q : ∀ (p : Addr) (H' : Hp) (t : Tm), Same H H' → H' p = some (.tup (tmV t)) → TmOk t → t.n ≤ m → Q (.ref p) H') : sp_Lterm K [.int c, .int m] H Q E := ⟨c, m, rfl, sc, h2, h3, q⟩

/-! ### _law_sun -/
theorem tm_one {t : Tm} (h : TmOk t) : ∀ x ∈ [t], TmOk x := by simpa using h
theorem perT_le {ts : List Tm} (h : ∀ t ∈ ts, TmOk t ∧ t.n ≤ 4) (hl : ts.length ≤ 2) : 1 ≤ perT ts ∧ perT ts ≤ 16 := by
  match ts, hl with
  | [], _ => exact ⟨by decide, by decide⟩
  | [t], _ =>
    have h1 := h t (by simp)
    have := h1.1.n1
    rw [perT_one h1.1.n1]; omega
  | [t, u], _ =>
    have h1 := h t (by simp)
    have h2 := h u (by simp)
    have a1 := h1.1.n1
    have a2 := h2.1.n1
    have e : perT [t, u] = lcmI t.n u.n := by
      have := perT_one h1.1.n1
      show lcmI (perT [t]) u.n = _
      rw [this]
    have l1 := lcm_le_mul h1.1.n1 h2.1.n1
    have l2 := lcm_pos h1.1.n1 h2.1.n1
    have l3 := Int.mul_le_mul h1.2 h2.2 (by omega) (by decide)
    rw [e]; omega
theorem sun_dysL {st : Int} {ls : List Int} {lp : Int} {ts : List Tm} (ok : ∀ t ∈ ts, TmOk t) {A B : Nat} (hA : ls.sum + ts.length ≤ A) (h0 : 0 ≤ ls.sum) (hp : 0 ≤ perT ts) (hB : perT ts ≤ B) : (Cal.sun st ls lp ts).dys ≤ (A * B : Nat) := by
  show uptoM ls.sum ts (perT ts) ≤ _
  obtain ⟨k, hk⟩ := Int.eq_ofNat_of_zero_le hp
  have := upto_hi (b := ls.sum) ok k
  rw [hk] at hB ⊢
  refine Int.le_trans this ?_
  rw [show ls.sum + (ts.length : Int) = ((ls.sum.toNat + ts.length : Nat) : Int) by omega, ← Int.natCast_mul]
  exact_mod_cast Nat.mul_le_mul (show ls.sum.toNat + ts.length ≤ A by omega) (show k ≤ B by omega)
theorem moon_dysL {st b1 b2 : Int} {t1 t2 : List Tm} (ok : MoonOk b1 t1 b2 t2) {A B C D : Nat} (hA : b1 + t1.length ≤ A) (hB : perT t1 ≤ B) (hC : b2 + t2.length ≤ C) (hD : perT t2 ≤ D) : (Cal.moon st b1 t1 b2 t2).dys ≤ (A * (C * D * B) : Nat) := by
  obtain ⟨f1, f2⟩ := moonF_bd ok
  obtain ⟨p1, p2⟩ := per_bd ok.m2
  show uptoM b1 t1 (uptoM b2 t2 (perT t2) * moonF b2 t1 t2) ≤ _
  obtain ⟨u1, u2⟩ := per_upto ok.m2
  have b10 := ok.m1.b0
  have b20 := ok.m2.b0
  obtain ⟨k, hk⟩ := Int.eq_ofNat_of_zero_le (show 0 ≤ perT t2 by omega)
  have h2 := upto_hi (b := b2) ok.m2.ok k
  rw [← hk] at h2
  generalize hU : uptoM b2 t2 (perT t2) = U at *
  generalize hF : moonF b2 t1 t2 = F at *
  obtain ⟨u, rfl⟩ := Int.eq_ofNat_of_zero_le (show 0 ≤ U by omega)
  obtain ⟨f, rfl⟩ := Int.eq_ofNat_of_zero_le (show 0 ≤ F by omega)
  have h1 := upto_hi (b := b1) ok.m1.ok (u * f)
  rw [Int.natCast_mul] at h1
  refine Int.le_trans h1 ?_
  have e1 : b1 + (t1.length : Int) = ((b1.toNat + t1.length : Nat) : Int) := by omega
  have e2 : b2 + (t2.length : Int) = ((b2.toNat + t2.length : Nat) : Int) := by omega
  have hu : u ≤ C * D := by
    rw [e2, hk, ← Int.natCast_mul] at h2
    have h3 : u ≤ (b2.toNat + t2.length) * k := by exact_mod_cast h2
    exact Nat.le_trans h3 (Nat.mul_le_mul (by omega) (by omega))
  rw [e1, ← Int.natCast_mul, ← Int.natCast_mul]
  exact_mod_cast Nat.mul_le_mul (show b1.toNat + t1.length ≤ A by omega) (Nat.mul_le_mul hu (show f ≤ B by omega))
def sp_Lsun (K : PySem.W.Frag) (T : Txt K mg base) : Sp := fun vs H Q _ => ∃ (a : Addr) (ns : List Int), vs = [.ref a] ∧ SqL K H a (ns.map V.int) ∧ (∀ z ∈ ns, Builtin.Int.intBits z ≤ 1048576) ∧ NdefX.TabsN (NT T.ct_counter) H ∧
  ∀ (x : Addr) (H' : Hp) (cal : Cal), SameT (NT T.ct_counter) H H' → CalAt K T.C_Sun T.C_Moon T.C_Measure H' x cal → cal.Ok → cal.dys ≤ 4000 → -10000000000000000000000000000000000000000 ≤ cal.st → cal.st ≤ 10000000000000000000000000000000000000000 → Q (.ref x) H'
theorem ok_Lsun (T : Txt K mg base) : FnOk P w K mg base CX0 8 T.a_Lsun T.fd_Lsun ["_law_script"] (sp_Lsun K T) := by
  refine T.F_Lsun.ok sc_Lsun (fun vs H Q E h => ?_) (fun cdv A outer s H vs Q E hr h => ?_)
  · obtain ⟨_, _, rfl, _⟩ := h; rfl
  · obtain ⟨a, ns, rfl, hS, hb, hT, q⟩ := h
    have hu := hr.units
    refine ⟨_, (pss_cons (ps_set (i := 1) sc_Lsun.nd rfl (Or.inl rfl) (pe_call (ok_Lnumber T) (hr.mono (by decide)) (by rfl) T.g_Lnumber T.F_Lnumber.kp T.b_Lnumber .nil pass0 (pa_cons (pe_call (ok_Lcell_at T) (hr.mono (by decide)) (by rfl) T.g_Lcell_at T.F_Lcell_at.kp T.b_Lcell_at .nil pass0 (pa_cons (pv 0) (pa_cons pe_int pa_nil))) pa_nil)))
        (pss_cons (ps_set (i := 2) sc_Lsun.nd rfl (Or.inr rfl) (pe_call (ok_Lcell_at T) (hr.mono (by decide)) (by rfl) T.g_Lcell_at T.F_Lcell_at.kp T.b_Lcell_at .nil pass0 (pa_cons (pv 0) (pa_cons pe_int pa_nil))))
        (pss_cons (ps_if (pt_cmpR (kb_eq K (hu := hu)) (pe_op op_mod (pv 2) pe_int) pe_int (nomark _)) (pss_one (ps_ret (pe_make T.mk_Sun (ok_Sun_init T) (hr.mono (by decide)) rfl T.gc_Sun T.b_Sun_init_5 T.v_Sun_init_5 pass0 (pa_cons (pv 1) (pa_cons (pe_lst (pa_cons pe_int (pa_cons pe_int (pa_cons pe_int (pa_cons pe_int (pa_cons pe_int (pa_cons pe_int (pa_cons pe_int (pa_cons pe_int (pa_cons pe_int (pa_cons pe_int (pa_cons pe_int (pa_cons pe_int pa_nil))))))))))))) (pa_cons pe_int (pa_cons (pe_lst (pa_cons (pe_tup (pa_cons pe_int (pa_cons pe_int (pa_cons (pe_op op_mod (pe_op op_fdivW (pv 2) pe_int) pe_int) (pa_cons pe_int pa_nil))))) pa_nil)) pa_nil))))))) pss_nil)
        (pss_cons (ps_if (pt_cmpR (kb_eq K (hu := hu)) (pe_op op_mod (pv 2) pe_int) pe_int (nomark _)) (pss_one (ps_ret (pe_make T.mk_Sun (ok_Sun_init T) (hr.mono (by decide)) rfl T.gc_Sun T.b_Sun_init_3 T.v_Sun_init_3 pass0 (pa_cons (pv 1) (pa_cons (pe_op op_addA (pe_lc (own := [("_law_k", 3)]) (g := gName 3) (tt := tYes) rfl sc_Lsun.nd (pi_range1 (by rfl) T.n_range (pa_cons pe_int pa_nil)) (blkOk_by (N := ["_law_script", "_law_start", "_law_one", "_law_k", "_law_many", "_law_rest", "_law_lengths", "_law_two", "_law_leap", "_law_terms"]) (sc := defScope s_Lsun) (by decide +kernel)) (fun _ _ _ _ _ => pg_name (i := 3) sc_Lsun.nd rfl (Or.inl rfl)) (fun _ _ _ _ _ => pts_nil) (fun _ _ _ _ _ => (pe_op op_mod (pe_op op_fdivW (pv 2) (pe_op op_addA pe_int (pe_op op_mulX pe_int (pv 3)))) pe_int))) (pe_lst (pa_cons pe_int pa_nil))) pa_nil))))) pss_nil)
        (pss_cons (ps_if (pt_cmpR (kb_eq K (hu := hu)) (pe_op op_mod (pv 2) pe_int) pe_int (nomark _)) (pss_one (ps_ret (pe_make T.mk_Sun (ok_Sun_init T) (hr.mono (by decide)) rfl T.gc_Sun T.b_Sun_init_5 T.v_Sun_init_5 pass0 (pa_cons (pv 1) (pa_cons (pe_lst (pa_cons pe_int (pa_cons pe_int (pa_cons pe_int (pa_cons pe_int pa_nil))))) (pa_cons pe_int (pa_cons (pe_lst (pa_cons (pe_tup (pa_cons pe_int (pa_cons pe_int (pa_cons pe_int (pa_cons pe_int pa_nil))))) (pa_cons (pe_tup (pa_cons (pe_un un_neg pe_int) (pa_cons pe_int (pa_cons pe_int (pa_cons pe_int pa_nil))))) (pa_cons (pe_tup (pa_cons pe_int (pa_cons pe_int (pa_cons pe_int (pa_cons pe_int pa_nil))))) pa_nil)))) pa_nil))))))) pss_nil)
        (pss_cons (ps_set (i := 4) sc_Lsun.nd rfl (Or.inl rfl) (pe_op op_addA pe_int (pe_op op_mod (pe_op op_fdivW (pv 2) pe_int) pe_int)))
        (pss_cons (ps_set (i := 5) sc_Lsun.nd rfl (Or.inl rfl) (pe_op op_fdivW (pv 2) pe_int))
        (pss_cons (ps_set (i := 6) sc_Lsun.nd rfl (Or.inl rfl) (pe_lst pa_nil))
        (pss_cons (ps_for PassesOwn.never rfl (pi_range1 (by rfl) T.n_range (pa_cons (pv 4) pa_nil)) (pg_name (i := 3) sc_Lsun.nd rfl (Or.inl rfl)) (pss_cons (ps_expr (pe_bm PySem.F.plainAttrs_list PySem.F.slot_list_append PySem.F.type_list_append mt_append (pv 6) (pa_cons (pe_op op_mod (pv 5) pe_int) pa_nil)))
        (pss_one (ps_set (i := 5) sc_Lsun.nd rfl (Or.inl rfl) (pe_op op_fdivW (pv 5) pe_int)))))
        (pss_cons (ps_set (i := 7) sc_Lsun.nd rfl (Or.inl rfl) (pe_call (ok_Lcell_at T) (hr.mono (by decide)) (by rfl) T.g_Lcell_at T.F_Lcell_at.kp T.b_Lcell_at .nil pass0 (pa_cons (pv 0) (pa_cons pe_int pa_nil))))
        (pss_cons (ps_set (i := 8) sc_Lsun.nd rfl (Or.inl rfl) (pe_op op_addA pe_int (pe_op op_mod (pv 7) (pv 4))))
        (pss_cons (ps_asg (pe_op op_addA (pe_ix (kb_ix K) (pv 6) (pe_op op_sub (pv 8) pe_int) (fun _ _ => rfl)) pe_int) (pg_sub (pv 6) (pe_op op_sub (pv 8) pe_int) set_list))
        (pss_cons (ps_set (i := 9) sc_Lsun.nd rfl (Or.inl rfl) (pe_lst (pa_cons (pe_call (ok_Lterm T) (hr.mono (by decide)) (by rfl) T.g_Lterm T.F_Lterm.kp T.b_Lterm .nil pass0 (pa_cons (pe_op op_fdivW (pv 7) pe_int) (pa_cons pe_int pa_nil))) (pa_cons (pe_call (ok_Lterm T) (hr.mono (by decide)) (by rfl) T.g_Lterm T.F_Lterm.kp T.b_Lterm .nil pass0 (pa_cons (pe_op op_fdivW (pv 7) pe_int) (pa_cons pe_int pa_nil))) pa_nil))))
        (pss_one (ps_ret (pe_make T.mk_Sun (ok_Sun_init T) (hr.mono (by decide)) rfl T.gc_Sun T.b_Sun_init_5 T.v_Sun_init_5 pass0 (pa_cons (pv 1) (pa_cons (pv 6) (pa_cons (pv 8) (pa_cons (pe_slice sl_list (pv 9) po_none (po_some (pe_op op_mod (pe_op op_fdivW (pv 7) pe_int) pe_int))) pa_nil)))))))))))))))))))), ?_⟩
    walk_at "go"
    rename_i c1 _ sc1
    refine k_Lnumber fun st H1 s1 st0 st1 => ?_
    have hS1 := same_l s1 hS
    have hT1 := hT.ext s1
    walk_at "go"
    rename_i c2 _ sc2
    with_reducible apply k_seqI
    walk_at "go"
    refine if_dec (fun w1 => ?_) (fun w1 => ?_)
    · walk_at "go"
      rename_i p2 H2 hn2 s2 t2 p3 H3 hn3 s3 t3 p4 H4 hn4 s4 t4
      have m0 : 0 ≤ c2 / 16 % 4 := by omega
      have m1 : c2 / 16 % 4 < 4 := by omega
      generalize c2 / 16 % 4 = B at *
      have tok : TmOk ⟨1, 1, B, 4⟩ := ⟨.inl rfl, by show (1:Int) ≤ 4; decide, by show (4:Int) ≤ 1000; decide, by show (0:Int) ≤ 1; decide, by show (1:Int) ≤ 4; decide, m0, m1⟩
      have hf : fallsT [⟨1, 1, B, 4⟩] = 0 := by simp [fallsT]
      have sok : SunOk [31, 28, 31, 30, 31, 30, 31, 31, 30, 31, 30, 31] 2 [⟨1, 1, B, 4⟩] := ⟨by decide, by decide, by decide, by decide, by decide, by rw [hf]; decide, by rw [hf]; decide, by show 1 ≤ 6; decide, tm_one tok⟩
      have s24 := (s3.trans s4)
      refine k_mkSun (v := .ref p4) (ls := [31, 28, 31, 30, 31, 30, 31, 31, 30, 31, 30, 31]) (ts := [⟨1, 1, B, 4⟩]) rfl (SqL.of (s24 _ _ t2)) (.inr ⟨p4, rfl, [p3], SqL.of t4, TmsAt.nil.snoc (SqT.of (show H4 p3 = some (.tup (tmV ⟨1, 1, B, 4⟩)) from s4 _ _ t3))⟩) sok (hT1.ext (s2.trans s24)) fun x H7 hx7 s7 hs => ?_
      walk_at "go"
      exact q x H7 (.sun st _ 2 [⟨1, 1, B, 4⟩]) ((SameT.of (s1.trans (s2.trans s24))).trans s7) (SunAt.mono own_to hs) sok (Int.le_trans (sun_dysL (tm_one tok) (A := 366) (B := 4) (by show (365 : Int) + 1 ≤ 366; decide) (by decide) (by rw [perT_one tok.n1]; show (0 : Int) ≤ 4; decide) (by rw [perT_one tok.n1]; show (4 : Int) ≤ 4; decide)) (by decide)) st0 st1
    walk_at "go"
    with_reducible apply k_seqI
    walk_at "go"
    refine if_dec (fun w2 => ?_) (fun w2 => ?_)
    · walk_at "go"
      refine k_lcrP (P := fun i acc H' => ∃ ls : List Int, acc = ls.map V.int ∧ ls.length = i ∧ ∀ x ∈ ls, 0 ≤ x ∧ x ≤ 31) (by decide) (fun D hD => ⟨[], rfl, rfl, by simp⟩) (fun i acc D H5 R hi s5 hd hp hR => ?_) (fun D H5 acc hD s5 t5 hal hp => ?_)
      · obtain ⟨ls, rfl, hl, hb0⟩ := hp
        walk_at "go"
        refine hR _ _ (.refl _) ⟨ls ++ [_], by rw [List.map_append]; rfl, by rw [List.length_append, hl]; rfl, fun x hx => ?_⟩
        rcases List.mem_append.mp hx with h | h
        · exact hb0 x h
        · rw [List.mem_singleton.mp h]; omega
      obtain ⟨ls, rfl, hl, hb0⟩ := hp
      have hl11 : ls.length = 11 := hl
      walk_at "go"
      rename_i p6 H6 hn6 s6 t6
      refine k_cat (s6 _ _ t5) t6 (by rw [List.length_map, hl11]; show 11 + 1 ≤ 16000000; decide) fun p7 H7 hn7 s7 t7 => ?_
      walk_at "go"
      have hr0 : ∀ x ∈ ls ++ [31], 0 ≤ x ∧ x ≤ 31 := fun x hx => by
        rcases List.mem_append.mp hx with h | h
        · exact hb0 x h
        · rw [List.mem_singleton.mp h]; omega
      have hsum := sum_bd hr0
      have hsum1 : 31 ≤ (ls ++ [31]).sum := by
        have := sum_bd hb0
        rw [List.sum_append]; simp; omega
      have hlen : (ls ++ [31]).length = 12 := by rw [List.length_append, hl11]; rfl
      have sok : SunOk (ls ++ [31]) 1 [] := ⟨by omega, by omega, fun x hx => by have := hr0 x hx; omega, by decide, by omega, by
        rw [show fallsT [] = 0 from rfl, List.getD_eq_getElem?_getD, List.getElem?_eq_getElem (by show 0 < _; omega)]
        exact (hr0 _ (List.getElem_mem _)).1, by rw [show fallsT [] = 0 from rfl]; omega, by decide, by simp⟩
      have s17 := (s5.trans s6).trans s7
      refine k_mkSun (v := .non) (ls := ls ++ [31]) (ts := []) rfl (SqL.of (by rw [t7, List.map_append]; rfl)) (.inl ⟨rfl, rfl⟩) sok (hT1.ext s17) fun x H8 hx8 s8 hs => ?_
      walk_at "go"
      exact q x H8 (.sun st _ 1 []) ((SameT.of (s1.trans s17)).trans s8) (SunAt.mono own_to hs) sok (Int.le_trans (sun_dysL (by simp) (A := 372) (B := 1) (by rw [hlen] at hsum; show _ + ((0 : Nat) : Int) ≤ _; omega) (by omega) (by decide) (by decide)) (by decide)) st0 st1
    walk_at "go"
    with_reducible apply k_seqI
    walk_at "go"
    refine if_dec (fun w3 => ?_) (fun w3 => ?_)
    · walk_at "go"
      rename_i p2 H2 hn2 s2 t2 p3 H3 hn3 s3 t3 p4 H4 hn4 s4 t4 p5 H5 hn5 s5 t5 p6 H6 hn6 s6 t6
      have sok : SunOk [3, 2, 4, 2] 2 [⟨1, 1, 3, 4⟩, ⟨-1, 1, 19, 20⟩, ⟨1, 1, 99, 100⟩] := ⟨by decide, by decide, by decide, by decide, by decide, by decide, by decide, by decide, by
        intro t ht
        simp only [List.mem_cons, List.not_mem_nil, or_false] at ht
        rcases ht with rfl | rfl | rfl
        · exact ⟨.inl rfl, by decide, by decide, by decide, by decide, by decide, by decide⟩
        · exact ⟨.inr rfl, by decide, by decide, by decide, by decide, by decide, by decide⟩
        · exact ⟨.inl rfl, by decide, by decide, by decide, by decide, by decide, by decide⟩⟩
      have s26 := ((s3.trans s4).trans s5).trans s6
      have hq : TmsAt K H6 [p3, p4, p5] [⟨1, 1, 3, 4⟩, ⟨-1, 1, 19, 20⟩, ⟨1, 1, 99, 100⟩] := ((TmsAt.nil.snoc (SqT.of (show H6 p3 = some (.tup (tmV ⟨1, 1, 3, 4⟩)) from ((s4.trans s5).trans s6) _ _ t3))).snoc (SqT.of (show H6 p4 = some (.tup (tmV ⟨-1, 1, 19, 20⟩)) from (s5.trans s6) _ _ t4))).snoc (SqT.of (show H6 p5 = some (.tup (tmV ⟨1, 1, 99, 100⟩)) from s6 _ _ t5))
      refine k_mkSun (v := .ref p6) (ls := [3, 2, 4, 2]) rfl (SqL.of (s26 _ _ t2)) (.inr ⟨p6, rfl, [p3, p4, p5], SqL.of t6, hq⟩) sok (hT1.ext (s2.trans s26)) fun x H7 hx7 s7 hs => ?_
      walk_at "go"
      exact q x H7 (.sun st _ 2 _) ((SameT.of (s1.trans (s2.trans s26))).trans s7) (SunAt.mono own_to hs) sok (Int.le_trans (sun_dysL sok.ok (A := 14) (B := 100) (by decide) (by decide) (by decide) (by decide)) (by decide)) st0 st1
    walk_at "go"
    have hm0 : 1 ≤ 1 + c2 / 16 % 4 := by omega
    have hm1 : 1 + c2 / 16 % 4 ≤ 4 := by omega
    generalize 1 + c2 / 16 % 4 = m at *
    rename_i p2 H2 hn2 s2 t2
    have hS2 := same_l s2 hS1
    have hD0 : H p2 = none := s1.free hn2
    with_reducible apply k_seqF
    with_reducible apply k_for
    walk_at "go"
    refine for_range (fun i σ' H' => ∃ (v3 : Option V) (r : Int) (ls : List Int), σ' = [some (.ref a), some (.int st), some (.int c2), v3, some (.int m), some (.int r), some (.ref p2), none, none, none] ∧ Same H1 H' ∧ H' p2 = some (.lst (ls.map V.int)) ∧ ls.length = i ∧ ∀ x ∈ ls, 0 ≤ x ∧ x ≤ 12) ⟨none, c2 / 64, [], rfl, s2, t2, rfl, by simp⟩ (fun i σ' H' hi hW => ?_) (fun σ' H' hW => ?_)
    · obtain ⟨v3, r, ls, rfl, s3, t3, hl, hb0⟩ := hW
      walk_at "go"
      rename_i H4 m4 t4
      refine ⟨_, _, ls ++ [r % 13], rfl, m4.same s3 hn2, by rw [t4, List.map_append]; rfl, by rw [List.length_append, hl]; rfl, fun x hx => ?_⟩
      rcases List.mem_append.mp hx with h | h
      · exact hb0 x h
      · rw [List.mem_singleton.mp h]; omega
    obtain ⟨v3, r, ls, rfl, s3, t3, hl, hb0⟩ := hW
    have hS3 := same_l s3 hS1
    have hlm : (ls.length : Int) = m := by omega
    walk_at "go"
    rename_i c3 _ sc3
    have l0 := Int.emod_nonneg c3 (show m ≠ 0 by omega)
    have l1 := Int.emod_lt_of_pos c3 (show 0 < m by omega)
    have lp0 : 1 ≤ 1 + c3 % m := by omega
    have lp1 : 1 + c3 % m ≤ ls.length := by omega
    generalize 1 + c3 % m = lp at *
    refine k_ixL (SqL.of t3) (atI_getD (ls := ls) (i := lp - 1) (by omega) (by omega)) ?_
    have hgb := pick_all (P := fun z => 0 ≤ z ∧ z ≤ 12) (l := ls) (i := lp - 1) (by omega) (by omega) hb0
    walk_at "go"
    refine k_setV t3 (j := (lp - 1).toNat) (by unfold ixN; rw [if_pos (by omega), if_pos (by rw [List.length_map]; omega)]) fun H4 m4 t4 => ?_
    rw [map_set] at t4
    have s14 : Same H1 H4 := m4.same s3 hn2
    have sc12 : Sm 1048576 (c3 / 12) := sm_quot sc3
    have sc4000 : Sm 1048576 (c3 / 4000) := sm_quot sc3
    walk_at "go"
    refine k_Lterm sc12 (by decide) (by decide) fun p5 H5 u5 s5 t5 ok5 n5 => ?_
    walk_at "go"
    refine k_Lterm sc4000 (by decide) (by decide) fun p6 H6 u6 s6 t6 ok6 n6 => ?_
    walk_at "go"
    rename_i p7 H7 hn7 s7 t7 p8 H8 hn8 s8 t8
    have hq0 : TmsAt K H8 [p5, p6] [u5, u6] := (TmsAt.nil.snoc (SqT.of (((s6.trans s7).trans s8) _ _ t5))).snoc (SqT.of ((s7.trans s8) _ _ t6))
    have hok0 : ∀ t ∈ [u5, u6], TmOk t ∧ t.n ≤ 4 := fun t ht => by
      simp only [List.mem_cons, List.not_mem_nil, or_false] at ht
      rcases ht with rfl | rfl
      · exact ⟨ok5, n5⟩
      · exact ⟨ok6, n6⟩
    have k0 : 0 ≤ c3 / 4 % 3 := by omega
    obtain ⟨qs9, ts9, e9, hq9, hl9, hm9⟩ := cut_tms hq0 none (some (c3 / 4 % 3))
    rw [show ([V.ref p5, V.ref p6] : List V) = [p5, p6].map V.ref from rfl, e9] at t8
    have hok9 : ∀ t ∈ ts9, TmOk t ∧ t.n ≤ 4 := fun t ht => hok0 t (hm9 t ht)
    have hl92 : ts9.length ≤ 2 := hl9
    have s48 := ((s5.trans s6).trans s7).trans s8
    have fb := falls_bd ts9
    generalize hg : ls.getD (lp - 1).toNat 0 = g at *
    have sok : SunOk (ls.set (lp - 1).toNat (g + 3)) lp ts9 := sunOk_set (by omega) (by omega) (fun x hx => by have := hb0 x hx; omega) lp0 lp1 (by omega) (by omega) (by omega) (fun t ht => (hok9 t ht).1)
    have hsb := sum_bd (ls := ls.set (lp - 1).toNat (g + 3)) (B := 15) (fun x hx => by
      rcases List.mem_or_eq_of_mem_set hx with h | h
      · have := hb0 x h; omega
      · omega)
    rw [List.length_set] at hsb
    have hpt := perT_le hok9 hl92
    generalize ls.set (lp - 1).toNat (g + 3) = ls9 at *
    refine k_mkSun (v := .ref p8) rfl (SqL.of (s48 _ _ t4)) (.inr ⟨p8, rfl, qs9, SqL.of t8, hq9⟩) sok (hT1.ext (s14.trans s48)) fun x H9 hx9 s9 hs => ?_
    walk_at "go"
    exact q x H9 (.sun st ls9 lp ts9) ((SameT.of (s1.trans (s14.trans s48))).trans s9) (SunAt.mono own_to hs) sok (Int.le_trans (sun_dysL (fun t ht => (hok9 t ht).1) (A := 62) (B := 16) (by omega) (by omega) (by omega) (by omega)) (by decide)) st0 st1
theorem k_Lsun {T : Txt K mg base} {H : Hp} {Q : VK} {E : XK} {a : Addr} {ns : List Int} (hS : SqL K H a (ns.map V.int)) (hb : ∀ z ∈ ns, Builtin.Int.intBits z ≤ 1048576) (hT : NdefX.TabsN (NT T.ct_counter) H)
  (q : ∀ (x : Addr) (H' : Hp) (cal : Cal), SameT (NT T.ct_counter) H H' → CalAt K T.C_Sun T.C_Moon T.C_Measure H' x cal → cal.Ok → cal.dys ≤ 4000 → -10000000000000000000000000000000000000000 ≤ cal.st → cal.st ≤ 10000000000000000000000000000000000000000 → Q (.ref x) H') : sp_Lsun K T [.ref a] H Q E := ⟨a, ns, rfl, hS, hb, hT, q⟩

/-! ### _law_wanted -/
def sp_Lwanted (K : PySem.W.Frag) : Sp := fun vs H Q _ => ∃ (a : Addr) (ns : List Int), vs = [.ref a] ∧ SqL K H a (ns.map V.int) ∧ (∀ z ∈ ns, Builtin.Int.intBits z ≤ 1048576) ∧
  ∀ (p : Addr) (H' : Hp) (mo da : Option Int) (st re : Int), Same H H' → H' p = some (.tup [optV mo, optV da, .int st, .int re]) → (∀ v, mo = some v → 1 ≤ v) → da ≠ some 0 → 1 ≤ st → st ≤ 4 → -10000000000000000000000000000000000000000 ≤ re → re ≤ 10000000000000000000000000000000000000000 → Q (.ref p) H'
theorem ok_Lwanted (T : Txt K mg base) : FnOk P w K mg base CX0 2 T.a_Lwanted T.fd_Lwanted ["_law_script"] (sp_Lwanted K) := by
  refine T.F_Lwanted.ok sc_Lwanted (fun vs H Q E h => ?_) (fun cdv A outer s H vs Q E hr h => ?_)
  · obtain ⟨_, _, rfl, _⟩ := h; rfl
  · obtain ⟨a, ns, rfl, hS, hb, q⟩ := h
    have hu := hr.units
    refine ⟨_, (pss_cons (ps_set (i := 1) sc_Lwanted.nd rfl (Or.inl rfl) (pe_call (ok_Lcell_at T) (hr.mono (by decide)) (by rfl) T.g_Lcell_at T.F_Lcell_at.kp T.b_Lcell_at .nil pass0 (pa_cons (pv 0) (pa_cons pe_int pa_nil))))
        (pss_cons (ps_set (i := 2) sc_Lwanted.nd rfl (Or.inl rfl) (pe_ix (kb_ix K) (pe_lst (pa_cons pe_non (pa_cons (pe_op op_addA pe_int (pe_op op_mod (pe_op op_fdivW (pv 1) pe_int) pe_int)) (pa_cons (pe_op op_addA pe_int (pe_op op_mod (pe_op op_fdivW (pv 1) pe_int) pe_int)) (pa_cons (pe_op op_addA pe_int (pe_op op_mod (pe_op op_fdivW (pv 1) pe_int) (pe_powc (n := 10000000000000000000000000000000000000000) (by decide +kernel)))) pa_nil))))) (pe_op op_mod (pv 1) pe_int) (fun _ _ => rfl)))
        (pss_cons (ps_set (i := 1) sc_Lwanted.nd rfl (Or.inl rfl) (pe_call (ok_Lcell_at T) (hr.mono (by decide)) (by rfl) T.g_Lcell_at T.F_Lcell_at.kp T.b_Lcell_at .nil pass0 (pa_cons (pv 0) (pa_cons pe_int pa_nil))))
        (pss_cons (ps_set (i := 3) sc_Lwanted.nd rfl (Or.inl rfl) (pe_op op_mod (pe_op op_fdivW (pv 1) pe_int) (pe_ix (kb_ix K) (pe_lst (pa_cons pe_int (pa_cons pe_int (pa_cons pe_int (pa_cons pe_int pa_nil))))) (pe_op op_mod (pe_op op_fdivW (pv 1) pe_int) pe_int) (fun _ _ => rfl))))
        (pss_cons (ps_set (i := 4) sc_Lwanted.nd rfl (Or.inl rfl) (pe_ix (kb_ix K) (pe_lst (pa_cons pe_non (pa_cons (pe_op op_addA pe_int (pv 3)) (pa_cons (pe_op op_sub (pe_un un_neg pe_int) (pv 3)) (pa_cons (pe_ix (kb_ix K) (pe_lst (pa_cons (pe_un un_neg pe_int) (pa_cons (pe_powc (n := 10000000000000000000000000000000000000000) (by decide +kernel)) (pa_cons (pe_un un_neg (pe_powc (n := 10000000000000000000000000000000000000000) (by decide +kernel))) (pa_cons pe_int pa_nil))))) (pe_op op_mod (pv 3) pe_int) (fun _ _ => rfl)) pa_nil))))) (pe_op op_mod (pv 1) pe_int) (fun _ _ => rfl)))
        (pss_cons (ps_set (i := 1) sc_Lwanted.nd rfl (Or.inl rfl) (pe_call (ok_Lcell_at T) (hr.mono (by decide)) (by rfl) T.g_Lcell_at T.F_Lcell_at.kp T.b_Lcell_at .nil pass0 (pa_cons (pv 0) (pa_cons pe_int pa_nil))))
        (pss_one (ps_ret (pe_tup (pa_cons (pv 2) (pa_cons (pv 4) (pa_cons (pe_op op_addA pe_int (pe_op op_mod (pv 1) pe_int)) (pa_cons (pe_call (ok_Lnumber T) (hr.mono (by decide)) (by rfl) T.g_Lnumber T.F_Lnumber.kp T.b_Lnumber .nil pass0 (pa_cons (pe_op op_fdivW (pv 1) pe_int) pa_nil)) pa_nil))))))))))))), ?_⟩
    walk_at "go"
    rename_i c4 _ sc4 p1 H1 hn1 s1 t1
    obtain ⟨zm, ⟨mo, rfl, hmo⟩, hzm⟩ := atI_allW (P := fun z => ∃ mo : Option Int, z = optV mo ∧ ∀ v, mo = some v → 1 ≤ v) (l := [.non, .int (1 + c4 / 4 % 5), .int (1 + c4 / 4 % 21), .int (1 + c4 / 4 % 10000000000000000000000000000000000000000)]) (i := c4 % 4) (by omega) (by show c4 % 4 < 4; omega) (fun z hz => by
      simp only [List.mem_cons, List.not_mem_nil, or_false] at hz
      rcases hz with rfl | rfl | rfl | rfl
      · exact ⟨none, rfl, fun v h => by cases h⟩
      · exact ⟨some _, rfl, fun v h => by cases h; omega⟩
      · exact ⟨some _, rfl, fun v h => by cases h; omega⟩
      · exact ⟨some _, rfl, fun v h => by cases h; omega⟩)
    refine k_ixL (SqL.of t1) hzm ?_
    have hS1 := same_l s1 hS
    walk_at "go"
    rename_i c5 _ sc5 p2 H2 hn2 s2 t2
    obtain ⟨w, ⟨w0, w1⟩, hw⟩ := atI_all (P := fun z => 1 ≤ z ∧ z ≤ 1001) (l := [15, 15, 32, 1001]) (i := c5 / 4 % 4) (by omega) (by show c5 / 4 % 4 < 4; omega) (by decide)
    refine k_ixL (SqL.of t2) hw ?_
    have f0 := Int.emod_nonneg (c5 / 16) (show w ≠ 0 by omega)
    have f1 := Int.emod_lt_of_pos (c5 / 16) (show 0 < w by omega)
    have hS2 := same_l s2 hS1
    walk_at "go"
    generalize c5 / 16 % w = F at *
    rename_i p3 H3 hn3 s3 t3
    obtain ⟨w2, w20, hw2⟩ := atI_all (P := fun z => z ≠ 0) (l := [-1, 10000000000000000000000000000000000000000, -10000000000000000000000000000000000000000, 1]) (i := F % 4) (by omega) (by show F % 4 < 4; omega) (by decide)
    refine k_ixL (SqL.of t3) hw2 ?_
    walk_at "go"
    rename_i p4 H4 hn4 s4 t4
    obtain ⟨zd, ⟨da, rfl, hda⟩, hzd⟩ := atI_allW (P := fun z => ∃ da : Option Int, z = optV da ∧ da ≠ some 0) (l := [.non, .int (1 + F), .int (-1 - F), .int w2]) (i := c5 % 4) (by omega) (by show c5 % 4 < 4; omega) (fun z hz => by
      simp only [List.mem_cons, List.not_mem_nil, or_false] at hz
      rcases hz with rfl | rfl | rfl | rfl
      · exact ⟨none, rfl, fun h => by cases h⟩
      · exact ⟨some _, rfl, fun h => by have := Option.some.inj h; omega⟩
      · exact ⟨some _, rfl, fun h => by have := Option.some.inj h; omega⟩
      · exact ⟨some _, rfl, fun h => w20 (Option.some.inj h)⟩)
    refine k_ixL (SqL.of t4) hzd ?_
    have hS4 := same_l (s3.trans s4) hS2
    walk_at "go"
    rename_i c6 _ sc6
    refine k_Lnumber fun re H5 s5 r0 r1 => ?_
    walk_at "go"
    rename_i p6 H6 hn6 s6 t6
    exact q p6 H6 mo da _ re (((((s1.trans s2).trans s3).trans s4).trans s5).trans s6) t6 hmo hda (by omega) (by omega) r0 r1
theorem k_Lwanted {K : PySem.W.Frag} {H : Hp} {Q : VK} {E : XK} {a : Addr} {ns : List Int} (hS : SqL K H a (ns.map V.int)) (hb : ∀ z ∈ ns, Builtin.Int.intBits z ≤ 1048576)
  (q : ∀ (p : Addr) (H' : Hp) (mo da : Option Int) (st re : Int), Same H H' → H' p = some (.tup [optV mo, optV da, .int st, .int re]) → (∀ v, mo = some v → 1 ≤ v) → da ≠ some 0 → 1 ≤ st → st ≤ 4 → -10000000000000000000000000000000000000000 ≤ re → re ≤ 10000000000000000000000000000000000000000 → Q (.ref p) H') : sp_Lwanted K [.ref a] H Q E := ⟨a, ns, rfl, hS, hb, q⟩

/-! ### Sun.cycle -/
def sp_Sun_cycle (K : PySem.W.Frag) (T : Txt K mg base) : Sp := fun vs H Q _ => ∃ (c : Addr) (st : Int) (ls : List Int) (lp : Int) (ts : List Tm), vs = [.ref c] ∧ SunAt K T.C_Sun T.C_Measure H c st ls lp ts ∧ SunOk ls lp ts ∧ NdefX.TabsN (NT T.ct_counter) H ∧
  ∀ (p : Addr) (H' : Hp), New H p → SameT (NT T.ct_counter) H H' → H' p = some (.tup [.int (perT ts), .int (uptoM ls.sum ts (perT ts))]) → Q (.ref p) H'
theorem ok_Sun_cycle (T : Txt K mg base) : FnOk P w K mg base CX0 4 T.a_Sun_cycle T.fd_Sun_cycle ["self"] (sp_Sun_cycle K T) := by
  refine T.F_Sun_cycle.ok sc_Sun_cycle (fun vs H Q E h => ?_) (fun cdv A outer s H vs Q E hr h => ?_)
  · obtain ⟨_, _, _, _, _, rfl, _⟩ := h; rfl
  · obtain ⟨c, st, ls, lp, ts, rfl, ⟨dx, pm, py, hc, hm, hy⟩, ok, hT, q⟩ := h
    have hu := hr.units
    have mo := ok.meas
    have hl := mo.len
    obtain ⟨p1, p2⟩ := per_bd mo
    obtain ⟨dy, ly, hyi, hyt⟩ := id hy
    refine ⟨_, (pss_cons (ps_set (i := 1) sc_Sun_cycle.nd rfl (Or.inl rfl) (pe_meth0 (pe_fld (pv 0) rfl) T.cl_Measure T.me_Measure_period (ok_Measure_period T) (hr.mono (by decide)) T.b_Measure_period .nil pass0))
        (pss_one (ps_ret (pe_tup (pa_cons (pv 1) (pa_cons (pe_meth (pe_fld (pv 0) rfl) T.cl_Measure T.me_Measure_upto (ok_Measure_upto T) (hr.mono (by decide)) T.b_Measure_upto .nil pass0 (pa_cons (pv 1) pa_nil)) pa_nil)))))), ?_⟩
    walk_at "go"
    refine k_fldX hc T.cl_Sun T.na_Sun_years (sfs_years _ _ _ _) ?_
    walk_at "go"
    refine k_metX hyi (mfs_no _ _ (by decide +kernel) (by decide +kernel)) ?_
    walk_at "go"
    refine k_Measure_period hy mo.ok hl ?_
    walk_at "go"
    refine k_fldX hc T.cl_Sun T.na_Sun_years (sfs_years _ _ _ _) ?_
    walk_at "go"
    refine k_metX hyi (mfs_no _ _ (by decide +kernel) (by decide +kernel)) ?_
    walk_at "go"
    refine k_Measure_upto hy mo.b0 mo.b1 mo.ok (by omega) (sm_mono (sm41 (by omega) (by omega)) (by decide)) hT fun H1 s1 => ?_
    walk_at "go"
    rename_i p H2 hn2 s2 t2
    exact q p H2 ((New.of hn2).back s1) (s1.trans (.of s2)) t2
theorem k_Sun_cycle {T : Txt K mg base} {H : Hp} {Q : VK} {E : XK} {c : Addr} {st : Int} {ls : List Int} {lp : Int} {ts : List Tm} (h : SunAt K T.C_Sun T.C_Measure H c st ls lp ts) (ok : SunOk ls lp ts) (hT : NdefX.TabsN (NT T.ct_counter) H)
    (q : ∀ (p : Addr) (H' : Hp), New H p → SameT (NT T.ct_counter) H H' → H' p = some (.tup [.int (perT ts), .int (uptoM ls.sum ts (perT ts))]) → Q (.ref p) H') : sp_Sun_cycle K T [.ref c] H Q E := ⟨c, st, ls, lp, ts, rfl, h, ok, hT, q⟩

/-! ### Moon.cycle -/
def sp_Moon_cycle (K : PySem.W.Frag) (T : Txt K mg base) : Sp := fun vs H Q _ => ∃ (c : Addr) (st b1 : Int) (t1 : List Tm) (b2 : Int) (t2 : List Tm), vs = [.ref c] ∧ MoonAt K T.C_Moon T.C_Measure H c st b1 t1 b2 t2 ∧ MoonOk b1 t1 b2 t2 ∧ NdefX.TabsN (NT T.ct_counter) H ∧
  ∀ (p : Addr) (H' : Hp), New H p → SameT (NT T.ct_counter) H H' → H' p = some (.tup [.int (perT t2 * moonF b2 t1 t2), .int (uptoM b1 t1 (uptoM b2 t2 (perT t2) * moonF b2 t1 t2))]) → Q (.ref p) H'
theorem ok_Moon_cycle (T : Txt K mg base) : FnOk P w K mg base CX0 4 T.a_Moon_cycle T.fd_Moon_cycle ["self"] (sp_Moon_cycle K T) := by
  refine T.F_Moon_cycle.ok sc_Moon_cycle (fun vs H Q E h => ?_) (fun cdv A outer s H vs Q E hr h => ?_)
  · obtain ⟨_, _, _, _, _, _, rfl, _⟩ := h; rfl
  · obtain ⟨c, st, b1, t1, b2, t2, rfl, hx, ok, hT, q⟩ := h
    have hu := hr.units
    have l1 := ok.m1.len
    have l2 := ok.m2.len
    obtain ⟨dx, pd, pm, hc, hd, hm⟩ := id hx
    obtain ⟨dm, lm, hmi, hmt⟩ := id hm
    obtain ⟨p1, p2⟩ := per_bd ok.m1
    obtain ⟨q1, q2⟩ := per_bd ok.m2
    obtain ⟨u1, u2⟩ := per_upto ok.m2
    have g1 := gcd_pos (b := uptoM b2 t2 (perT t2)) p1
    have g2 := gcd_le (b := uptoM b2 t2 (perT t2)) p1
    obtain ⟨f1, f2⟩ := moonF_bd ok
    have mb := mul_bd u1 u2 f1 (show moonF b2 t1 t2 ≤ 1000000000000000000 by omega)
    refine ⟨_, (pss_cons (ps_set (i := 1) sc_Moon_cycle.nd rfl (Or.inl rfl) (pe_meth0 (pe_fld (pv 0) rfl) T.cl_Measure T.me_Measure_period (ok_Measure_period T) (hr.mono (by decide)) T.b_Measure_period .nil pass0))
        (pss_cons (ps_set (i := 2) sc_Moon_cycle.nd rfl (Or.inl rfl) (pe_meth (pe_fld (pv 0) rfl) T.cl_Measure T.me_Measure_upto (ok_Measure_upto T) (hr.mono (by decide)) T.b_Measure_upto .nil pass0 (pa_cons (pv 1) pa_nil)))
        (pss_cons (ps_set (i := 3) sc_Moon_cycle.nd rfl (Or.inl rfl) (pe_meth0 (pe_fld (pv 0) rfl) T.cl_Measure T.me_Measure_period (ok_Measure_period T) (hr.mono (by decide)) T.b_Measure_period .nil pass0))
        (pss_cons (ps_set (i := 4) sc_Moon_cycle.nd rfl (Or.inl rfl) (pe_op op_fdivW (pv 3) (pe_call (ok_divisor T) (hr.mono (by decide)) (by rfl) T.g_divisor T.F_divisor.kp T.b_divisor .nil pass0 (pa_cons (pv 3) (pa_cons (pv 2) pa_nil)))))
        (pss_one (ps_ret (pe_tup (pa_cons (pe_op op_mulX (pv 1) (pv 4)) (pa_cons (pe_meth (pe_fld (pv 0) rfl) T.cl_Measure T.me_Measure_upto (ok_Measure_upto T) (hr.mono (by decide)) T.b_Measure_upto .nil pass0 (pa_cons (pe_op op_mulX (pv 2) (pv 4)) pa_nil)) pa_nil))))))))), ?_⟩
    walk_at "go"
    refine k_fldX hc T.cl_Moon T.na_Moon_many (mofs_many _ _ _) ?_
    walk_at "go"
    refine k_metX hmi (mfs_no _ _ (by decide +kernel) (by decide +kernel)) ?_
    walk_at "go"
    refine k_Measure_period hm ok.m2.ok l2 ?_
    walk_at "go"
    refine k_fldX hc T.cl_Moon T.na_Moon_many (mofs_many _ _ _) ?_
    walk_at "go"
    refine k_metX hmi (mfs_no _ _ (by decide +kernel) (by decide +kernel)) ?_
    walk_at "go"
    refine k_Measure_upto hm ok.m2.b0 ok.m2.b1 ok.m2.ok (by omega) (sm_mono (sm41 (by omega) (by omega)) (by decide)) hT fun H1 s1 => ?_
    obtain ⟨dx1, pd1, pm1, hc1, hd1, hm1⟩ := hx.mono s1
    obtain ⟨dd1, ld1, hdi1, hdt1⟩ := id hd1
    have hT1 := s1.tab hT
    walk_at "go"
    refine k_fldX hc1 T.cl_Moon T.na_Moon_days (mofs_days _ _ _) ?_
    walk_at "go"
    refine k_metX hdi1 (mfs_no _ _ (by decide +kernel) (by decide +kernel)) ?_
    walk_at "go"
    refine k_Measure_period hd1 ok.m1.ok l1 ?_
    walk_at "go"
    rw [show perT t1 / ((Int.gcd (perT t1) (uptoM b2 t2 (perT t2)) : Nat) : Int) = moonF b2 t1 t2 from rfl]
    generalize hF : moonF b2 t1 t2 = F at *
    generalize hM : uptoM b2 t2 (perT t2) = M at *
    generalize hP : perT t2 = P at *
    walk_at "go"
    refine k_fldX hc1 T.cl_Moon T.na_Moon_days (mofs_days _ _ _) ?_
    walk_at "go"
    refine k_metX hdi1 (mfs_no _ _ (by decide +kernel) (by decide +kernel)) ?_
    walk_at "go"
    refine k_Measure_upto hd1 ok.m1.b0 ok.m1.b1 ok.m1.ok (by omega) (sm_mono (sm41 (i := M * F) (by omega) (by omega)) (by decide)) hT1 fun H2 s2 => ?_
    walk_at "go"
    rename_i p H3 hn3 s3 t3
    have s12 := s1.trans s2
    exact q p H3 ((New.of hn3).back s12) (s12.trans (.of s3)) t3
theorem k_Moon_cycle {T : Txt K mg base} {H : Hp} {Q : VK} {E : XK} {c : Addr} {st b1 : Int} {t1 : List Tm} {b2 : Int} {t2 : List Tm} (h : MoonAt K T.C_Moon T.C_Measure H c st b1 t1 b2 t2) (ok : MoonOk b1 t1 b2 t2) (hT : NdefX.TabsN (NT T.ct_counter) H)
    (q : ∀ (p : Addr) (H' : Hp), New H p → SameT (NT T.ct_counter) H H' → H' p = some (.tup [.int (perT t2 * moonF b2 t1 t2), .int (uptoM b1 t1 (uptoM b2 t2 (perT t2) * moonF b2 t1 t2))]) → Q (.ref p) H') : sp_Moon_cycle K T [.ref c] H Q E := ⟨c, st, b1, t1, b2, t2, rfl, h, ok, hT, q⟩

theorem k_Cal_cycle {T : Txt K mg base} {H : Hp} {Q : VK} {E : XK} {c : Addr} {cal : Cal} (h : CalAt K T.C_Sun T.C_Moon T.C_Measure H c cal) (ok : cal.Ok) (hT : NdefX.TabsN (NT T.ct_counter) H)
    (q : ∀ (p : Addr) (H' : Hp), New H p → SameT (NT T.ct_counter) H H' → H' p = some (.tup [.int cal.yrs, .int cal.dys]) → Q (.ref p) H') : SpC cal (sp_Sun_cycle K T) (sp_Moon_cycle K T) [.ref c] H Q E := by
  cases cal with
  | sun => exact k_Sun_cycle (E := E) h ok hT q
  | moon => exact k_Moon_cycle (E := E) h ok hT q

/-! ### allowed -/
def sp_allowed (K : PySem.W.Frag) : Sp := fun vs H Q _ => ∃ i, vs = [.int i] ∧ 1 ≤ i ∧ i ≤ 150000 ∧ Q .non H
theorem ok_allowed (T : Txt K mg base) : FnOk P w K mg base CX0 1 T.a_allowed T.fd_allowed ["size"] (sp_allowed K) := by
  refine T.F_allowed.ok sc_allowed (fun vs H Q E h => ?_) (fun cdv A outer s H vs Q E hr h => ?_)
  · obtain ⟨i, rfl, _⟩ := h; rfl
  · obtain ⟨i, rfl, h1, h2, q⟩ := h
    refine ⟨_, (pss_cons (ps_if (pt_cmpR op_lt (pv 0) pe_int (nomark _)) (pss_one ps_never) pss_nil)
        (pss_one (ps_if (pt_cmpR op_gt (pv 0) (pe_glob (v := (.int 150000)) rfl T.c_LIMIT ⟨_, rfl⟩) (nomark _)) (pss_one ps_never) pss_nil))), ?_⟩
    walk_at "run"
    exact q
theorem k_allowed {H : Hp} {Q : VK} {E : XK} {i : Int} (h1 : 1 ≤ i) (h2 : i ≤ 150000) (q : Q .non H) : sp_allowed K [.int i] H Q E := ⟨i, rfl, h1, h2, q⟩
local macro_rules | `(tactic| walk_at "st") => `(tactic| first | ((with_reducible apply k_allowed); (· omega); (· omega)) | fail)

/-! ### term_on -/
def sp_term_on (K : PySem.W.Frag) : Sp := fun vs H Q _ => ∃ (p : Addr) (t : Tm) (k : Int), vs = [.ref p, .int k] ∧ SqT K H p (tmV t) ∧ TmOk t ∧ Sm 5000 k ∧ Q (.bl (decide (t.n ≤ (t.a * k + t.b) % t.n + t.a))) H
theorem ok_term_on (T : Txt K mg base) : FnOk P w K mg base CX0 1 T.a_term_on T.fd_term_on ["term", "k"] (sp_term_on K) := by
  refine T.F_term_on.ok sc_term_on (fun vs H Q E h => ?_) (fun cdv A outer s H vs Q E hr h => ?_)
  · obtain ⟨_, _, _, rfl, _⟩ := h; rfl
  · obtain ⟨p, t, k, rfl, htq, ok, sk, q⟩ := h
    have hu := hr.units
    have ht4 : SqT K H p [.int t.s, .int t.a, .int t.b, .int t.n] := htq
    have hn1 := ok.n1
    have hn2 := ok.n2
    have ha0 := ok.a0
    have han := ok.an
    have hb0 := ok.b0
    have hbn := ok.bn
    refine ⟨_, (pss_cons (ps_set (i := 2) sc_term_on.nd rfl (Or.inl rfl) (pe_ix (kb_ix K) (pv 0) pe_int (fun _ _ => rfl)))
        (pss_cons (ps_set (i := 3) sc_term_on.nd rfl (Or.inl rfl) (pe_ix (kb_ix K) (pv 0) pe_int (fun _ _ => rfl)))
        (pss_one (ps_ret (pe_cmpR op_ge (pe_op op_addA (pe_op op_mod (pe_op op_addA (pe_op op_mulX (pv 2) (pv 1)) (pe_ix (kb_ix K) (pv 0) pe_int (fun _ _ => rfl))) (pv 3)) (pv 2)) (pv 3) (nomark _)))))), ?_⟩
    walk_at "go"
    exact q
theorem k_term_on {K : PySem.W.Frag} {H : Hp} {Q : VK} {E : XK} {p : Addr} {t : Tm} {k : Int} (h : SqT K H p (tmV t)) (ok : TmOk t) (sk : Sm 5000 k) (q : Q (.bl (decide (t.n ≤ (t.a * k + t.b) % t.n + t.a))) H) : sp_term_on K [.ref p, .int k] H Q E := ⟨p, t, k, rfl, h, ok, sk, q⟩

/-! ### Measure.at -/
def sp_Measure_at (K : PySem.W.Frag) (T : Txt K mg base) : Sp := fun vs H Q _ => ∃ (m : Addr) (b : Int) (ts : List Tm) (k : Int), vs = [.ref m, .int k] ∧ MeasAt K T.C_Measure H m b ts ∧ (∀ t ∈ ts, TmOk t) ∧ Sm 5000 k ∧ Q (.int (atM b ts k)) H
theorem ok_Measure_at (T : Txt K mg base) : FnOk P w K mg base CX0 2 T.a_Measure_at T.fd_Measure_at ["self", "k"] (sp_Measure_at K T) := by
  refine T.F_Measure_at.ok sc_Measure_at (fun vs H Q E h => ?_) (fun cdv A outer s H vs Q E hr h => ?_)
  · obtain ⟨_, _, _, _, rfl, _⟩ := h; rfl
  · obtain ⟨m, b, ts, k, rfl, ⟨dx, l, hm, qs, hS, hq⟩, hok, sk, q⟩ := h
    have hu := hr.units
    refine ⟨_, (pss_cons (ps_set (i := 2) sc_Measure_at.nd rfl (Or.inl rfl) (pe_fld (pv 0) rfl))
        (pss_cons (ps_for PassesOwn.never rfl (pi_list (pe_fld (pv 0) rfl)) (pg_name (i := 3) sc_Measure_at.nd rfl (Or.inl rfl)) (pss_one (ps_if (pt_val (pe_call (ok_term_on T) (hr.mono (by decide)) (by rfl) T.g_term_on T.F_term_on.kp T.b_term_on .nil pass0 (pa_cons (pv 3) (pa_cons (pv 1) pa_nil)))) (pss_one (ps_set (i := 2) sc_Measure_at.nd rfl (Or.inl rfl) (pe_op op_addA (pv 2) (pe_ix (kb_ix K) (pv 3) pe_int (fun _ _ => rfl))))) pss_nil)))
        (pss_one (ps_ret (pv 2))))), ?_⟩
    walk_at "go"
    refine k_fldX hm T.cl_Measure T.na_Measure_base (mfs_base _ _) ?_
    walk_at "go"
    with_reducible apply k_seqF
    with_reducible apply k_for
    walk_at "go"
    refine k_fldX hm T.cl_Measure T.na_Measure_terms (mfs_terms _ _) ?_
    walk_at "go"
    have hlq := hq.1
    refine for_list (xs := qs.map V.ref) (fun i σ' H' => ∃ v : Option V, σ' = [some (.ref m), some (.int k), some (.int (b + riseT (ts.take i) k)), v] ∧ H = H') ⟨none, by simp [riseT]; rfl, rfl⟩
      (fun i σ' H' _ hW => by obtain ⟨_, _, rfl⟩ := hW; exact hS) (fun i y σ' H' hy hW => ?_) (fun σ' H' hW => ?_)
    · obtain ⟨_, rfl, rfl⟩ := hW
      rw [List.getElem?_map] at hy
      obtain ⟨p, hp, rfl⟩ := Option.map_eq_some_iff.mp hy
      have hi : i < ts.length := by
        have := (List.getElem?_eq_some_iff.mp hp).1
        omega
      have ht := List.getElem?_eq_getElem hi
      have htq := hq.2 i p _ hp ht
      have ok := hok _ (List.getElem_mem hi)
      have es := riseT_snoc (k := k) ht
      generalize ts[i] = t at *
      have ht4 : SqT K H p [.int t.s, .int t.a, .int t.b, .int t.n] := htq
      have hon := rise_on ok k
      have hrb := riseM_bd ok k
      walk_at "go"
      with_reducible apply k_if
      walk_at "go"
      refine k_term_on htq ok sk ?_
      walk_at "go"
      refine if_dec (fun h => ?_) (fun h => ?_)
      · walk_at "go"
        exact ⟨_, by rw [es, hon.mp h, Int.mul_one, ← Int.add_assoc]; rfl, rfl⟩
      · walk_at "go"
        have h0 : riseM t k = 0 := by
          have := fun e => h (hon.mpr e)
          omega
        exact ⟨_, by rw [es, h0, Int.mul_zero, Int.add_zero]; rfl, rfl⟩
    · obtain ⟨_, rfl, rfl⟩ := hW
      rw [List.length_map, hlq, List.take_of_length_le (Nat.le_refl _)]
      walk_at "go"
      exact q
theorem k_Measure_at {T : Txt K mg base} {H : Hp} {Q : VK} {E : XK} {m : Addr} {b : Int} {ts : List Tm} {k : Int} (h : MeasAt K T.C_Measure H m b ts) (hok : ∀ t ∈ ts, TmOk t) (sk : Sm 5000 k) (q : Q (.int (atM b ts k)) H) : sp_Measure_at K T [.ref m, .int k] H Q E := ⟨m, b, ts, k, rfl, h, hok, sk, q⟩

/-! ### Sun.lengths -/
def sp_Sun_lengths (K : PySem.W.Frag) (T : Txt K mg base) : Sp := fun vs H Q _ => ∃ (c : Addr) (st : Int) (ls : List Int) (lp : Int) (ts : List Tm) (y : Int), vs = [.ref c, .int y] ∧ SunAt K T.C_Sun T.C_Measure H c st ls lp ts ∧ SunOk ls lp ts ∧ Sm 5000 y ∧
  ∀ (p : Addr) (H' : Hp), H p = none → Same H H' → H' p = some (.lst ((lensS ls lp ts y).map V.int)) → Q (.ref p) H'
theorem ok_Sun_lengths (T : Txt K mg base) : FnOk P w K mg base CX0 3 T.a_Sun_lengths T.fd_Sun_lengths ["self", "year"] (sp_Sun_lengths K T) := by
  refine T.F_Sun_lengths.ok sc_Sun_lengths (fun vs H Q E h => ?_) (fun cdv A outer s H vs Q E hr h => ?_)
  · obtain ⟨_, _, _, _, _, _, rfl, _⟩ := h; rfl
  · obtain ⟨c, st, ls, lp, ts, y, rfl, ⟨dx, pm, py, hc, hm, hy⟩, ok, sy, q⟩ := h
    have hu := hr.units
    have mo := ok.meas
    have h2 := ok.len20
    have h3 := ok.lp1
    have h4 := ok.lp2
    have hix := atI_getD (ls := ls) (i := lp - 1) (by omega) (by omega)
    obtain ⟨dy, ly, hyi, hyt⟩ := hy
    refine ⟨_, (pss_cons (ps_set (i := 2) sc_Sun_lengths.nd rfl (Or.inl rfl) (pe_callTy (kb_lof K rfl) (by rfl) T.n_list (by decide +kernel) (pa_cons (pe_fld (pv 0) rfl) pa_nil)))
        (pss_cons (ps_asg (pe_op op_sub (pe_op op_addA (pe_ix (kb_ix K) (pv 2) (pe_op op_sub (pe_fld (pv 0) rfl) pe_int) (fun _ _ => rfl)) (pe_meth (pe_fld (pv 0) rfl) T.cl_Measure T.me_Measure_at (ok_Measure_at T) (hr.mono (by decide)) T.b_Measure_at .nil pass0 (pa_cons (pv 1) pa_nil))) (pe_fld (pe_fld (pv 0) rfl) rfl)) (pg_sub (pv 2) (pe_op op_sub (pe_fld (pv 0) rfl) pe_int) set_list))
        (pss_one (ps_ret (pv 2))))), ?_⟩
    walk_at "go"
    refine k_fldX hc T.cl_Sun T.na_Sun_months (sfs_months _ _ _ _) ?_
    walk_at "go"
    rename_i p H1 hn1 s1 t1
    have hc1 := s1 _ _ hc
    have hyi1 := s1 _ _ hyi
    have hyt1 := hyt.mono (T := []) (.of s1)
    refine k_fldX hc1 T.cl_Sun T.na_Sun_leap (sfs_leap _ _ _ _) ?_
    walk_at "go"
    refine k_ixL (SqL.of t1) hix ?_
    walk_at "go"
    refine k_fldX hc1 T.cl_Sun T.na_Sun_years (sfs_years _ _ _ _) ?_
    walk_at "go"
    refine k_metX hyi1 (mfs_no _ _ (by decide +kernel) (by decide +kernel)) ?_
    walk_at "go"
    refine k_Measure_at ⟨dy, ly, hyi1, hyt1⟩ mo.ok sy ?_
    walk_at "go"
    refine k_fldX hc1 T.cl_Sun T.na_Sun_years (sfs_years _ _ _ _) ?_
    walk_at "go"
    refine k_fldX hyi1 T.cl_Measure T.na_Measure_base (mfs_base _ _) ?_
    walk_at "go"
    refine k_fldX hc1 T.cl_Sun T.na_Sun_leap (sfs_leap _ _ _ _) ?_
    walk_at "go"
    refine k_setV t1 (j := (lp - 1).toNat) (by unfold ixN; rw [if_pos (by omega), if_pos (by rw [List.length_map]; omega)]) fun H2 m2 t2 => ?_
    rw [map_set, show ls.getD (lp - 1).toNat 0 + atM ls.sum ts y - ls.sum = ls.getD (lp - 1).toNat 0 + riseT ts y by unfold atM; omega] at t2
    walk_at "go"
    exact q p H2 hn1 (m2.same s1 hn1) t2
theorem k_Sun_lengths {T : Txt K mg base} {H : Hp} {Q : VK} {E : XK} {c : Addr} {st : Int} {ls : List Int} {lp : Int} {ts : List Tm} {y : Int} (h : SunAt K T.C_Sun T.C_Measure H c st ls lp ts) (ok : SunOk ls lp ts) (sy : Sm 5000 y)
    (q : ∀ (p : Addr) (H' : Hp), H p = none → Same H H' → H' p = some (.lst ((lensS ls lp ts y).map V.int)) → Q (.ref p) H') : sp_Sun_lengths K T [.ref c, .int y] H Q E := ⟨c, st, ls, lp, ts, y, rfl, h, ok, sy, q⟩

/-! ### Moon.lengths -/
def sp_Moon_lengths (K : PySem.W.Frag) (T : Txt K mg base) : Sp := fun vs H Q _ => ∃ (c : Addr) (st b1 : Int) (t1 : List Tm) (b2 : Int) (t2 : List Tm) (y : Int) (n : Nat), vs = [.ref c, .int y] ∧ MoonAt K T.C_Moon T.C_Measure H c st b1 t1 b2 t2 ∧ MoonOk b1 t1 b2 t2 ∧ Sm n y ∧ n ≤ 4700 ∧ NdefX.TabsN (NT T.ct_counter) H ∧
  ∀ (p : Addr) (H' : Hp), New H p → SameT (NT T.ct_counter) H H' → H' p = some (.lst ((lensM b1 t1 b2 t2 y).map V.int)) → Q (.ref p) H'
theorem ok_Moon_lengths (T : Txt K mg base) : FnOk P w K mg base CX0 4 T.a_Moon_lengths T.fd_Moon_lengths ["self", "year"] (sp_Moon_lengths K T) := by
  refine T.F_Moon_lengths.ok sc_Moon_lengths (fun vs H Q E h => ?_) (fun cdv A outer s H vs Q E hr h => ?_)
  · obtain ⟨_, _, _, _, _, _, _, _, rfl, _⟩ := h; rfl
  · obtain ⟨c, st, b1, t1, b2, t2, y, n, rfl, hx, ok, sy, hn, hT, q⟩ := h
    have hu := hr.units
    have l1 := ok.m1.len
    have l2 := ok.m2.len
    obtain ⟨dx, pd, pm, hc, hd, hm⟩ := id hx
    obtain ⟨dm, lm, hmi, hmt⟩ := id hm
    refine ⟨_, (pss_cons (ps_set (i := 2) sc_Moon_lengths.nd rfl (Or.inr rfl) (pe_meth (pe_fld (pv 0) rfl) T.cl_Measure T.me_Measure_upto (ok_Measure_upto T) (hr.mono (by decide)) T.b_Measure_upto .nil pass0 (pa_cons (pv 1) pa_nil)))
        (pss_one (ps_ret (pe_lc (own := [("k", 3)]) (g := gName 3) (tt := tYes) rfl sc_Moon_lengths.nd (pi_range1 (by rfl) T.n_range (pa_cons (pe_meth (pe_fld (pv 0) rfl) T.cl_Measure T.me_Measure_at (ok_Measure_at T) (hr.mono (by decide)) T.b_Measure_at .nil pass0 (pa_cons (pv 1) pa_nil)) pa_nil)) (blkOk_by (N := ["self", "year", "first", "k"]) (sc := defScope s_Moon_lengths) (by decide +kernel)) (fun _ _ _ _ _ => pg_name (i := 3) sc_Moon_lengths.nd rfl (Or.inl rfl)) (fun _ _ _ _ _ => pts_nil) (fun _ _ _ _ _ => by exact (pe_meth (pe_fldK K (pv 0) rfl) T.cl_Measure T.me_Measure_at (ok_Measure_at T) (hr.mono (by decide)) T.b_Measure_at .nil pass0 (pa_cons (pe_op op_addA (pv 2) (pv 3)) pa_nil))))))), ?_⟩
    walk_at "go"
    refine k_fldX hc T.cl_Moon T.na_Moon_many (mofs_many _ _ _) ?_
    walk_at "go"
    refine k_metX hmi (mfs_no _ _ (by decide +kernel) (by decide +kernel)) ?_
    walk_at "go"
    refine k_Measure_upto hm ok.m2.b0 ok.m2.b1 ok.m2.ok (by omega) (sm_mono sy (by omega)) hT fun H1 s1 => ?_
    obtain ⟨dx1, pd1, pm1, hc1, hd1, hm1⟩ := hx.mono s1
    obtain ⟨dm1, lm1, hmi1, hmt1⟩ := id hm1
    walk_at "go"
    refine k_fldX hc1 T.cl_Moon T.na_Moon_many (mofs_many _ _ _) ?_
    walk_at "go"
    refine k_metX hmi1 (mfs_no _ _ (by decide +kernel) (by decide +kernel)) ?_
    walk_at "go"
    refine k_Measure_at hm1 ok.m2.ok (sm_mono sy (by omega)) ?_
    have a1 := at_one ok.m2.ok ok.f2 y
    have a2 := at_hi ok.m2 y
    have l2 := ok.l2
    have sf := upto_sm ok.m2 sy
    walk_at "go"
    refine k_lcr ((lensM b1 t1 b2 t2 y).map V.int) (by rw [List.length_map, lensM_len]) (by omega) (fun i v H2 R hv s2 hR => ?_) (fun D H2 hD s2 tD => ?_)
    · rw [List.getElem?_map] at hv
      obtain ⟨z, hz, rfl⟩ := Option.map_eq_some_iff.mp hv
      have hi : i < (atM b2 t2 y).toNat := by
        have := (List.getElem?_eq_some_iff.mp hz).1
        rw [lensM_len] at this; exact this
      have ez : z = atM b1 t1 (uptoM b2 t2 y + i) := by
        unfold lensM at hz
        rw [List.getElem?_map, List.getElem?_range hi] at hz
        exact (Option.some.inj hz).symm
      have hc2 := s2 _ _ hc1
      have hd2 := hd1.mono (T := NT T.ct_counter) (.of s2)
      obtain ⟨dd2, ld2, hdi2, hdt2⟩ := id hd2
      walk_at "go"
      refine k_fldX hc2 T.cl_Moon T.na_Moon_days (mofs_days _ _ _) ?_
      walk_at "go"
      refine k_metX hdi2 (mfs_no _ _ (by decide +kernel) (by decide +kernel)) ?_
      walk_at "go"
      refine k_Measure_at hd2 ok.m1.ok (sm_mono (sm_addM sf (sm41 (i := 0 + (i : Int)) (by omega) (by omega))) (by omega)) ?_
      rw [show uptoM b2 t2 y + (0 + (i : Int)) = uptoM b2 t2 y + i by omega, ← ez]
      exact hR _ (Same.refl _)
    · exact q D H2 ((New.of hD).back s1) (s1.trans (.of s2)) tD
theorem k_Moon_lengths {T : Txt K mg base} {H : Hp} {Q : VK} {E : XK} {c : Addr} {st b1 : Int} {t1 : List Tm} {b2 : Int} {t2 : List Tm} {y : Int} {n : Nat} (h : MoonAt K T.C_Moon T.C_Measure H c st b1 t1 b2 t2) (ok : MoonOk b1 t1 b2 t2) (sy : Sm n y) (hn : n ≤ 4700) (hT : NdefX.TabsN (NT T.ct_counter) H)
    (q : ∀ (p : Addr) (H' : Hp), New H p → SameT (NT T.ct_counter) H H' → H' p = some (.lst ((lensM b1 t1 b2 t2 y).map V.int)) → Q (.ref p) H') : sp_Moon_lengths K T [.ref c, .int y] H Q E := ⟨c, st, b1, t1, b2, t2, y, n, rfl, h, ok, sy, hn, hT, q⟩

theorem k_Cal_lengths {T : Txt K mg base} {H : Hp} {Q : VK} {E : XK} {c : Addr} {cal : Cal} {y : Int} {n : Nat} (h : CalAt K T.C_Sun T.C_Moon T.C_Measure H c cal) (ok : cal.Ok) (sy : Sm n y) (hn : n ≤ 4700) (hT : NdefX.TabsN (NT T.ct_counter) H)
    (q : ∀ (p : Addr) (H' : Hp), New H p → SameT (NT T.ct_counter) H H' → H' p = some (.lst ((cal.lens y).map V.int)) → Q (.ref p) H') : SpC cal (sp_Sun_lengths K T) (sp_Moon_lengths K T) [.ref c, .int y] H Q E := by
  cases cal with
  | sun => exact k_Sun_lengths (E := E) h ok (sm_mono sy (by omega)) fun p H' hp s t => q p H' (.of hp) (.of s) t
  | moon => exact k_Moon_lengths (E := E) h ok sy hn hT q

/-! ### mask -/
def sp_mask (K : PySem.W.Frag) : Sp := fun vs H Q _ => ∃ k : Int, vs = [.int k] ∧ 0 ≤ k ∧ k ≤ 10000000 ∧ Q (.int (2 ^ k.toNat - 1)) H
theorem ok_mask (T : Txt K mg base) : FnOk P w K mg base CX0 1 T.a_mask T.fd_mask ["size"] (sp_mask K) := by
  refine T.F_mask.ok sc_mask (fun vs H Q E h => ?_) (fun cdv A outer s H vs Q E hr h => ?_)
  · obtain ⟨_, rfl, _⟩ := h; rfl
  · obtain ⟨k, rfl, h0, h1, q⟩ := h
    refine ⟨_, (pss_one (ps_ret (pe_op op_sub (pe_op op_shlW pe_int (pv 0)) pe_int))), ?_⟩
    walk_at "go"
    rw [← pow_c]
    exact q
theorem k_mask {H : Hp} {Q : VK} {E : XK} {k : Int} (h0 : 0 ≤ k) (h1 : k ≤ 10000000) (q : Q (.int (2 ^ k.toNat - 1)) H) : sp_mask K [.int k] H Q E := ⟨k, rfl, h0, h1, q⟩
local macro_rules | `(tactic| walk_at "st") => `(tactic| first | ((with_reducible apply k_mask); (· omega); (· omega)) | fail)

/-! ### later -/
def sp_later (K : PySem.W.Frag) : Sp := fun vs H Q _ => ∃ (a : Addr) (n b : Nat) (k : Int), vs = [.ref a, .int k] ∧ RT K H a n b ∧
  ∀ (p : Addr) (H' : Hp), Same H H' → RT K H' p n (bitsOf n (fun d => hold n b (d - k))) → Q (.ref p) H'
theorem ok_later (T : Txt K mg base) : FnOk P w K mg base CX0 2 T.a_later T.fd_later ["turn", "number"] (sp_later K) := by
  refine T.F_later.ok sc_later (fun vs H Q E h => ?_) (fun cdv A outer s H vs Q E hr h => ?_)
  · obtain ⟨_, _, _, _, rfl, _⟩ := h; rfl
  · obtain ⟨a, n, b, k, rfl, r, q⟩ := h
    have hu := hr.units
    have ht := r.t
    have hn := r.n1
    have hn2 := r.n2
    have hsm := r.sm
    have h1 := Int.emod_nonneg k (show (n : Int) ≠ 0 by omega)
    have h2 := Int.emod_lt_of_pos k (show (0 : Int) < n by omega)
    refine ⟨_, (pss_cons (ps_set (i := 2) sc_later.nd rfl (Or.inl rfl) (pe_ix (kb_ix K) (pv 0) pe_int (fun _ _ => rfl)))
        (pss_cons (ps_set (i := 3) sc_later.nd rfl (Or.inl rfl) (pe_op op_mod (pv 1) (pv 2)))
        (pss_one (ps_ret (pe_tup (pa_cons (pv 2) (pa_cons (pe_op op_and (pe_op op_or (pe_op op_shlW (pe_ix (kb_ix K) (pv 0) pe_int (fun _ _ => rfl)) (pv 3)) (pe_op op_shr (pe_ix (kb_ix K) (pv 0) pe_int (fun _ _ => rfl)) (pe_op op_sub (pv 2) (pv 3)))) (pe_call (ok_mask T) (hr.mono (by decide)) (by rfl) T.g_mask T.F_mask.kp T.b_mask .nil pass0 (pa_cons (pv 2) pa_nil))) pa_nil))))))), ?_⟩
    walk_at "go"
    rename_i p H' _ s3 t3
    rw [Int.toNat_natCast, later_bits hn r.lt] at t3
    exact q p H' s3 ⟨SqT.of t3, hn, hn2, bitsOf_lt _ _⟩
theorem k_later {H : Hp} {Q : VK} {E : XK} {a : Addr} {n b : Nat} {k : Int} (r : RT K H a n b)
    (q : ∀ (p : Addr) (H' : Hp), Same H H' → RT K H' p n (bitsOf n (fun d => hold n b (d - k))) → Q (.ref p) H') : sp_later K [.ref a, .int k] H Q E := ⟨a, n, b, k, rfl, r, q⟩

/-! ### Sun.year_start -/
def sp_Sun_year_start (K : PySem.W.Frag) (T : Txt K mg base) : Sp := fun vs H Q _ => ∃ (c : Addr) (st : Int) (ls : List Int) (lp : Int) (ts : List Tm) (y : Int), vs = [.ref c, .int y] ∧ SunAt K T.C_Sun T.C_Measure H c st ls lp ts ∧ SunOk ls lp ts ∧ Sm 5000 y ∧ NdefX.TabsN (NT T.ct_counter) H ∧
  ∀ H', SameT (NT T.ct_counter) H H' → Q (.int (st + uptoM ls.sum ts y)) H'
theorem ok_Sun_year_start (T : Txt K mg base) : FnOk P w K mg base CX0 4 T.a_Sun_year_start T.fd_Sun_year_start ["self", "year"] (sp_Sun_year_start K T) := by
  refine T.F_Sun_year_start.ok sc_Sun_year_start (fun vs H Q E h => ?_) (fun cdv A outer s H vs Q E hr h => ?_)
  · obtain ⟨_, _, _, _, _, _, rfl, _⟩ := h; rfl
  · obtain ⟨c, st, ls, lp, ts, y, rfl, ⟨dx, pm, py, hc, hm, hy⟩, ok, sy, hT, q⟩ := h
    have hu := hr.units
    have mo := ok.meas
    have hl := mo.len
    obtain ⟨dy, ly, hyi, hyt⟩ := hy
    refine ⟨_, (pss_one (ps_ret (pe_op op_addA (pe_fld (pv 0) rfl) (pe_meth (pe_fld (pv 0) rfl) T.cl_Measure T.me_Measure_upto (ok_Measure_upto T) (hr.mono (by decide)) T.b_Measure_upto .nil pass0 (pa_cons (pv 1) pa_nil))))), ?_⟩
    walk_at "go"
    refine k_fldX hc T.cl_Sun T.na_Sun_start (sfs_start _ _ _ _) ?_
    walk_at "go"
    refine k_fldX hc T.cl_Sun T.na_Sun_years (sfs_years _ _ _ _) ?_
    walk_at "go"
    refine k_metX hyi (mfs_no _ _ (by decide +kernel) (by decide +kernel)) ?_
    walk_at "go"
    refine k_Measure_upto ⟨dy, ly, hyi, hyt⟩ mo.b0 mo.b1 mo.ok (by omega) sy hT fun H1 s1 => ?_
    walk_at "go"
    exact q _ s1
theorem k_Sun_year_start {T : Txt K mg base} {H : Hp} {Q : VK} {E : XK} {c : Addr} {st : Int} {ls : List Int} {lp : Int} {ts : List Tm} {y : Int} (h : SunAt K T.C_Sun T.C_Measure H c st ls lp ts) (ok : SunOk ls lp ts) (sy : Sm 5000 y) (hT : NdefX.TabsN (NT T.ct_counter) H)
    (q : ∀ H', SameT (NT T.ct_counter) H H' → Q (.int (st + uptoM ls.sum ts y)) H') : sp_Sun_year_start K T [.ref c, .int y] H Q E := ⟨c, st, ls, lp, ts, y, rfl, h, ok, sy, hT, q⟩

/-! ### Moon.year_start -/
def sp_Moon_year_start (K : PySem.W.Frag) (T : Txt K mg base) : Sp := fun vs H Q _ => ∃ (c : Addr) (st b1 : Int) (t1 : List Tm) (b2 : Int) (t2 : List Tm) (y : Int) (n : Nat), vs = [.ref c, .int y] ∧ MoonAt K T.C_Moon T.C_Measure H c st b1 t1 b2 t2 ∧ MoonOk b1 t1 b2 t2 ∧ Sm n y ∧ n ≤ 4900 ∧ NdefX.TabsN (NT T.ct_counter) H ∧
  ∀ H', SameT (NT T.ct_counter) H H' → Q (.int (st + uptoM b1 t1 (uptoM b2 t2 y))) H'
theorem ok_Moon_year_start (T : Txt K mg base) : FnOk P w K mg base CX0 4 T.a_Moon_year_start T.fd_Moon_year_start ["self", "year"] (sp_Moon_year_start K T) := by
  refine T.F_Moon_year_start.ok sc_Moon_year_start (fun vs H Q E h => ?_) (fun cdv A outer s H vs Q E hr h => ?_)
  · obtain ⟨_, _, _, _, _, _, _, _, rfl, _⟩ := h; rfl
  · obtain ⟨c, st, b1, t1, b2, t2, y, n, rfl, ⟨dx, pd, pm, hc, hd, hm⟩, ok, sy, hn, hT, q⟩ := h
    have hu := hr.units
    have l1 := ok.m1.len
    have l2 := ok.m2.len
    obtain ⟨dd, ld, hdi, hdt⟩ := id hd
    obtain ⟨dm, lm, hmi, hmt⟩ := id hm
    refine ⟨_, (pss_one (ps_ret (pe_op op_addA (pe_fld (pv 0) rfl) (pe_meth (pe_fld (pv 0) rfl) T.cl_Measure T.me_Measure_upto (ok_Measure_upto T) (hr.mono (by decide)) T.b_Measure_upto .nil pass0 (pa_cons (pe_meth (pe_fld (pv 0) rfl) T.cl_Measure T.me_Measure_upto (ok_Measure_upto T) (hr.mono (by decide)) T.b_Measure_upto .nil pass0 (pa_cons (pv 1) pa_nil)) pa_nil))))), ?_⟩
    walk_at "go"
    refine k_fldX hc T.cl_Moon T.na_Moon_start (mofs_start _ _ _) ?_
    walk_at "go"
    refine k_fldX hc T.cl_Moon T.na_Moon_days (mofs_days _ _ _) ?_
    walk_at "go"
    refine k_metX hdi (mfs_no _ _ (by decide +kernel) (by decide +kernel)) ?_
    walk_at "go"
    refine k_fldX hc T.cl_Moon T.na_Moon_many (mofs_many _ _ _) ?_
    walk_at "go"
    refine k_metX hmi (mfs_no _ _ (by decide +kernel) (by decide +kernel)) ?_
    walk_at "go"
    refine k_Measure_upto hm ok.m2.b0 ok.m2.b1 ok.m2.ok (by omega) (sm_mono sy (by omega)) hT fun H1 s1 => ?_
    walk_at "go"
    refine k_Measure_upto (hd.mono s1) ok.m1.b0 ok.m1.b1 ok.m1.ok (by omega) (sm_mono (upto_sm ok.m2 sy) (by omega)) (s1.tab hT) fun H2 s2 => ?_
    walk_at "go"
    exact q _ (s1.trans s2)
theorem k_Moon_year_start {T : Txt K mg base} {H : Hp} {Q : VK} {E : XK} {c : Addr} {st b1 : Int} {t1 : List Tm} {b2 : Int} {t2 : List Tm} {y : Int} {n : Nat} (h : MoonAt K T.C_Moon T.C_Measure H c st b1 t1 b2 t2) (ok : MoonOk b1 t1 b2 t2) (sy : Sm n y) (hn : n ≤ 4900) (hT : NdefX.TabsN (NT T.ct_counter) H)
    (q : ∀ H', SameT (NT T.ct_counter) H H' → Q (.int (st + uptoM b1 t1 (uptoM b2 t2 y))) H') : sp_Moon_year_start K T [.ref c, .int y] H Q E := ⟨c, st, b1, t1, b2, t2, y, n, rfl, h, ok, sy, hn, hT, q⟩

theorem k_Cal_year_start {T : Txt K mg base} {H : Hp} {Q : VK} {E : XK} {c : Addr} {cal : Cal} {y : Int} {n : Nat} (h : CalAt K T.C_Sun T.C_Moon T.C_Measure H c cal) (ok : cal.Ok) (sy : Sm n y) (hn : n ≤ 4900) (hT : NdefX.TabsN (NT T.ct_counter) H)
    (q : ∀ H', SameT (NT T.ct_counter) H H' → Q (.int (cal.start y)) H') : SpC cal (sp_Sun_year_start K T) (sp_Moon_year_start K T) [.ref c, .int y] H Q E := by
  cases cal with
  | sun => exact k_Sun_year_start (E := E) h ok (sm_mono sy (by omega)) hT q
  | moon => exact k_Moon_year_start (E := E) h ok sy hn hT q

/-! ### month_bits -/
def sp_month_bits (K : PySem.W.Frag) : Sp := fun vs H Q _ => ∃ (many : Int) (da : Option Int), vs = [.int many, optV da] ∧ 0 ≤ many ∧ many ≤ 100000 ∧ da ≠ some 0 ∧ Q (.int ((monthB da many : Nat) : Int)) H
theorem ok_month_bits (T : Txt K mg base) : FnOk P w K mg base CX0 2 T.a_month_bits T.fd_month_bits ["many", "day"] (sp_month_bits K) := by
  refine T.F_month_bits.ok sc_month_bits (fun vs H Q E h => ?_) (fun cdv A outer s H vs Q E hr h => ?_)
  · obtain ⟨_, _, rfl, _⟩ := h; rfl
  · obtain ⟨many, da, rfl, m0, m1, d0, q⟩ := h
    have hu := hr.units
    refine ⟨_, (pss_cons (ps_if (pt_cmpR kb_isN (pv 1) pe_non (nomark _)) (pss_one (ps_ret (pe_call (ok_mask T) (hr.mono (by decide)) (by rfl) T.g_mask T.F_mask.kp T.b_mask .nil pass0 (pa_cons (pv 0) pa_nil)))) pss_nil)
        (pss_cons (ps_if (pt_chain op_lt op_le pe_int (pv 1) (pv 0)) (pss_one (ps_ret (pe_op op_shlW pe_int (pe_op op_sub (pv 1) pe_int)))) pss_nil)
        (pss_cons (ps_if (PW.pt (pw_and (pt_cmpR op_lt (pv 1) pe_int (nomark _)) (pw_and1 (pt_cmpR op_ge (pe_op op_addA (pv 0) (pv 1)) pe_int (nomark _))))) (pss_one (ps_ret (pe_op op_shlW pe_int (pe_op op_addA (pv 0) (pv 1))))) pss_nil)
        (pss_one (ps_ret pe_int))))), ?_⟩
    cases da with
    | none =>
      have q' : Q (.int ((monthB none many : Nat) : Int)) H := q
      rw [monthB_none, ← mask_c] at q'
      show tSeq _ _ _ (L2.start _ [V.int many, .non]) H
      walk_at "run"
      exact q'
    | some v =>
      have hv : v ≠ 0 := fun z => d0 (by rw [z])
      show tSeq _ _ _ (L2.start _ [V.int many, .int v]) H
      walk_at "run"
      refine if_dec (fun h1 => ?_) (fun h1 => ?_)
      · walk_at "go"
        refine if_dec (fun h2 => ?_) (fun h2 => ?_)
        · walk_at "run"
          rw [monthB_pos h1 h2] at q
          exact q
        · walk_at "run"
          rw [monthB_no (by omega) (by omega) hv] at q
          exact q
      · walk_at "run"
        refine if_dec (fun h3 => ?_) (fun h3 => ?_)
        · walk_at "run"
          rw [monthB_neg (by omega) h3] at q
          exact q
        · walk_at "run"
          rw [monthB_no (by omega) (by omega) hv] at q
          exact q
theorem k_month_bits {K : PySem.W.Frag} {H : Hp} {Q : VK} {E : XK} {many : Int} {da : Option Int} (m0 : 0 ≤ many) (m1 : many ≤ 100000) (d0 : da ≠ some 0) (q : Q (.int ((monthB da many : Nat) : Int)) H) : sp_month_bits K [.int many, optV da] H Q E := ⟨many, da, rfl, m0, m1, d0, q⟩

/-! ### year_bits -/
def sp_year_bits (K : PySem.W.Frag) : Sp := fun vs H Q _ => ∃ (a : Addr) (L : List Int) (mo da : Option Int), vs = [.ref a, optV mo, optV da] ∧ SqL K H a (L.map V.int) ∧ (∀ x ∈ L, 0 ≤ x ∧ x ≤ 1006) ∧ L.length ≤ 26 ∧ da ≠ some 0 ∧ ∀ H', Same H H' → Q (.int ((yearB L mo da L.length : Nat) : Int)) H'
theorem ok_year_bits (T : Txt K mg base) : FnOk P w K mg base CX0 3 T.a_year_bits T.fd_year_bits ["lengths", "month", "day"] (sp_year_bits K) := by
  refine T.F_year_bits.ok sc_year_bits (fun vs H Q E h => ?_) (fun cdv A outer s H vs Q E hr h => ?_)
  · obtain ⟨_, _, _, _, rfl, _⟩ := h; rfl
  · obtain ⟨a, L, mo, da, rfl, hS, hb, hl, d0, q⟩ := h
    have hu := hr.units
    have nn := nn_of hb
    refine ⟨_, (pss_cons (ps_set (i := 3) sc_year_bits.nd rfl (Or.inl rfl) pe_int)
        (pss_cons (ps_set (i := 4) sc_year_bits.nd rfl (Or.inl rfl) pe_int)
        (pss_cons (ps_for PassesOwn.never rfl (pi_enumK (by rfl) T.n_enumerate (pa_cons (pv 0) pa_nil) (pk_cons pe_int pk_nil)) (pg_tup rfl (pgs_cons (pg_name (i := 5) sc_year_bits.nd rfl (Or.inl rfl)) (pgs_cons (pg_name (i := 6) sc_year_bits.nd rfl (Or.inl rfl)) pgs_nil))) (pss_cons (ps_if (PW.pt (pw_or (pt_cmpR kb_isN (pv 1) pe_non (nomark _)) (pw_or1 (pt_cmpR (kb_eq K (hu := hu)) (pv 1) (pv 5) (nomark _))))) (pss_one (ps_set (i := 3) sc_year_bits.nd rfl (Or.inl rfl) (pe_op op_or (pv 3) (pe_op op_shlW (pe_call (ok_month_bits T) (hr.mono (by decide)) (by rfl) T.g_month_bits T.F_month_bits.kp T.b_month_bits .nil pass0 (pa_cons (pv 6) (pa_cons (pv 2) pa_nil))) (pv 4))))) pss_nil)
        (pss_one (ps_set (i := 4) sc_year_bits.nd rfl (Or.inl rfl) (pe_op op_addA (pv 4) (pv 6))))))
        (pss_one (ps_ret (pv 3)))))), ?_⟩
    walk_at "go"
    with_reducible apply k_seqF
    with_reducible apply k_for
    with_reducible apply k_ienumK
    walk_at "go"
    refine ⟨a, L.map V.int, 1, rfl, rfl, by decide, by decide, hS, ?_⟩
    refine for_enumC (xs := L.map V.int) (fun i σ' H' => ∃ v5 v6 : Option V, σ' = [some (.ref a), some (optV mo), some (optV da), some (.int ((yearB L mo da i : Nat) : Int)), some (.int (L.take i).sum), v5, v6] ∧ Same H H') ⟨none, none, by simp [yearB, ofB]; rfl, Same.refl _⟩
      (fun i σ' H' _ hW => by obtain ⟨_, _, _, s⟩ := hW; exact same_l s hS) (fun i x σ' H' p hx hW hp => ?_) (fun σ' H' hW => ?_)
    · obtain ⟨_, _, rfl, s⟩ := hW
      rw [List.getElem?_map] at hx
      obtain ⟨z, hz, rfl⟩ := Option.map_eq_some_iff.mp hx
      have hi := (List.getElem?_eq_some_iff.mp hz).1
      have ez : z = L.getD i 0 := by rw [List.getD_eq_getElem?_getD, hz]; rfl
      have hzb := hb z (List.mem_of_getElem? hz)
      have p1 := pre_succ hi
      have p0 := pre_nn nn i
      have ps := (sum_bd (ls := L.take i) (B := 1006) fun x hx => hb x (List.mem_of_mem_take hx)).2
      have pl : (L.take i).length ≤ 26 := by rw [List.length_take]; omega
      obtain ⟨y1, y2⟩ := year_step (mo := mo) (da := da) nn hi
      have hT : SqT K (upd H' p (.tup [.int (1 + (i : Nat)), .int z])) p [.int (1 + (i : Nat)), .int z] := SqT.of upd_same
      have s2 : Same H (upd H' p (.tup [.int (1 + (i : Nat)), .int z])) := s.trans (same_new hp)
      generalize upd H' p (.tup [.int (1 + (i : Nat)), .int z]) = H2 at *
      walk_at "go"
      with_reducible refine k_cutI (fun σ' H' => ∃ v5 : Option V, σ' = [some (.ref a), some (optV mo), some (optV da), some (.int ((yearB L mo da (i + 1) : Nat) : Int)), some (.int (L.take i).sum), v5, some (.int z)] ∧ Same H H') (fun N hN => ?_) ?_
      · refine or_split (mo = none ∨ mo = some ((i : Int) + 1)) (fun h => ?_) (fun h => ?_) fun R' h1 h2 => ?_
        · have e := y1 h
          rw [← ez] at e
          have hsy : Sm 400000 ((yearB L mo da i : Nat) : Int) := sm_yearB (by omega)
          have hsm : Sm 400000 ((monthB da z : Nat) : Int) := sm_monthB (by omega)
          walk_at "go"
          refine k_month_bits hzb.1 (by omega) d0 ?_
          walk_at "go"
          try refine k_shlc (cshl hsm p0 (by omega) (by decide)) ?_
          walk_at "go"
          rw [e]
          exact hN _ _ ⟨_, rfl, s2⟩
        · have e := y2 h
          walk_at "go"
          rw [e]
          exact hN _ _ ⟨_, rfl, s2⟩
        · walk_at "go"
          cases mo with
          | none =>
            refine k_isNo (o := none) (fun _ => ?_) (fun z => absurd rfl z)
            walk_at "go"
            exact h1 (.inl rfl)
          | some v =>
            refine k_isNo (o := some v) (fun z => by cases z) (fun _ => ?_)
            walk_at "go"
            refine k_eq ?_
            refine ⟨_, rfl, ?_⟩
            exact dec_two (R := fun b => R' b H2) (fun h => h1 (.inr (by rw [h]; congr 1; omega))) (fun h => h2 fun z => by
              rcases z with z | z
              · cases z
              · cases z; omega)
      rintro _ H3 ⟨_, rfl, s3⟩
      walk_at "go"
      exact ⟨_, _, by rw [p1, ← ez]; rfl, s3⟩
    · obtain ⟨_, _, rfl, s⟩ := hW
      rw [List.length_map]
      walk_at "go"
      exact q _ s
theorem k_year_bits {K : PySem.W.Frag} {H : Hp} {Q : VK} {E : XK} {a : Addr} {L : List Int} {mo da : Option Int} (hS : SqL K H a (L.map V.int)) (hb : ∀ x ∈ L, 0 ≤ x ∧ x ≤ 1006) (hl : L.length ≤ 26) (d0 : da ≠ some 0) (q : ∀ H', Same H H' → Q (.int ((yearB L mo da L.length : Nat) : Int)) H') : sp_year_bits K [.ref a, optV mo, optV da] H Q E := ⟨a, L, mo, da, rfl, hS, hb, hl, d0, q⟩

/-! ### dated -/
def sp_dated (K : PySem.W.Frag) (T : Txt K mg base) : Sp := fun vs H Q _ => ∃ (c : Addr) (cal : Cal) (nm : Str) (mo da : Option Int) (st re : Int), vs = [.ref c, optV mo, optV da, .int st, .int re] ∧ CalAt K T.C_Sun T.C_Moon T.C_Measure H c cal ∧ (Rl.dated nm cal mo da st re).Ok ∧ NdefX.TabsN (NT T.ct_counter) H ∧
  ∀ (p : Addr) (H' : Hp), SameT (NT T.ct_counter) H H' → MadeAt K H' p (.dated nm cal mo da st re) → Q (.ref p) H'
theorem ok_dated (T : Txt K mg base) : FnOk P w K mg base CX0 5 T.a_dated T.fd_dated ["calendar", "month", "day", "step", "rest"] (sp_dated K T) := by
  refine FunD.okN T.F_dated sc_dated (fun vs H Q E h => ?_) (fun cdv A outer s H vs Q E hr h => ?_)
  · obtain ⟨_, _, _, _, _, _, _, rfl, _⟩ := h; rfl
  · obtain ⟨c, cal, nm, mo, da, st, re, rfl, hc, okd, hT, q⟩ := h
    have hu := hr.units
    obtain ⟨ok, sst, st1, sst2, sre, mo1, da0, size⟩ := id okd
    obtain ⟨y1, y2⟩ := cal.yrs_bd ok
    have dp := cal.dys_pos ok
    obtain ⟨r, r1, er, ed, dv⟩ := shared_of ok st1
    have hl := lcm_pos y1 st1
    rw [ed] at size
    have hsz1 : 1 ≤ cal.dys * r := by
      have := Int.mul_le_mul_of_nonneg_left (show (1 : Int) ≤ r by omega) (show 0 ≤ cal.dys by omega)
      omega
    obtain ⟨n, hn⟩ := Int.eq_ofNat_of_zero_le (show 0 ≤ cal.dys * r by omega)
    have hstart : ∀ i : Nat, cal.start (i : Int) - cal.start 0 ≤ cal.start (lcmI cal.yrs st) - cal.start 0 ∨ (lcmI cal.yrs st) < i := fun i => by
      by_cases h : (i : Int) ≤ lcmI cal.yrs st
      · have := cal.le ok h
        left; omega
      · right; omega
    have hend : cal.start (lcmI cal.yrs st) - cal.start 0 = n := by
      have := (start_cycR ok 0 r).1
      rw [Int.zero_add] at this
      rw [er, this, ← hn, Int.mul_comm]; omega
    have hgrow : ∀ i : Nat, (i : Int) ≤ cal.start i - cal.start 0 := fun i => by
      induction i with
      | zero => simp
      | succ i ih =>
        have := cal.lt ok (show (i : Int) < ((i + 1 : Nat) : Int) by omega)
        omega
    have hsh : lcmI cal.yrs st ≤ 150000 := by
      have := hgrow (lcmI cal.yrs st).toNat
      rw [show (((lcmI cal.yrs st).toNat : Nat) : Int) = lcmI cal.yrs st by omega] at this
      omega
    refine ⟨_, (pss_cons (ps_if (PW.pt (pw_or (pt_cmpR op_lt (pv 3) pe_int (nomark _)) (pw_or1 (pt_cmpR (kb_eq K (hu := hu)) (pv 2) pe_int (nomark _))))) (pss_one ps_never) pss_nil)
        (pss_cons (ps_if (PW.pt (pw_and (pt_cmpR kb_notN (pv 1) pe_non (nomark _)) (pw_and1 (pt_cmpR op_lt (pv 1) pe_int (nomark _))))) (pss_one ps_never) pss_nil)
        (pss_cons (ps_asg (pe_alt2 (pe_meth0 (pv 0) T.cl_Sun T.me_Sun_cycle (ok_Sun_cycle T) (hr.mono (by decide)) T.b_Sun_cycle .nil pass0) (pe_meth0 (pv 0) T.cl_Moon T.me_Moon_cycle (ok_Moon_cycle T) (hr.mono (by decide)) T.b_Moon_cycle .nil pass0)) (pg_tup rfl (pgs_cons (pg_name (i := 5) sc_dated.nd rfl (Or.inl rfl)) (pgs_cons (pg_name (i := 6) sc_dated.nd rfl (Or.inl rfl)) pgs_nil))))
        (pss_cons (ps_set (i := 7) sc_dated.nd rfl (Or.inl rfl) (pe_call (ok_common T) (hr.mono (by decide)) (by rfl) T.g_common T.F_common.kp T.b_common .nil pass0 (pa_cons (pv 5) (pa_cons (pv 3) pa_nil))))
        (pss_cons (ps_set (i := 8) sc_dated.nd rfl (Or.inl rfl) (pe_op op_mulX (pv 6) (pe_op op_fdivW (pv 7) (pv 5))))
        (pss_cons (ps_expr (pe_call (ok_allowed T) (hr.mono (by decide)) (by rfl) T.g_allowed T.F_allowed.kp T.b_allowed .nil pass0 (pa_cons (pv 8) pa_nil)))
        (pss_cons (ps_set (i := 9) sc_dated.nd rfl (Or.inl rfl) pe_int)
        (pss_cons (ps_set (i := 10) sc_dated.nd rfl (Or.inl rfl) pe_int)
        (pss_cons (ps_for PassesOwn.never rfl (pi_range1 (by rfl) T.n_range (pa_cons (pv 7) pa_nil)) (pg_name (i := 11) sc_dated.nd rfl (Or.inl rfl)) (pss_cons (ps_set (i := 12) sc_dated.nd rfl (Or.inl rfl) (pe_alt2 (pe_meth (pv 0) T.cl_Sun T.me_Sun_lengths (ok_Sun_lengths T) (hr.mono (by decide)) T.b_Sun_lengths .nil pass0 (pa_cons (pv 11) pa_nil)) (pe_meth (pv 0) T.cl_Moon T.me_Moon_lengths (ok_Moon_lengths T) (hr.mono (by decide)) T.b_Moon_lengths .nil pass0 (pa_cons (pv 11) pa_nil))))
        (pss_cons (ps_if (pt_cmpR (kb_eq K (hu := hu)) (pe_op op_mod (pe_op op_sub (pv 11) (pv 4)) (pv 3)) pe_int (nomark _)) (pss_one (ps_set (i := 9) sc_dated.nd rfl (Or.inl rfl) (pe_op op_or (pv 9) (pe_op op_shlW (pe_call (ok_year_bits T) (hr.mono (by decide)) (by rfl) T.g_year_bits T.F_year_bits.kp T.b_year_bits .nil pass0 (pa_cons (pv 12) (pa_cons (pv 1) (pa_cons (pv 2) pa_nil)))) (pv 10))))) pss_nil)
        (pss_one (ps_set (i := 10) sc_dated.nd rfl (Or.inl rfl) (pe_op op_addA (pv 10) (pe_callB (kb_sum K (hc := rfl)) (by rfl) T.n_sum (by decide +kernel) (pa_cons (pv 12) pa_nil))))))))
        (pss_one (ps_ret (pe_call (ok_later T) (hr.mono (by decide)) (by rfl) T.g_later T.F_later.kp T.b_later .nil pass0 (pa_cons (pe_tup (pa_cons (pv 8) (pa_cons (pv 9) pa_nil))) (pa_cons (pe_alt2 (pe_meth (pv 0) T.cl_Sun T.me_Sun_year_start (ok_Sun_year_start T) (hr.mono (by decide)) T.b_Sun_year_start .nil pass0 (pa_cons pe_int pa_nil)) (pe_meth (pv 0) T.cl_Moon T.me_Moon_year_start (ok_Moon_year_start T) (hr.mono (by decide)) T.b_Moon_year_start .nil pass0 (pa_cons pe_int pa_nil))) pa_nil)))))))))))))), ?_⟩
    walk_at "go"
    with_reducible apply k_seqI
    walk_at "go"
    walk_at "br1"
    have hda : ∀ {Q' : VK}, Q' (.bl false) H → rEqA K (optV da) (.int 0) H Q' := fun {Q'} h => by
      cases hd : da with
      | none => exact k_eqNi h
      | some v =>
        refine k_eq ?_
        rw [decide_eq_false (fun z => da0 (by rw [hd, z]))]
        exact h
    walk_at "go"
    refine hda ?_
    walk_at "go"
    with_reducible apply k_seqI
    refine and_split False (fun h => h.elim) (fun _ => ?_) fun R' h1 h2 => ?_
    · walk_at "run"
      refine k_altX hc noF_cycle ?_
      walk_at "go"
      refine k_Cal_cycle hc ok hT fun p1 H1 hn1 s1 t1 => ?_
      have hc1 := hc.mono s1
      have hT1 := s1.tab hT
      have tt1 : SqT K H1 p1 [.int cal.yrs, .int cal.dys] := SqT.of t1
      walk_at "go"
      refine k_common y1 st1 (sm_mono (sm41 (by omega) (by omega)) (by decide)) (sm_mono sst2 (by decide)) ?_
      walk_at "go"
      rw [ed]
      refine k_I (sm_mulx (cal.dys_sm ok) (sm41 (i := (r : Int)) (by omega) (by
        have := Int.mul_le_mul_of_nonneg_right (show (1 : Int) ≤ cal.dys by omega) (show (0 : Int) ≤ r by omega)
        omega)) (by decide)) ?_
      rw [hn]
      walk_at "run"
      with_reducible apply k_seqF
      with_reducible apply k_for
      walk_at "go"
      refine for_range (fun i σ' H' => ∃ v11 v12 : Option V, σ' = [some (.ref c), some (optV mo), some (optV da), some (.int st), some (.int re), some (.int cal.yrs), some (.int cal.dys), some (.int (lcmI cal.yrs st)), some (.int (n : Int)), some (.int ((datB cal mo da st re i : Nat) : Int)), some (.int (cal.start i - cal.start 0)), v11, v12] ∧ SameT (NT T.ct_counter) H H') ⟨none, none, by simp [datB, ofB]; rfl, s1⟩ (fun i σ' H' hi hW => ?_) (fun σ' H' hW => ?_)
      · obtain ⟨_, _, rfl, sB⟩ := hW
        have hiL : (i : Int) < lcmI cal.yrs st := by omega
        have hcB := hc.mono sB
        have hTB := sB.tab hT
        have h0 := cal.le ok (show (0 : Int) ≤ i by omega)
        have hle := cal.le ok (show (i : Int) + 1 ≤ lcmI cal.yrs st by omega)
        have hlt := cal.lt ok (show (i : Int) < i + 1 by omega)
        have hsum := cal.sum ok i
        obtain ⟨d1, d2⟩ := dat_step (mo := mo) (da := da) (st := st) (re := re) ok i
        walk_at "go"
        rw [show (0 : Int) + (i : Int) = (i : Int) by omega]
        refine k_altX hcB noF_lengths ?_
        walk_at "go"
        refine k_Cal_lengths (n := 200) hcB ok (sm41 (by omega) (by omega)) (by decide) hTB fun pl H3 hn3 s3 t3 => ?_
        have sC := sB.trans s3
        have lS : SqL K H3 pl ((cal.lens i).map V.int) := SqL.of t3
        walk_at "go"
        with_reducible refine k_cutI (fun σ' H' => ∃ v11 : Option V, σ' = [some (.ref c), some (optV mo), some (optV da), some (.int st), some (.int re), some (.int cal.yrs), some (.int cal.dys), some (.int (lcmI cal.yrs st)), some (.int (n : Int)), some (.int ((datB cal mo da st re (i + 1) : Nat) : Int)), some (.int (cal.start i - cal.start 0)), v11, some (.ref pl)] ∧ Same H3 H') (fun N hN => ?_) ?_
        · walk_at "go"
          refine if_dec (fun h => ?_) (fun h => ?_)
          · have e := d1 h
            have hsy : Sm 400000 ((yearB (cal.lens i) mo da (cal.lens i).length : Nat) : Int) := sm_yearB (by rw [List.take_of_length_le (Nat.le_refl _)]; omega)
            walk_at "go"
            refine k_year_bits lS (cal.bd ok i) (cal.len ok i).2 da0 fun H4 s4 => ?_
            walk_at "go"
            rw [e]
            exact hN _ _ ⟨_, rfl, s4⟩
          · walk_at "go"
            rw [d2 h]
            exact hN _ _ ⟨_, rfl, Same.refl _⟩
        rintro _ H4 ⟨_, rfl, s4⟩
        have lS4 := same_l s4 lS
        walk_at "go"
        refine k_sum lS4 ?_
        walk_at "go"
        exact ⟨_, _, by rw [show ((i + 1 : Nat) : Int) = (i : Int) + 1 by omega, show cal.start ((i : Int) + 1) - cal.start 0 = cal.start i - cal.start 0 + (cal.lens i).sum by omega]; rfl, sC.trans (.of s4)⟩
      · obtain ⟨_, _, rfl, sB⟩ := hW
        have hcB := hc.mono sB
        have hTB := sB.tab hT
        walk_at "go"
        rename_i p4 H4 hn4 s4 t4
        refine k_altX (hcB.mono (T := NT T.ct_counter) (.of s4)) noF_year_start ?_
        walk_at "go"
        refine k_Cal_year_start (n := 200) (hcB.mono (T := NT T.ct_counter) (.of s4)) ok (sm41 (by decide) (by decide)) (by decide) (hTB.ext s4) fun H5 s5 => ?_
        have rt : RT K H5 p4 n (datB cal mo da st re (lcmI cal.yrs st).toNat) := ⟨s5.sqt (SqT.of t4), by omega, by omega, by
          have e2 : (cal.start (((lcmI cal.yrs st).toNat : Nat) : Int) - cal.start 0).toNat = n := by rw [show (((lcmI cal.yrs st).toNat : Nat) : Int) = lcmI cal.yrs st by omega, hend, Int.toNat_natCast]
          have := ofB_lt (fun j => decC (DatedP cal mo da st re (cal.start 0 + j))) (cal.start (((lcmI cal.yrs st).toNat : Nat) : Int) - cal.start 0).toNat
          unfold datB
          rw [e2] at this ⊢
          exact this⟩
        walk_at "go"
        refine k_later rt fun p6 H6 s6 r6 => ?_
        exact q p6 H6 ((sB.trans (.of s4)).trans (s5.trans (.of s6))) (made_dated ok st1 r1 er ed dv hn.symm r6)
    · walk_at "go"
      cases hmo : mo with
      | none =>
        refine k_notNo (o := none) (fun _ => ?_) (fun z => absurd rfl z)
        walk_at "go"
        exact h2 (fun z => z)
      | some v =>
        have := mo1 v hmo
        refine k_notNo (o := some v) (fun z => by cases z) (fun _ => ?_)
        walk_at "go"
        refine k_I0 ?_
        refine ⟨_, rfl, ?_⟩
        rw [decide_eq_false (show ¬ v < 1 by omega)]
        exact h2 (fun z => z)
theorem k_dated {T : Txt K mg base} {H : Hp} {Q : VK} {E : XK} {c : Addr} {cal : Cal} (nm : Str) {mo da : Option Int} {st re : Int} (h : CalAt K T.C_Sun T.C_Moon T.C_Measure H c cal) (ok : (Rl.dated nm cal mo da st re).Ok) (hT : NdefX.TabsN (NT T.ct_counter) H)
    (q : ∀ (p : Addr) (H' : Hp), SameT (NT T.ct_counter) H H' → MadeAt K H' p (.dated nm cal mo da st re) → Q (.ref p) H') : sp_dated K T [.ref c, optV mo, optV da, .int st, .int re] H Q E := ⟨c, cal, nm, mo, da, st, re, rfl, h, ok, hT, q⟩

/-! ### _law_made -/
def sp_Lmade (K : PySem.W.Frag) (T : Txt K mg base) : Sp := fun vs H Q _ => ∃ (c w : Addr) (cal : Cal) (mo da : Option Int) (st re cell : Int), vs = [.ref c, .ref w, .int cell] ∧ CalAt K T.C_Sun T.C_Moon T.C_Measure H c cal ∧ SqT K H w [optV mo, optV da, .int st, .int re] ∧ Sm 1048576 cell ∧ (Rl.dated "x" cal mo da st re).Ok ∧ NdefX.TabsN (NT T.ct_counter) H ∧
  ∀ (p : Addr) (H' : Hp) (re' : Int), SameT (NT T.ct_counter) H H' → (re' = re ∨ st = 1) → MadeAt K H' p (.dated "x" cal mo da st re') → Q (.ref p) H'
theorem ok_Lmade (T : Txt K mg base) : FnOk P w K mg base CX0 6 T.a_Lmade T.fd_Lmade ["_law_calendar", "_law_wanted_here", "_law_cell"] (sp_Lmade K T) := by
  refine T.F_Lmade.ok sc_Lmade (fun vs H Q E h => ?_) (fun cdv A outer s H vs Q E hr h => ?_)
  · obtain ⟨_, _, _, _, _, _, _, _, rfl, _⟩ := h; rfl
  · obtain ⟨c, w, cal, mo, da, st, re, cell, rfl, hc, hw, sc, ok, hT, q⟩ := h
    have hu := hr.units
    obtain ⟨k1, k2, k3, k4, k5, k6, k7, k8⟩ := ok
    have ok0 : (Rl.dated "x" cal mo da st 0).Ok := ⟨k1, k2, k3, k4, sm_mono (sm41 (by omega) (by omega)) (by decide), k6, k7, k8⟩
    refine ⟨_, (pss_cons (ps_asg (pv 1) (pg_tup rfl (pgs_cons (pg_name (i := 3) sc_Lmade.nd rfl (Or.inl rfl)) (pgs_cons (pg_name (i := 4) sc_Lmade.nd rfl (Or.inl rfl)) (pgs_cons (pg_name (i := 5) sc_Lmade.nd rfl (Or.inl rfl)) (pgs_cons (pg_name (i := 6) sc_Lmade.nd rfl (Or.inl rfl)) pgs_nil))))))
        (pss_cons (ps_if (PW.pt (pw_and (pt_cmpR (kb_eq K (hu := hu)) (pv 5) pe_int (nomark _)) (pw_and1 (pt_cmpR (kb_eq K (hu := hu)) (pe_op op_mod (pv 2) pe_int) pe_int (nomark _))))) (pss_cons (ps_if (PW.pt (pw_and (pt_cmpR kb_isN (pv 4) pe_non (nomark _)) (pw_and1 (pt_cmpR kb_isN (pv 3) pe_non (nomark _))))) (pss_one (ps_ret (pe_call (ok_dated T) (hr.mono (by decide)) (by rfl) T.g_dated T.F_dated.kp T.b_dated_1 T.v_dated_1 pass0 (pa_cons (pv 0) pa_nil)))) pss_nil)
        (pss_cons (ps_if (pt_cmpR kb_isN (pv 4) pe_non (nomark _)) (pss_one (ps_ret (pe_call (ok_dated T) (hr.mono (by decide)) (by rfl) T.g_dated T.F_dated.kp T.b_dated_2 T.v_dated_2 pass0 (pa_cons (pv 0) (pa_cons (pv 3) pa_nil))))) pss_nil)
        (pss_one (ps_ret (pe_call (ok_dated T) (hr.mono (by decide)) (by rfl) T.g_dated T.F_dated.kp T.b_dated_3 T.v_dated_3 pass0 (pa_cons (pv 0) (pa_cons (pv 3) (pa_cons (pv 4) pa_nil)))))))) pss_nil)
        (pss_one (ps_ret (pe_call (ok_dated T) (hr.mono (by decide)) (by rfl) T.g_dated T.F_dated.kp T.b_dated_5 T.v_dated_5 pass0 (pa_cons (pv 0) (pa_cons (pv 3) (pa_cons (pv 4) (pa_cons (pv 5) (pa_cons (pv 6) pa_nil)))))))))), ?_⟩
    walk_at "go"
    with_reducible apply k_seqI
    refine and_split (st = 1 ∧ cell % 3 = 0) (fun h => ?_) (fun h => ?_) fun R' h1 h2 => ?_
    · obtain ⟨rfl, _⟩ := h
      rcases mo with _ | m <;> rcases da with _ | d
      all_goals walk_at "go"
      all_goals simp only [show optV none = V.non from rfl, show ∀ m : Int, optV (some m) = V.int m from fun _ => rfl]
      all_goals walk_at "run"
      · refine k_dated (mo := none) (da := none) "x" hc ok0 hT fun p H' s1 m1 => ?_
        walk_at "go"
        exact q p H' 0 s1 (.inr rfl) m1
      · refine k_dated (mo := none) (da := some d) "x" hc ok0 hT fun p H' s1 m1 => ?_
        walk_at "go"
        exact q p H' 0 s1 (.inr rfl) m1
      · refine k_dated (mo := some m) (da := none) "x" hc ok0 hT fun p H' s1 m1 => ?_
        walk_at "go"
        exact q p H' 0 s1 (.inr rfl) m1
      · refine k_dated (mo := some m) (da := some d) "x" hc ok0 hT fun p H' s1 m1 => ?_
        walk_at "go"
        exact q p H' 0 s1 (.inr rfl) m1
    · walk_at "go"
      refine k_dated "x" hc ⟨k1, k2, k3, k4, k5, k6, k7, k8⟩ hT fun p H' s1 m1 => ?_
      walk_at "go"
      exact q p H' re s1 (.inl rfl) m1
    · walk_at "go"
      refine if_dec (fun g1 => ?_) (fun g1 => ?_)
      · walk_at "go"
        exact dec_two (R := fun b => R' b H) (fun g2 => h1 ⟨g1, g2⟩) (fun g2 => h2 fun z => g2 z.2)
      · walk_at "go"
        exact h2 fun z => g1 z.1
theorem k_Lmade {T : Txt K mg base} {H : Hp} {Q : VK} {E : XK} {c w : Addr} {cal : Cal} {mo da : Option Int} {st re cell : Int} (hc : CalAt K T.C_Sun T.C_Moon T.C_Measure H c cal) (hw : SqT K H w [optV mo, optV da, .int st, .int re]) (sc : Sm 1048576 cell) (ok : (Rl.dated "x" cal mo da st re).Ok) (hT : NdefX.TabsN (NT T.ct_counter) H)
    (q : ∀ (p : Addr) (H' : Hp) (re' : Int), SameT (NT T.ct_counter) H H' → (re' = re ∨ st = 1) → MadeAt K H' p (.dated "x" cal mo da st re') → Q (.ref p) H') : sp_Lmade K T [.ref c, .ref w, .int cell] H Q E := ⟨c, w, cal, mo, da, st, re, cell, rfl, hc, hw, sc, ok, hT, q⟩

/-! ### Moon.__init__ -/
def sp_Moon_init (K : PySem.W.Frag) (T : Txt K mg base) : Sp := fun vs H Q _ => ∃ (x dx pd pm : Addr) (st b1 : Int) (t1 : List Tm) (b2 : Int) (t2 : List Tm), vs = [.ref x, .int st, .ref pd, .ref pm] ∧ H x = some (.ins T.C_Moon dx []) ∧ MeasAt K T.C_Measure H pd b1 t1 ∧ MeasAt K T.C_Measure H pm b2 t2 ∧ MoonOk b1 t1 b2 t2 ∧
  ∀ H', SameX [] x H H' → (∀ Tb, NdefX.TabsN (NT Tb) H → NdefX.TabsN (NT Tb) H') → H' x = some (.ins T.C_Moon dx (mofs st pd pm)) → Q .non H'
theorem ok_Moon_init (T : Txt K mg base) : FnOk P w K mg base CX0 2 T.a_Moon_init T.fd_Moon_init ["self", "start", "days", "many"] (sp_Moon_init K T) := by
  refine T.F_Moon_init.ok sc_Moon_init (fun vs H Q E h => ?_) (fun cdv A outer s H vs Q E hr h => ?_)
  · obtain ⟨_, _, _, _, _, _, _, _, _, rfl, _⟩ := h; rfl
  · obtain ⟨x, dx, pd, pm, st, b1, t1, b2, t2, rfl, hx, hd, hm, ok, q⟩ := h
    have hu := hr.units
    have l1 := ok.m1.len
    have l2 := ok.m2.len
    have f1 := ok.f1
    have f2 := ok.f2
    have c1 := ok.l1
    have c2 := ok.l2
    obtain ⟨dd, ld, hdi, hdt⟩ := id hd
    obtain ⟨dm, lm, hmi, hmt⟩ := id hm
    refine ⟨_, (pss_cons (ps_if (PW.pt (pw_or (pt_cmpR op_le (pe_fld (pv 2) rfl) (pe_call (ok_many_fall T) (hr.mono (by decide)) (by rfl) T.g_many_fall T.F_many_fall.kp T.b_many_fall .nil pass0 (pa_cons (pe_fld (pv 2) rfl) pa_nil)) (nomark _)) (pw_or1 (pt_cmpR op_gt (pe_fld (pv 2) rfl) (pe_glob (v := (.int 1000)) rfl T.c_MOST_DAYS ⟨_, rfl⟩) (nomark _))))) (pss_one ps_never) pss_nil)
        (pss_cons (ps_if (PW.pt (pw_or (pt_cmpR op_le (pe_fld (pv 3) rfl) (pe_call (ok_many_fall T) (hr.mono (by decide)) (by rfl) T.g_many_fall T.F_many_fall.kp T.b_many_fall .nil pass0 (pa_cons (pe_fld (pv 3) rfl) pa_nil)) (nomark _)) (pw_or1 (pt_cmpR op_gt (pe_fld (pv 3) rfl) (pe_glob (v := (.int 20)) rfl T.c_MOST_MONTHS ⟨_, rfl⟩) (nomark _))))) (pss_one ps_never) pss_nil)
        (pss_cons (ps_fld (pv 0) (pv 1) rfl)
        (pss_cons (ps_fld (pv 0) (pv 2) rfl)
        (pss_one (ps_fld (pv 0) (pv 3) rfl)))))), ?_⟩
    walk_at "go"
    with_reducible apply k_seqI
    walk_at "go"
    refine k_fldX hdi T.cl_Measure T.na_Measure_base (mfs_base _ _) ?_
    walk_at "go"
    refine k_fldX hdi T.cl_Measure T.na_Measure_terms (mfs_terms _ _) ?_
    walk_at "go"
    refine k_many_fall hdt (by omega) fun H1 s1 => ?_
    have hdi1 := s1 _ _ hdi
    have hmi1 := s1 _ _ hmi
    have hmt1 := hmt.mono (T := []) (.of s1)
    walk_at "run"
    refine k_fldX hdi1 T.cl_Measure T.na_Measure_base (mfs_base _ _) ?_
    walk_at "run"
    refine k_fldX hmi1 T.cl_Measure T.na_Measure_base (mfs_base _ _) ?_
    walk_at "go"
    refine k_fldX hmi1 T.cl_Measure T.na_Measure_terms (mfs_terms _ _) ?_
    walk_at "go"
    refine k_many_fall hmt1 (by omega) fun H2 s2 => ?_
    have hmi2 := s2 _ _ hmi1
    walk_at "run"
    refine k_fldX hmi2 T.cl_Measure T.na_Measure_base (mfs_base _ _) ?_
    have s12 := s1.trans s2
    have hx2 := s12 _ _ hx
    walk_at "run"
    refine k_stoX hx2 T.cl_Moon T.na_Moon_start (by show 0 < 1000; decide) ?_
    walk_at "run"
    refine k_stoX upd_same T.cl_Moon T.na_Moon_days (by show 1 < 1000; decide) ?_
    walk_at "run"
    refine k_stoX upd_same T.cl_Moon T.na_Moon_many (by rw [mofs_p1, mofs_p2]; show 2 < 1000; decide) ?_
    rw [mofs_p1, mofs_p2, mofs_p3]
    have key : ∀ Tb : List NdefX.NTab, SameX Tb x H (upd (upd (upd H2 x (.ins T.C_Moon dx (mofs1 st))) x (.ins T.C_Moon dx (mofs2 st pd))) x (.ins T.C_Moon dx (mofs st pd pm))) := fun Tb => (SameX.of (.of s12)).trans ((SameX.upd hx2).trans ((SameX.upd upd_same).trans (SameX.upd upd_same)))
    exact q _ (key []) (fun Tb => (key (NT Tb)).tab) upd_same
theorem k_Moon_init {T : Txt K mg base} {H : Hp} {Q : VK} {E : XK} {x dx pd pm : Addr} {st b1 : Int} {t1 : List Tm} {b2 : Int} {t2 : List Tm} (hx : H x = some (.ins T.C_Moon dx [])) (hd : MeasAt K T.C_Measure H pd b1 t1) (hm : MeasAt K T.C_Measure H pm b2 t2) (ok : MoonOk b1 t1 b2 t2)
    (q : ∀ H', SameX [] x H H' → (∀ Tb, NdefX.TabsN (NT Tb) H → NdefX.TabsN (NT Tb) H') → H' x = some (.ins T.C_Moon dx (mofs st pd pm)) → Q .non H') : sp_Moon_init K T [.ref x, .int st, .ref pd, .ref pm] H Q E := ⟨x, dx, pd, pm, st, b1, t1, b2, t2, rfl, hx, hd, hm, ok, q⟩
/-- Moon(..) -/
theorem k_mkMoon {T : Txt K mg base} {H : Hp} {Q : VK} {pd pm : Addr} {st b1 : Int} {t1 : List Tm} {b2 : Int} {t2 : List Tm} {vs dvs : List V} (e : vs ++ dvs = [.int st, .ref pd, .ref pm]) (hd : MeasAt K T.C_Measure H pd b1 t1) (hm : MeasAt K T.C_Measure H pm b2 t2) (ok : MoonOk b1 t1 b2 t2)
    (q : ∀ x dx H', H x = none → SameT (NT T.ct_counter) H H' → H' x = some (.ins T.C_Moon dx (mofs st pd pm)) → Q (.ref x) H') : MakR T.C_Moon (sp_Moon_init K T) dvs E0 vs H Q := by
  intro x dx hx hd' hne
  rw [e]
  have s0 : Same H (upd (upd H dx (.own x)) x (.ins T.C_Moon dx [])) := fun c o h => by
    rw [upd_ne (ne_of_none h hx), upd_ne (ne_of_none h hd')]; exact h
  refine k_Moon_init upd_same (hd.mono (T := []) (.of s0)) (hm.mono (T := []) (.of s0)) ok fun H' sx tb hm => ⟨rfl, q x dx H' hx ?_ hm⟩
  exact SameX.made hx hd' ⟨sx.ext, tb _⟩

/-! ### _law_moon -/
def sp_Lmoon (K : PySem.W.Frag) (T : Txt K mg base) : Sp := fun vs H Q _ => ∃ (a : Addr) (ns : List Int), vs = [.ref a] ∧ SqL K H a (ns.map V.int) ∧ (∀ z ∈ ns, Builtin.Int.intBits z ≤ 1048576) ∧ NdefX.TabsN (NT T.ct_counter) H ∧
  ∀ (x : Addr) (H' : Hp) (cal : Cal), SameT (NT T.ct_counter) H H' → CalAt K T.C_Sun T.C_Moon T.C_Measure H' x cal → cal.Ok → cal.dys ≤ 4000 → -10000000000000000000000000000000000000000 ≤ cal.st → cal.st ≤ 10000000000000000000000000000000000000000 → Q (.ref x) H'
theorem ok_Lmoon (T : Txt K mg base) : FnOk P w K mg base CX0 6 T.a_Lmoon T.fd_Lmoon ["_law_script"] (sp_Lmoon K T) := by
  refine T.F_Lmoon.ok sc_Lmoon (fun vs H Q E h => ?_) (fun cdv A outer s H vs Q E hr h => ?_)
  · obtain ⟨_, _, rfl, _⟩ := h; rfl
  · obtain ⟨a, ns, rfl, hS, hb, hT, q⟩ := h
    have hu := hr.units
    refine ⟨_, (pss_cons (ps_set (i := 1) sc_Lmoon.nd rfl (Or.inl rfl) (pe_call (ok_Lnumber T) (hr.mono (by decide)) (by rfl) T.g_Lnumber T.F_Lnumber.kp T.b_Lnumber .nil pass0 (pa_cons (pe_call (ok_Lcell_at T) (hr.mono (by decide)) (by rfl) T.g_Lcell_at T.F_Lcell_at.kp T.b_Lcell_at .nil pass0 (pa_cons (pv 0) (pa_cons pe_int pa_nil))) pa_nil)))
        (pss_cons (ps_set (i := 2) sc_Lmoon.nd rfl (Or.inl rfl) (pe_call (ok_Lcell_at T) (hr.mono (by decide)) (by rfl) T.g_Lcell_at T.F_Lcell_at.kp T.b_Lcell_at .nil pass0 (pa_cons (pv 0) (pa_cons pe_int pa_nil))))
        (pss_cons (ps_set (i := 3) sc_Lmoon.nd rfl (Or.inl rfl) (pe_call (ok_Lcell_at T) (hr.mono (by decide)) (by rfl) T.g_Lcell_at T.F_Lcell_at.kp T.b_Lcell_at .nil pass0 (pa_cons (pv 0) (pa_cons pe_int pa_nil))))
        (pss_cons (ps_if (pt_cmpR (kb_eq K (hu := hu)) (pe_op op_mod (pv 2) pe_int) pe_int (nomark _)) (pss_one (ps_ret (pe_make T.mk_Moon (ok_Moon_init T) (hr.mono (by decide)) rfl T.gc_Moon T.b_Moon_init .nil pass0 (pa_cons (pv 1) (pa_cons (pe_make T.mk_Measure (ok_Measure_init T) (hr.mono (by decide)) rfl T.gc_Measure T.b_Measure_init_3 T.v_Measure_init_3 pass0 (pa_cons pe_int (pa_cons (pe_lst (pa_cons (pe_tup (pa_cons pe_int (pa_cons pe_int (pa_cons (pe_op op_mod (pv 3) pe_int) (pa_cons pe_int pa_nil))))) pa_nil)) pa_nil))) (pa_cons (pe_make T.mk_Measure (ok_Measure_init T) (hr.mono (by decide)) rfl T.gc_Measure T.b_Measure_init_3 T.v_Measure_init_3 pass0 (pa_cons pe_int (pa_cons (pe_lst (pa_cons (pe_tup (pa_cons pe_int (pa_cons pe_int (pa_cons (pe_op op_mod (pv 3) pe_int) (pa_cons pe_int pa_nil))))) pa_nil)) pa_nil))) pa_nil)))))) pss_nil)
        (pss_cons (ps_set (i := 4) sc_Lmoon.nd rfl (Or.inl rfl) (pe_make T.mk_Measure (ok_Measure_init T) (hr.mono (by decide)) rfl T.gc_Measure T.b_Measure_init_3 T.v_Measure_init_3 pass0 (pa_cons (pe_op op_addA pe_int (pe_op op_mod (pv 2) pe_int)) (pa_cons (pe_slice sl_list (pe_lst (pa_cons (pe_call (ok_Lterm T) (hr.mono (by decide)) (by rfl) T.g_Lterm T.F_Lterm.kp T.b_Lterm .nil pass0 (pa_cons (pe_op op_fdivW (pv 2) pe_int) (pa_cons pe_int pa_nil))) pa_nil)) po_none (po_some (pe_op op_mod (pe_op op_fdivW (pv 2) pe_int) pe_int))) pa_nil))))
        (pss_one (ps_ret (pe_make T.mk_Moon (ok_Moon_init T) (hr.mono (by decide)) rfl T.gc_Moon T.b_Moon_init .nil pass0 (pa_cons (pv 1) (pa_cons (pv 4) (pa_cons (pe_make T.mk_Measure (ok_Measure_init T) (hr.mono (by decide)) rfl T.gc_Measure T.b_Measure_init_3 T.v_Measure_init_3 pass0 (pa_cons (pe_op op_addA pe_int (pe_op op_mod (pv 3) pe_int)) (pa_cons (pe_slice sl_list (pe_lst (pa_cons (pe_call (ok_Lterm T) (hr.mono (by decide)) (by rfl) T.g_Lterm T.F_Lterm.kp T.b_Lterm .nil pass0 (pa_cons (pe_op op_fdivW (pv 3) pe_int) (pa_cons pe_int pa_nil))) pa_nil)) po_none (po_some (pe_op op_mod (pe_op op_fdivW (pv 3) pe_int) pe_int))) pa_nil))) pa_nil))))))))))), ?_⟩
    walk_at "go"
    rename_i c1 _ sc1
    refine k_Lnumber fun st H1 s1 st0 st1 => ?_
    have hS1 := same_l s1 hS
    have hT1 := hT.ext s1
    walk_at "go"
    rename_i c2 _ sc2 c3 _ sc3
    with_reducible apply k_seqI
    walk_at "go"
    refine if_dec (fun w1 => ?_) (fun w1 => ?_)
    · walk_at "go"
      rename_i p2 H2 hn2 s2 t2 p3 H3 hn3 s3 t3
      have m0 : 0 ≤ c3 % 2 := by omega
      have m1 : c3 % 2 < 2 := by omega
      generalize c3 % 2 = B at *
      have tok : TmOk ⟨1, 1, B, 2⟩ := ⟨.inl rfl, by show (1:Int) ≤ 2; decide, by show (2:Int) ≤ 1000; decide, by show (0:Int) ≤ 1; decide, by show (1:Int) ≤ 2; decide, m0, m1⟩
      have hf : fallsT [⟨1, 1, B, 2⟩] = 0 := by simp [fallsT]
      have mA : MeasOk 2 [⟨1, 1, B, 2⟩] := measOk_of (tm_one tok) (by show 1 ≤ 6; decide) (by decide) (by rw [hf]; decide) (.inl (by rw [hf]; decide))
      refine k_mkMeasure (v := .ref p3) (ts := [⟨1, 1, B, 2⟩]) rfl (.inr ⟨p3, rfl, [p2], SqL.of t3, TmsAt.nil.snoc (SqT.of (show H3 p2 = some (.tup (tmV ⟨1, 1, B, 2⟩)) from s3 _ _ t2))⟩) mA (hT1.ext (s2.trans s3)) fun x4 H4 hx4 s4 hm4 => ?_
      have s14 : SameT (NT T.ct_counter) H1 H4 := (SameT.of (s2.trans s3)).trans s4
      walk_at "go"
      rename_i p5 H5 hn5 s5 t5 p6 H6 hn6 s6 t6
      have g0 : 0 ≤ c3 % 19 := by omega
      have g1 : c3 % 19 < 19 := by omega
      generalize c3 % 19 = G at *
      have tok2 : TmOk ⟨1, 7, G, 19⟩ := ⟨.inl rfl, by show (1:Int) ≤ 19; decide, by show (19:Int) ≤ 1000; decide, by show (0:Int) ≤ 7; decide, by show (7:Int) ≤ 19; decide, g0, g1⟩
      have hf2 : fallsT [⟨1, 7, G, 19⟩] = 0 := by simp [fallsT]
      have mB : MeasOk 12 [⟨1, 7, G, 19⟩] := measOk_of (tm_one tok2) (by show 1 ≤ 6; decide) (by decide) (by rw [hf2]; decide) (.inl (by rw [hf2]; decide))
      have hT4 := s14.tab hT1
      refine k_mkMeasure (v := .ref p6) (ts := [⟨1, 7, G, 19⟩]) rfl (.inr ⟨p6, rfl, [p5], SqL.of t6, TmsAt.nil.snoc (SqT.of (show H6 p5 = some (.tup (tmV ⟨1, 7, G, 19⟩)) from s6 _ _ t5))⟩) mB (hT4.ext (s5.trans s6)) fun x7 H7 hx7 s7 hm7 => ?_
      have s47 : SameT (NT T.ct_counter) H4 H7 := (SameT.of (s5.trans s6)).trans s7
      have ok : MoonOk 2 [⟨1, 1, B, 2⟩] 12 [⟨1, 7, G, 19⟩] := ⟨mA, mB, by rw [hf]; decide, by rw [hf2]; decide, by decide, by decide⟩
      walk_at "go"
      refine k_mkMoon rfl (hm4.at.mono s47) hm7.at ok fun x dx H9 hx9 s9 hxi => ?_
      walk_at "go"
      exact q x H9 (.moon st 2 [⟨1, 1, B, 2⟩] 12 [⟨1, 7, G, 19⟩]) ((((SameT.of s1).trans s14).trans s47).trans s9) ⟨dx, x4, x7, hxi, (hm4.at.mono s47).mono s9, hm7.at.mono s9⟩ ok (Int.le_trans (moon_dysL ok (A := 3) (B := 2) (C := 13) (D := 19) (by show (2 : Int) + 1 ≤ 3; decide) (by rw [perT_one tok.n1]; show (2 : Int) ≤ 2; decide) (by show (12 : Int) + 1 ≤ 13; decide) (by rw [perT_one tok2.n1]; show (19 : Int) ≤ 19; decide)) (by decide)) st0 st1
    have hmes : ∀ (u : Tm) (ts : List Tm) (b : Int), TmOk u → (∀ t ∈ ts, t ∈ [u]) → ts.length ≤ 1 → 2 ≤ b → b ≤ 12 → MeasOk b ts ∧ fallsT ts < b := fun u ts b ok hm hl b0 b1 => by
      have fb := falls_bd ts
      exact ⟨measOk_of (fun t ht => by rw [List.mem_singleton.mp (hm t ht)]; exact ok) (by omega) (by omega) (by omega) (.inl (by omega)), by omega⟩
    have hper : ∀ (u : Tm) (ts : List Tm), TmOk u → u.n ≤ 4 → (∀ t ∈ ts, t ∈ [u]) → ts.length ≤ 1 → perT ts ≤ 4 := fun u ts ok hn hm hl => by
      match ts, hl with
      | [], _ => decide
      | [t], _ =>
        have e := List.mem_singleton.mp (hm t (by simp))
        rw [e, perT_one ok.n1]; exact hn
    walk_at "go"
    refine k_Lterm (sm_quot sc2) (by decide) (by decide) fun p5 H5 u5 s5 t5 ok5 n5 => ?_
    walk_at "go"
    rename_i p6 H6 hn6 s6 t6 p7 H7 hn7 s7 t7
    obtain ⟨qs9, ts9, e9, hq9, hl9, hm9⟩ := cut_tms (show TmsAt K H7 [p5] [u5] from TmsAt.nil.snoc (SqT.of ((s6.trans s7) _ _ t5))) none (some (c2 / 100 % 2))
    rw [show ([V.ref p5] : List V) = [p5].map V.ref from rfl, e9] at t7
    have hl91 : ts9.length ≤ 1 := hl9
    obtain ⟨mA, fA⟩ := hmes u5 ts9 (2 + c2 % 11) ok5 hm9 hl91 (by omega) (by omega)
    have pA := hper u5 ts9 ok5 n5 hm9 hl91
    have bA : 2 + c2 % 11 ≤ 12 := by omega
    generalize 2 + c2 % 11 = b1 at *
    have s17 := (s5.trans s6).trans s7
    have hT7 := hT1.ext s17
    refine k_mkMeasure (v := .ref p7) rfl (.inr ⟨p7, rfl, qs9, SqL.of t7, hq9⟩) mA hT7 fun x4 H8 hx4 s8 hm8 => ?_
    have hT8 := s8.tab hT7
    walk_at "go"
    refine k_Lterm (sm_quot sc3) (by decide) (by decide) fun p15 H15 u15 s15 t15 ok15 n15 => ?_
    walk_at "go"
    rename_i p16 H16 hn16 s16 t16 p17 H17 hn17 s17' t17
    obtain ⟨qs19, ts19, e19, hq19, hl19, hm19⟩ := cut_tms (show TmsAt K H17 [p15] [u15] from TmsAt.nil.snoc (SqT.of ((s16.trans s17') _ _ t15))) none (some (c3 / 100 % 2))
    rw [show ([V.ref p15] : List V) = [p15].map V.ref from rfl, e19] at t17
    have hl191 : ts19.length ≤ 1 := hl19
    obtain ⟨mB, fB⟩ := hmes u15 ts19 (2 + c3 % 2) ok15 hm19 hl191 (by omega) (by omega)
    have pB := hper u15 ts19 ok15 n15 hm19 hl191
    have bB : 2 + c3 % 2 ≤ 3 := by omega
    generalize 2 + c3 % 2 = b2 at *
    have s27 := (s15.trans s16).trans s17'
    have hT17 := hT8.ext s27
    refine k_mkMeasure (v := .ref p17) rfl (.inr ⟨p17, rfl, qs19, SqL.of t17, hq19⟩) mB hT17 fun x14 H18 hx14 s18 hm18 => ?_
    have s818 : SameT (NT T.ct_counter) H8 H18 := (SameT.of s27).trans s18
    have ok : MoonOk b1 ts9 b2 ts19 := ⟨mA, mB, fA, fB, by omega, by omega⟩
    walk_at "go"
    refine k_mkMoon rfl (hm8.at.mono s818) hm18.at ok fun x dx H19 hx19 s19 hxi => ?_
    walk_at "go"
    exact q x H19 (.moon st b1 ts9 b2 ts19) ((((SameT.of (s1.trans s17)).trans s8).trans s818).trans s19) ⟨dx, x4, x14, hxi, (hm8.at.mono s818).mono s19, hm18.at.mono s19⟩ ok (Int.le_trans (moon_dysL ok (A := 13) (B := 4) (C := 4) (D := 4) (by omega) pA (by omega) pB) (by decide)) st0 st1
theorem k_Lmoon {T : Txt K mg base} {H : Hp} {Q : VK} {E : XK} {a : Addr} {ns : List Int} (hS : SqL K H a (ns.map V.int)) (hb : ∀ z ∈ ns, Builtin.Int.intBits z ≤ 1048576) (hT : NdefX.TabsN (NT T.ct_counter) H)
  (q : ∀ (x : Addr) (H' : Hp) (cal : Cal), SameT (NT T.ct_counter) H H' → CalAt K T.C_Sun T.C_Moon T.C_Measure H' x cal → cal.Ok → cal.dys ≤ 4000 → -10000000000000000000000000000000000000000 ≤ cal.st → cal.st ≤ 10000000000000000000000000000000000000000 → Q (.ref x) H') : sp_Lmoon K T [.ref a] H Q E := ⟨a, ns, rfl, hS, hb, hT, q⟩

/-! ### _law_is_short -/
def sp_Lis_short (K : PySem.W.Frag) (T : Txt K mg base) : Sp := fun vs H Q _ => ∃ (c : Addr) (cal : Cal), vs = [.ref c] ∧ CalAt K T.C_Sun T.C_Moon T.C_Measure H c cal ∧ cal.Ok ∧ NdefX.TabsN (NT T.ct_counter) H ∧
  ∀ (H' : Hp) (b : Bool), SameT (NT T.ct_counter) H H' → (b = true → cal.yrs ≤ 800 ∧ cal.dys ≤ 4400) → Q (.bl b) H'
theorem ok_Lis_short (T : Txt K mg base) : FnOk P w K mg base CX0 5 T.a_Lis_short T.fd_Lis_short ["_law_calendar"] (sp_Lis_short K T) := by
  refine T.F_Lis_short.ok sc_Lis_short (fun vs H Q E h => ?_) (fun cdv A outer s H vs Q E hr h => ?_)
  · obtain ⟨_, _, rfl, _⟩ := h; rfl
  · obtain ⟨c, cal, rfl, hc, ok, hT, q⟩ := h
    have hu := hr.units
    refine ⟨_, (pss_one (ps_ret (pe_and (pe_cmpR op_le (pe_ix (kb_ix K) (pe_alt2 (pe_meth0 (pv 0) T.cl_Sun T.me_Sun_cycle (ok_Sun_cycle T) (hr.mono (by decide)) T.b_Sun_cycle .nil pass0) (pe_meth0 (pv 0) T.cl_Moon T.me_Moon_cycle (ok_Moon_cycle T) (hr.mono (by decide)) T.b_Moon_cycle .nil pass0)) pe_int (fun _ _ => rfl)) pe_int (nomark _)) (pe_one (pe_cmpR op_le (pe_ix (kb_ix K) (pe_alt2 (pe_meth0 (pv 0) T.cl_Sun T.me_Sun_cycle (ok_Sun_cycle T) (hr.mono (by decide)) T.b_Sun_cycle .nil pass0) (pe_meth0 (pv 0) T.cl_Moon T.me_Moon_cycle (ok_Moon_cycle T) (hr.mono (by decide)) T.b_Moon_cycle .nil pass0)) pe_int (fun _ _ => rfl)) pe_int (nomark _)))))), ?_⟩
    walk_at "go"
    refine k_altX hc noF_cycle ?_
    walk_at "go"
    refine k_Cal_cycle hc ok hT fun p1 H1 hn1 s1 t1 => ?_
    have hc1 := hc.mono s1
    have hT1 := s1.tab hT
    walk_at "go"
    refine if_dec (fun h1 => ?_) (fun h1 => ?_)
    · walk_at "go"
      refine k_altX hc1 noF_cycle ?_
      walk_at "go"
      refine k_Cal_cycle hc1 ok hT1 fun p2 H2 hn2 s2 t2 => ?_
      walk_at "go"
      exact q H2 _ (s1.trans s2) fun h => ⟨h1, of_decide_eq_true h⟩
    · walk_at "go"
      exact q H1 _ s1 fun h => Bool.noConfusion h
theorem k_Lis_short {T : Txt K mg base} {H : Hp} {Q : VK} {E : XK} {c : Addr} {cal : Cal} (h : CalAt K T.C_Sun T.C_Moon T.C_Measure H c cal) (ok : cal.Ok) (hT : NdefX.TabsN (NT T.ct_counter) H)
    (q : ∀ (H' : Hp) (b : Bool), SameT (NT T.ct_counter) H H' → (b = true → cal.yrs ≤ 800 ∧ cal.dys ≤ 4400) → Q (.bl b) H') : sp_Lis_short K T [.ref c] H Q E := ⟨c, cal, rfl, h, ok, hT, q⟩

/-! ### _law_mixed -/
/-- what a cell's part is -/
def mixF (c k : Int) : Int := if c % 2 = 0 then Builtin.bitAnd (c / 2 / 2 ^ (41 * k).toNat) 2199023255551 else
  ((c % 2147483647 + 7919 * k + 1) * 48271 % 2147483647 * ((c % 2147483647 + 7919 * k + 1) * 48271 % 2147483647 / 1009 + 69621) % 2147483647) * (((c % 2147483647 + 7919 * k + 1) * 48271 % 2147483647 * ((c % 2147483647 + 7919 * k + 1) * 48271 % 2147483647 / 1009 + 69621) % 2147483647) / 4099 + 16807 + k) % 2147483629
theorem mixF_bd (c k : Int) : 0 ≤ mixF c k ∧ mixF c k ≤ 2199023255551 := by
  unfold mixF
  by_cases h : c % 2 = 0
  · rw [if_pos h]; exact and_mask41 _
  · rw [if_neg h]
    exact ⟨Int.emod_nonneg _ (by decide), Int.le_of_lt (Int.lt_of_lt_of_le (Int.emod_lt_of_pos _ (by decide)) (by decide))⟩
def sp_Lmixed (K : PySem.W.Frag) : Sp := fun vs H Q _ => ∃ c k : Int, vs = [.int c, .int k] ∧ Sm 1048576 c ∧ 0 ≤ k ∧ k ≤ 100 ∧ Q (.int (mixF c k)) H
theorem ok_Lmixed (T : Txt K mg base) : FnOk P w K mg base CX0 1 T.a_Lmixed T.fd_Lmixed ["_law_cell", "_law_k"] (sp_Lmixed K) := by
  refine T.F_Lmixed.ok sc_Lmixed (fun vs H Q E h => ?_) (fun cdv A outer s H vs Q E hr h => ?_)
  · obtain ⟨_, _, rfl, _⟩ := h; rfl
  · obtain ⟨c, k, rfl, sc, hk0, hk1, q⟩ := h
    have hu := hr.units
    refine ⟨_, (pss_cons (ps_if (pt_cmpR (kb_eq K (hu := hu)) (pe_op op_mod (pv 0) pe_int) pe_int (nomark _)) (pss_one (ps_ret (pe_op op_and (pe_op op_shr (pe_op op_fdivW (pv 0) pe_int) (pe_op op_mulX pe_int (pv 1))) pe_int))) pss_nil)
        (pss_cons (ps_set (i := 2) sc_Lmixed.nd rfl (Or.inl rfl) (pe_op op_mod (pe_op op_mulX (pe_op op_addA (pe_op op_addA (pe_op op_mod (pv 0) pe_int) (pe_op op_mulX pe_int (pv 1))) pe_int) pe_int) pe_int))
        (pss_cons (ps_set (i := 2) sc_Lmixed.nd rfl (Or.inl rfl) (pe_op op_mod (pe_op op_mulX (pv 2) (pe_op op_addA (pe_op op_fdivW (pv 2) pe_int) pe_int)) pe_int))
        (pss_one (ps_ret (pe_op op_mod (pe_op op_mulX (pv 2) (pe_op op_addA (pe_op op_addA (pe_op op_fdivW (pv 2) pe_int) pe_int) (pv 1))) pe_int)))))), ?_⟩
    with_reducible apply k_seqI
    walk_at "go"
    refine if_dec (fun hc => ?_) (fun hc => ?_)
    · walk_at "go"
      unfold mixF at q
      rw [if_pos hc] at q
      exact q
    walk_at "go"
    unfold mixF at q
    rw [if_neg hc] at q
    exact q
theorem k_Lmixed {K : PySem.W.Frag} {H : Hp} {Q : VK} {E : XK} {c k : Int} (sc : Sm 1048576 c) (h0 : 0 ≤ k) (h1 : k ≤ 100) (q : 0 ≤ mixF c k → mixF c k ≤ 2199023255551 → Q (.int (mixF c k)) H) : sp_Lmixed K [.int c, .int k] H Q E := ⟨c, k, rfl, sc, h0, h1, q (mixF_bd c k).1 (mixF_bd c k).2⟩

/-! ### _law_any_term -/
/-- what any calendar of the law is, told by two cells and a start -/
def anyN (c k m : Int) : Int := 1 + mixF c (4 * k + 1) % m
def anyT (c k m : Int) : Tm := ⟨1 - 2 * (mixF c (4 * k + 4) % 2), mixF c (4 * k + 2) % (anyN c k m + 1), mixF c (4 * k + 3) % anyN c k m, anyN c k m⟩
theorem anyT_ok {c k m : Int} (m0 : 1 ≤ m) (m1 : m ≤ 1000) : TmOk (anyT c k m) := by
  have n0 := Int.emod_nonneg (mixF c (4 * k + 1)) (show m ≠ 0 by omega)
  have n1 := Int.emod_lt_of_pos (mixF c (4 * k + 1)) (show 0 < m by omega)
  have hn : 1 ≤ anyN c k m ∧ anyN c k m ≤ 1000 := by unfold anyN; omega
  have a0 := Int.emod_nonneg (mixF c (4 * k + 2)) (show anyN c k m + 1 ≠ 0 by omega)
  have a1 := Int.emod_lt_of_pos (mixF c (4 * k + 2)) (show 0 < anyN c k m + 1 by omega)
  have b0 := Int.emod_nonneg (mixF c (4 * k + 3)) (show anyN c k m ≠ 0 by omega)
  have b1 := Int.emod_lt_of_pos (mixF c (4 * k + 3)) (show 0 < anyN c k m by omega)
  exact ⟨by show 1 - 2 * (mixF c (4 * k + 4) % 2) = 1 ∨ 1 - 2 * (mixF c (4 * k + 4) % 2) = -1; omega, hn.1, hn.2, a0, by show mixF c (4 * k + 2) % (anyN c k m + 1) ≤ anyN c k m; omega, b0, b1⟩
def mostA (c : Int) : Int := ([2, 5, 30, 1000] : List Int).getD (c / 7 % 4).toNat 0
theorem mostA_bd (c : Int) : 1 ≤ mostA c ∧ mostA c ≤ 1000 := pick_all (P := fun z => 1 ≤ z ∧ z ≤ 1000) (by omega) (by show c / 7 % 4 < 4; omega) (by decide)
def anyTs (c : Int) : List Tm := (List.range (c % 7).toNat).map fun k : Nat => anyT (c / 28) (k : Int) (mostA c)
theorem anyTs_ok (c : Int) : ∀ t ∈ anyTs c, TmOk t := fun t ht => by
  obtain ⟨k, _, rfl⟩ := List.mem_map.mp ht
  exact anyT_ok (mostA_bd c).1 (mostA_bd c).2
theorem anyTs_len (c : Int) : (anyTs c).length ≤ 6 := by unfold anyTs; rw [List.length_map, List.length_range]; omega
def wideA (c mo : Int) : Int := ([3, mo] : List Int).getD (mixF (c / 28) 31 % 2).toNat 0
theorem wideA_bd (c : Int) {mo : Int} (m0 : 7 ≤ mo) (m1 : mo ≤ 1000) : 1 ≤ wideA c mo ∧ wideA c mo ≤ 1000 := pick_all (P := fun z => 1 ≤ z ∧ z ≤ 1000) (by omega) (by show mixF (c / 28) 31 % 2 < 2; omega) (by simp; omega)
def anyB (c mo : Int) : Int := if mo ≤ fallsT (anyTs c) + 1 + mixF (c / 28) 30 % wideA c mo then mo else fallsT (anyTs c) + 1 + mixF (c / 28) 30 % wideA c mo
theorem anyB_bd (c : Int) {mo : Int} (m0 : 7 ≤ mo) (m1 : mo ≤ 1000) : fallsT (anyTs c) < anyB c mo ∧ anyB c mo ≤ mo := by
  have h1 := anyTs_len c
  have fb := falls_bd (anyTs c)
  have hw := wideA_bd c m0 m1
  have n0 := Int.emod_nonneg (mixF (c / 28) 30) (show wideA c mo ≠ 0 by omega)
  unfold anyB
  split <;> omega
theorem anyB_ok (c : Int) {mo : Int} (m0 : 7 ≤ mo) (m1 : mo ≤ 1000) : MeasOk (anyB c mo) (anyTs c) := by
  have h := anyB_bd c m0 m1
  exact measOk_of (anyTs_ok c) (anyTs_len c) (by omega) (by omega) (.inl h.1)
def lenA (d : Int) : List Int := (List.range (1 + d / 4 % 20).toNat).map fun k : Nat => mixF (d / 80) (k : Int) % ([3, 13, 32, 1001] : List Int).getD (d % 4).toNat 0
theorem tall_bd (d : Int) : 1 ≤ ([3, 13, 32, 1001] : List Int).getD (d % 4).toNat 0 ∧ ([3, 13, 32, 1001] : List Int).getD (d % 4).toNat 0 ≤ 1001 := pick_all (P := fun z => 1 ≤ z ∧ z ≤ 1001) (by omega) (by show d % 4 < 4; omega) (by decide)
theorem lenA_len (d : Int) : ((lenA d).length : Int) = 1 + d / 4 % 20 := by unfold lenA; rw [List.length_map, List.length_range]; omega
theorem lenA_rng (d : Int) : ∀ x ∈ lenA d, 0 ≤ x ∧ x ≤ 1000 := fun x hx => by
  obtain ⟨k, _, rfl⟩ := List.mem_map.mp hx
  have h := tall_bd d
  generalize ([3, 13, 32, 1001] : List Int).getD (d % 4).toNat 0 = w at *
  have n0 := Int.emod_nonneg (mixF (d / 80) (k : Int)) (show w ≠ 0 by omega)
  have n1 := Int.emod_lt_of_pos (mixF (d / 80) (k : Int)) (show 0 < w by omega)
  show 0 ≤ mixF (d / 80) (k : Int) % w ∧ mixF (d / 80) (k : Int) % w ≤ 1000
  omega
def leapA (d : Int) : Int := 1 + mixF (d / 80) 30 % (1 + d / 4 % 20)
theorem leapA_bd (d : Int) : 1 ≤ leapA d ∧ leapA d ≤ (lenA d).length := by
  have h := lenA_len d
  have n0 := Int.emod_nonneg (mixF (d / 80) 30) (show 1 + d / 4 % 20 ≠ 0 by omega)
  have n1 := Int.emod_lt_of_pos (mixF (d / 80) 30) (show 0 < 1 + d / 4 % 20 by omega)
  unfold leapA
  omega
def maxI (a b : Int) : Int := if a < b then b else a
def sunA (c d : Int) : List Int := (lenA d).set (leapA d - 1).toNat (maxI ((lenA d).getD (leapA d - 1).toNat 0) (fallsT (anyTs c) + 1))
theorem sunA_ok (c d : Int) : SunOk (sunA c d) (leapA d) (anyTs c) := by
  have h1 := lenA_len d
  have h2 := leapA_bd d
  have h3 := lenA_rng d
  have h4 := anyTs_len c
  have fb := falls_bd (anyTs c)
  have hg := pick_all (P := fun z => 0 ≤ z ∧ z ≤ 1000) (l := lenA d) (i := leapA d - 1) (by omega) (by omega) h3
  refine sunOk_set (by omega) (by omega) h3 h2.1 h2.2 ?_ ?_ h4 (anyTs_ok c)
  · unfold maxI; split <;> omega
  · unfold maxI; split <;> omega
def anyF (c d st : Int) : Cal := if c % 3 = 2 then .moon st (anyB (c / 3) 1000) (anyTs (c / 3)) (anyB d 20) (anyTs d) else .sun st (sunA (c / 3) d) (leapA d) (anyTs (c / 3))
theorem anyF_ok (c d st : Int) : (anyF c d st).Ok := by
  unfold anyF
  split
  · have a := anyB_bd (c / 3) (mo := 1000) (by decide) (by decide)
    have b := anyB_bd d (mo := 20) (by decide) (by decide)
    exact ⟨anyB_ok _ (by decide) (by decide), anyB_ok _ (by decide) (by decide), a.1, b.1, a.2, b.2⟩
  · exact sunA_ok _ _
theorem anyF_st (c d st : Int) : (anyF c d st).st = st := by unfold anyF; split <;> rfl
theorem anyF_yrs (c d st st' : Int) : (anyF c d st).yrs = (anyF c d st').yrs := by unfold anyF; split <;> rfl
theorem anyF_dys (c d st st' : Int) : (anyF c d st).dys = (anyF c d st').dys := by unfold anyF; split <;> rfl
def sp_Lany_term (K : PySem.W.Frag) : Sp := fun vs H Q _ => ∃ c k m : Int, vs = [.int c, .int k, .int m] ∧ Sm 1048576 c ∧ 0 ≤ k ∧ k ≤ 10 ∧ 1 ≤ m ∧ m ≤ 1000 ∧ ∀ (p : Addr) (H' : Hp), Same H H' → H' p = some (.tup (tmV (anyT c k m))) → Q (.ref p) H'
theorem ok_Lany_term (T : Txt K mg base) : FnOk P w K mg base CX0 2 T.a_Lany_term T.fd_Lany_term ["_law_cell", "_law_k", "_law_most"] (sp_Lany_term K) := by
  refine T.F_Lany_term.ok sc_Lany_term (fun vs H Q E h => ?_) (fun cdv A outer s H vs Q E hr h => ?_)
  · obtain ⟨_, _, _, rfl, _⟩ := h; rfl
  · obtain ⟨c, k, m, rfl, sc, hk0, hk1, hm0, hm1, q⟩ := h
    have hu := hr.units
    have n0 := Int.emod_nonneg (mixF c (4 * k + 1)) (show m ≠ 0 by omega)
    have n1 := Int.emod_lt_of_pos (mixF c (4 * k + 1)) (show 0 < m by omega)
    have hn : 1 ≤ anyN c k m ∧ anyN c k m ≤ 1000 := by unfold anyN; omega
    refine ⟨_, (pss_cons (ps_set (i := 3) sc_Lany_term.nd rfl (Or.inl rfl) (pe_op op_addA pe_int (pe_op op_mod (pe_call (ok_Lmixed T) (hr.mono (by decide)) (by rfl) T.g_Lmixed T.F_Lmixed.kp T.b_Lmixed .nil pass0 (pa_cons (pv 0) (pa_cons (pe_op op_addA (pe_op op_mulX pe_int (pv 1)) pe_int) pa_nil))) (pv 2))))
        (pss_cons (ps_set (i := 4) sc_Lany_term.nd rfl (Or.inl rfl) (pe_op op_mod (pe_call (ok_Lmixed T) (hr.mono (by decide)) (by rfl) T.g_Lmixed T.F_Lmixed.kp T.b_Lmixed .nil pass0 (pa_cons (pv 0) (pa_cons (pe_op op_addA (pe_op op_mulX pe_int (pv 1)) pe_int) pa_nil))) (pe_op op_addA (pv 3) pe_int)))
        (pss_one (ps_ret (pe_tup (pa_cons (pe_op op_sub pe_int (pe_op op_mulX pe_int (pe_op op_mod (pe_call (ok_Lmixed T) (hr.mono (by decide)) (by rfl) T.g_Lmixed T.F_Lmixed.kp T.b_Lmixed .nil pass0 (pa_cons (pv 0) (pa_cons (pe_op op_addA (pe_op op_mulX pe_int (pv 1)) pe_int) pa_nil))) pe_int))) (pa_cons (pv 4) (pa_cons (pe_op op_mod (pe_call (ok_Lmixed T) (hr.mono (by decide)) (by rfl) T.g_Lmixed T.F_Lmixed.kp T.b_Lmixed .nil pass0 (pa_cons (pv 0) (pa_cons (pe_op op_addA (pe_op op_mulX pe_int (pv 1)) pe_int) pa_nil))) (pv 3)) (pa_cons (pv 3) pa_nil))))))))), ?_⟩
    walk_at "go"
    refine k_Lmixed sc (by omega) (by omega) fun _ _ => ?_
    walk_at "go"
    refine k_Lmixed sc (by omega) (by omega) fun _ _ => ?_
    rw [show 1 + mixF c (4 * k + 1) % m = anyN c k m from rfl]
    walk_at "go"
    refine k_Lmixed sc (by omega) (by omega) fun _ _ => ?_
    walk_at "go"
    refine k_Lmixed sc (by omega) (by omega) fun _ _ => ?_
    walk_at "go"
    rename_i p H1 hn1 s1 t1
    exact q p H1 s1 t1
theorem k_Lany_term {K : PySem.W.Frag} {H : Hp} {Q : VK} {E : XK} {c k m : Int} (sc : Sm 1048576 c) (h0 : 0 ≤ k) (h1 : k ≤ 10) (h2 : 1 ≤ m) (h3 : m ≤ 1000) (q : ∀ (p : Addr) (H' : Hp), Same H H' → H' p = some (.tup (tmV (anyT c k m))) → Q (.ref p) H') : sp_Lany_term K [.int c, .int k, .int m] H Q E := ⟨c, k, m, rfl, sc, h0, h1, h2, h3, q⟩

/-! ### _law_any_terms -/
def sp_Lany_terms (K : PySem.W.Frag) : Sp := fun vs H Q _ => ∃ c : Int, vs = [.int c] ∧ Sm 1048576 c ∧ ∀ (p : Addr) (H' : Hp) (qs : List Addr), Same H H' → H' p = some (.lst (qs.map V.ref)) → TmsAt K H' qs (anyTs c) → Q (.ref p) H'
theorem ok_Lany_terms (T : Txt K mg base) : FnOk P w K mg base CX0 3 T.a_Lany_terms T.fd_Lany_terms ["_law_cell"] (sp_Lany_terms K) := by
  refine T.F_Lany_terms.ok sc_Lany_terms (fun vs H Q E h => ?_) (fun cdv A outer s H vs Q E hr h => ?_)
  · obtain ⟨_, rfl, _⟩ := h; rfl
  · obtain ⟨c, rfl, sc, q⟩ := h
    have hu := hr.units
    have sc28 : Sm 1048576 (c / 28) := sm_quot sc
    have hm := mostA_bd c
    refine ⟨_, (pss_cons (ps_set (i := 1) sc_Lany_terms.nd rfl (Or.inr rfl) (pe_ix (kb_ix K) (pe_lst (pa_cons pe_int (pa_cons pe_int (pa_cons pe_int (pa_cons pe_int pa_nil))))) (pe_op op_mod (pe_op op_fdivW (pv 0) pe_int) pe_int) (fun _ _ => rfl)))
        (pss_one (ps_ret (pe_lc (own := [("_law_k", 2)]) (g := gName 2) (tt := tYes) rfl sc_Lany_terms.nd (pi_range1 (by rfl) T.n_range (pa_cons (pe_op op_mod (pv 0) pe_int) pa_nil)) (blkOk_by (N := ["_law_cell", "_law_most", "_law_k"]) (sc := defScope s_Lany_terms) (by decide +kernel)) (fun _ _ _ _ _ => pg_name (i := 2) sc_Lany_terms.nd rfl (Or.inl rfl)) (fun _ _ _ _ _ => pts_nil) (fun _ _ _ _ _ => (pe_call (ok_Lany_term T) (hr.mono (by decide)) (by rfl) T.g_Lany_term T.F_Lany_term.kp T.b_Lany_term .nil pass0 (pa_cons (pe_op op_fdivW (pv 0) pe_int) (pa_cons (pv 2) (pa_cons (pv 1) pa_nil))))))))), ?_⟩
    walk_at "go"
    rename_i L1 H1 hn1 s1 t1
    refine k_ixL (SqL.of t1) (atI_getD (ls := [2, 5, 30, 1000]) (i := c / 7 % 4) (by omega) (by show c / 7 % 4 < 4; omega)) ?_
    rw [show ([2, 5, 30, 1000] : List Int).getD (c / 7 % 4).toNat 0 = mostA c from rfl]
    walk_at "go"
    refine k_lcrP (j := 2) (fun i acc H' => ∃ qs : List Addr, acc = qs.map V.ref ∧ TmsAt K H' qs ((List.range i).map fun k : Nat => anyT (c / 28) (k : Int) (mostA c))) (by omega) (fun D hD => ⟨[], rfl, .nil⟩) (fun i acc D H2 R hi sm hd hW step => ?_) (fun D H2 acc hD sm hd hl hW => ?_)
    · obtain ⟨qs, rfl, hq⟩ := hW
      walk_at "go"
      refine k_Lany_term sc28 (by omega) (by omega) hm.1 hm.2 fun p H3 s3 h3 => ?_
      rw [Int.zero_add] at h3
      refine step _ _ s3 ⟨qs ++ [p], by rw [List.map_append]; rfl, ?_⟩
      rw [List.range_succ, List.map_append]
      exact TmsAt.updL (s3 _ _ hd) ((hq.same s3).snoc (SqT.of h3))
    · obtain ⟨qs, rfl, hq⟩ := hW
      exact q D H2 qs (s1.trans sm) hd hq
theorem k_Lany_terms {K : PySem.W.Frag} {H : Hp} {Q : VK} {E : XK} {c : Int} (sc : Sm 1048576 c) (q : ∀ (p : Addr) (H' : Hp) (qs : List Addr), Same H H' → H' p = some (.lst (qs.map V.ref)) → TmsAt K H' qs (anyTs c) → Q (.ref p) H') : sp_Lany_terms K [.int c] H Q E := ⟨c, rfl, sc, q⟩

/-! ### _law_any_measure -/
def sp_Lany_measure (K : PySem.W.Frag) (T : Txt K mg base) : Sp := fun vs H Q _ => ∃ c mo : Int, vs = [.int c, .int mo] ∧ Sm 1048576 c ∧ 7 ≤ mo ∧ mo ≤ 1000 ∧ NdefX.TabsN (NT T.ct_counter) H ∧
  ∀ (x : Addr) (H' : Hp), SameT (NT T.ct_counter) H H' → MeasAt K T.C_Measure H' x (anyB c mo) (anyTs c) → Q (.ref x) H'
theorem ok_Lany_measure (T : Txt K mg base) : FnOk P w K mg base CX0 6 T.a_Lany_measure T.fd_Lany_measure ["_law_cell", "_law_most"] (sp_Lany_measure K T) := by
  refine T.F_Lany_measure.ok sc_Lany_measure (fun vs H Q E h => ?_) (fun cdv A outer s H vs Q E hr h => ?_)
  · obtain ⟨_, _, rfl, _⟩ := h; rfl
  · obtain ⟨c, mo, rfl, sc, m0, m1, hT, q⟩ := h
    have hu := hr.units
    have sc28 : Sm 1048576 (c / 28) := sm_quot sc
    have hl := anyTs_len c
    refine ⟨_, (pss_cons (ps_set (i := 2) sc_Lany_measure.nd rfl (Or.inl rfl) (pe_call (ok_Lany_terms T) (hr.mono (by decide)) (by rfl) T.g_Lany_terms T.F_Lany_terms.kp T.b_Lany_terms .nil pass0 (pa_cons (pv 0) pa_nil)))
        (pss_cons (ps_set (i := 3) sc_Lany_measure.nd rfl (Or.inl rfl) (pe_callB (kb_len K) (by rfl) T.n_len (by decide +kernel) (pa_cons (pe_lc (own := [("_law_term_here", 5)]) (g := gName 5) rfl sc_Lany_measure.nd (pi_list (pv 2)) (blkOk_by (N := ["_law_cell", "_law_most", "_law_terms", "_law_falls", "_law_far", "_law_term_here"]) (sc := defScope s_Lany_measure) (by decide +kernel)) (fun _ _ _ _ _ => pg_name (i := 5) sc_Lany_measure.nd rfl (Or.inl rfl)) (fun _ _ _ _ _ => pts_one (pt_cmpR (kb_eq K (hu := hu)) (pe_ix (kb_ix K) (pv 5) pe_int (fun _ _ => rfl)) (pe_un un_neg pe_int) (nomark _))) (fun _ _ _ _ _ => (pv 5))) pa_nil)))
        (pss_cons (ps_set (i := 4) sc_Lany_measure.nd rfl (Or.inl rfl) (pe_op op_mod (pe_call (ok_Lmixed T) (hr.mono (by decide)) (by rfl) T.g_Lmixed T.F_Lmixed.kp T.b_Lmixed .nil pass0 (pa_cons (pe_op op_fdivW (pv 0) pe_int) (pa_cons pe_int pa_nil))) (pe_ix (kb_ix K) (pe_lst (pa_cons pe_int (pa_cons (pv 1) pa_nil))) (pe_op op_mod (pe_call (ok_Lmixed T) (hr.mono (by decide)) (by rfl) T.g_Lmixed T.F_Lmixed.kp T.b_Lmixed .nil pass0 (pa_cons (pe_op op_fdivW (pv 0) pe_int) (pa_cons pe_int pa_nil))) pe_int) (fun _ _ => rfl))))
        (pss_one (ps_ret (pe_make T.mk_Measure (ok_Measure_init T) (hr.mono (by decide)) rfl T.gc_Measure T.b_Measure_init_3 T.v_Measure_init_3 pass0 (pa_cons (pe_callB (cb_min2 rfl) (by rfl) T.n_min (by decide +kernel) (pa_cons (pv 1) (pa_cons (pe_op op_addA (pe_op op_addA (pv 3) pe_int) (pv 4)) pa_nil))) (pa_cons (pv 2) pa_nil)))))))), ?_⟩
    walk_at "go"
    refine k_Lany_terms sc fun p1 H1 qs s1 t1 hq => ?_
    have hlq := hq.1
    have hS : SqL K H1 p1 (qs.map V.ref) := SqL.of t1
    have hok := anyB_ok c m0 m1
    have e0 : anyB c mo = if mo ≤ fallsT (anyTs c) + 1 + mixF (c / 28) 30 % wideA c mo then mo else fallsT (anyTs c) + 1 + mixF (c / 28) 30 % wideA c mo := rfl
    have hwb := wideA_bd c m0 m1
    generalize hts : anyTs c = ts at *
    walk_at "go"
    have hget : ∀ i, i < (qs.map V.ref).length → ∃ (p : Addr) (t : Tm), (qs.map V.ref).getD i .non = .ref p ∧ ts[i]? = some t ∧ SqT K H1 p [.int t.s, .int t.a, .int t.b, .int t.n] := fun i hi => by
      rw [List.length_map] at hi
      refine ⟨qs[i], ts[i]'(by omega), ?_, List.getElem?_eq_getElem (by omega), hq.2 i _ _ (List.getElem?_eq_getElem hi) (List.getElem?_eq_getElem (by omega))⟩
      rw [List.getD_eq_getElem?_getD, List.getElem?_map, List.getElem?_eq_getElem hi]; rfl
    refine k_lclf hS (fun i => decide ((ts[i]?.map (·.s)) = some (-1))) (fun i => (qs.map V.ref).getD i .non) (by rw [List.length_map]; omega) (fun i H4 R hi s4 hR => ?_) (fun i H4 R hi _ s4 hR => ?_) (fun D2 H4 _ s4 hD2 => ?_)
    · obtain ⟨p, t, e1, e2, hp⟩ := hget i hi
      have hp2 := same_t s4 hp
      rw [e1]
      walk_at "go"
      have := hR H4 (Same.refl _)
      rw [e2] at this
      have e3 : decide (Option.map (fun x => x.s) (some t) = some (-1)) = decide (t.s = -1) := by simp
      rw [e3] at this
      exact this
    · walk_at "go"
      exact hR _ (Same.refl _)
    have e : (((List.range (qs.map V.ref).length).filter fun i => decide ((ts[i]?.map (·.s)) = some (-1))).length : Int) = fallsT ts := by
      rw [List.length_map, hlq]
      exact falls_range ts
    walk_at "go"
    rw [List.length_map, e]
    generalize hF : fallsT ts = F at *
    walk_at "go"
    refine k_Lmixed sc28 (by decide) (by decide) fun _ _ => ?_
    walk_at "go"
    rename_i p5 H5 hn5 s5 t5
    refine k_Lmixed sc28 (by decide) (by decide) fun _ _ => ?_
    walk_at "go"
    refine k_ixL (SqL.of t5) (atI_getD (ls := [3, mo]) (i := mixF (c / 28) 31 % 2) (by omega) (by show mixF (c / 28) 31 % 2 < 2; omega)) ?_
    rw [show ([3, mo] : List Int).getD (mixF (c / 28) 31 % 2).toNat 0 = wideA c mo from rfl]
    walk_at "go"
    rename_i b hb b1 b2
    have eb : b = anyB c mo := by rw [e0]; split <;> omega
    subst eb
    have s45 := s4.trans s5
    refine k_mkMeasure (v := .ref p1) rfl (.inr ⟨p1, rfl, qs, SqL.of (s45 _ _ t1), hq.same s45⟩) hok (hT.ext (s1.trans s45)) fun x7 H7 hx7 s7 hm7 => ?_
    walk_at "go"
    exact q x7 H7 ((SameT.of (s1.trans s45)).trans s7) hm7.at
theorem k_Lany_measure {T : Txt K mg base} {H : Hp} {Q : VK} {E : XK} {c mo : Int} (sc : Sm 1048576 c) (m0 : 7 ≤ mo) (m1 : mo ≤ 1000) (hT : NdefX.TabsN (NT T.ct_counter) H)
    (q : ∀ (x : Addr) (H' : Hp), SameT (NT T.ct_counter) H H' → MeasAt K T.C_Measure H' x (anyB c mo) (anyTs c) → Q (.ref x) H') : sp_Lany_measure K T [.int c, .int mo] H Q E := ⟨c, mo, rfl, sc, m0, m1, hT, q⟩

/-! ### _law_any -/
def sp_Lany (K : PySem.W.Frag) (T : Txt K mg base) : Sp := fun vs H Q _ => ∃ (a : Addr) (ns : List Int), vs = [.ref a] ∧ SqL K H a (ns.map V.int) ∧ (∀ z ∈ ns, Builtin.Int.intBits z ≤ 1048576) ∧ NdefX.TabsN (NT T.ct_counter) H ∧
  ∀ (x : Addr) (H' : Hp) (st : Int), SameT (NT T.ct_counter) H H' → CalAt K T.C_Sun T.C_Moon T.C_Measure H' x (anyF (ns.getD 9 0) (ns.getD 10 0) st) → -10000000000000000000000000000000000000000 ≤ st → st ≤ 10000000000000000000000000000000000000000 → Q (.ref x) H'
theorem ok_Lany (T : Txt K mg base) : FnOk P w K mg base CX0 8 T.a_Lany T.fd_Lany ["_law_script"] (sp_Lany K T) := by
  refine T.F_Lany.ok sc_Lany (fun vs H Q E h => ?_) (fun cdv A outer s H vs Q E hr h => ?_)
  · obtain ⟨_, _, rfl, _⟩ := h; rfl
  · obtain ⟨a, ns, rfl, hS, hb, hT, q⟩ := h
    have hu := hr.units
    refine ⟨_, (pss_cons (ps_set (i := 1) sc_Lany.nd rfl (Or.inl rfl) (pe_call (ok_Lnumber T) (hr.mono (by decide)) (by rfl) T.g_Lnumber T.F_Lnumber.kp T.b_Lnumber .nil pass0 (pa_cons (pe_call (ok_Lcell_at T) (hr.mono (by decide)) (by rfl) T.g_Lcell_at T.F_Lcell_at.kp T.b_Lcell_at .nil pass0 (pa_cons (pv 0) (pa_cons pe_int pa_nil))) pa_nil)))
        (pss_cons (ps_set (i := 2) sc_Lany.nd rfl (Or.inl rfl) (pe_call (ok_Lcell_at T) (hr.mono (by decide)) (by rfl) T.g_Lcell_at T.F_Lcell_at.kp T.b_Lcell_at .nil pass0 (pa_cons (pv 0) (pa_cons pe_int pa_nil))))
        (pss_cons (ps_set (i := 3) sc_Lany.nd rfl (Or.inr rfl) (pe_call (ok_Lcell_at T) (hr.mono (by decide)) (by rfl) T.g_Lcell_at T.F_Lcell_at.kp T.b_Lcell_at .nil pass0 (pa_cons (pv 0) (pa_cons pe_int pa_nil))))
        (pss_cons (ps_if (pt_cmpR (kb_eq K (hu := hu)) (pe_op op_mod (pv 2) pe_int) pe_int (nomark _)) (pss_one (ps_ret (pe_make T.mk_Moon (ok_Moon_init T) (hr.mono (by decide)) rfl T.gc_Moon T.b_Moon_init .nil pass0 (pa_cons (pv 1) (pa_cons (pe_call (ok_Lany_measure T) (hr.mono (by decide)) (by rfl) T.g_Lany_measure T.F_Lany_measure.kp T.b_Lany_measure .nil pass0 (pa_cons (pe_op op_fdivW (pv 2) pe_int) (pa_cons pe_int pa_nil))) (pa_cons (pe_call (ok_Lany_measure T) (hr.mono (by decide)) (by rfl) T.g_Lany_measure T.F_Lany_measure.kp T.b_Lany_measure .nil pass0 (pa_cons (pv 3) (pa_cons pe_int pa_nil))) pa_nil)))))) pss_nil)
        (pss_cons (ps_set (i := 4) sc_Lany.nd rfl (Or.inl rfl) (pe_call (ok_Lany_terms T) (hr.mono (by decide)) (by rfl) T.g_Lany_terms T.F_Lany_terms.kp T.b_Lany_terms .nil pass0 (pa_cons (pe_op op_fdivW (pv 2) pe_int) pa_nil)))
        (pss_cons (ps_set (i := 5) sc_Lany.nd rfl (Or.inl rfl) (pe_callB (kb_len K) (by rfl) T.n_len (by decide +kernel) (pa_cons (pe_lc (own := [("_law_term_here", 10)]) (g := gName 10) rfl sc_Lany.nd (pi_list (pv 4)) (blkOk_by (N := ["_law_script", "_law_start", "_law_one", "_law_two", "_law_terms", "_law_falls", "_law_many", "_law_lengths", "_law_leap", "_law_k", "_law_term_here"]) (sc := defScope s_Lany) (by decide +kernel)) (fun _ _ _ _ _ => pg_name (i := 10) sc_Lany.nd rfl (Or.inl rfl)) (fun _ _ _ _ _ => pts_one (pt_cmpR (kb_eq K (hu := hu)) (pe_ix (kb_ix K) (pv 10) pe_int (fun _ _ => rfl)) (pe_un un_neg pe_int) (nomark _))) (fun _ _ _ _ _ => (pv 10))) pa_nil)))
        (pss_cons (ps_set (i := 6) sc_Lany.nd rfl (Or.inl rfl) (pe_op op_addA pe_int (pe_op op_mod (pe_op op_fdivW (pv 3) pe_int) pe_int)))
        (pss_cons (ps_setLc (i := 7) (own := [("_law_k", 9)]) (g := gName 9) (tt := tYes) rfl sc_Lany.nd rfl rfl (sw_true rfl rfl rfl (by decide +kernel)) (pi_range1 (by rfl) T.n_range (pa_cons (pv 6) pa_nil)) (blkOk_by (N := ["_law_script", "_law_start", "_law_one", "_law_two", "_law_terms", "_law_falls", "_law_many", "_law_lengths", "_law_leap", "_law_k", "_law_term_here"]) (sc := defScope s_Lany) (by decide +kernel)) (fun _ _ _ _ _ => pg_name (i := 9) sc_Lany.nd rfl (Or.inl rfl)) (fun _ _ _ _ _ => pts_nil) (fun _ _ _ _ _ => (pe_op op_mod (pe_call (ok_Lmixed T) (hr.mono (by decide)) (by rfl) T.g_Lmixed T.F_Lmixed.kp T.b_Lmixed .nil pass0 (pa_cons (pe_op op_fdivW (pv 3) pe_int) (pa_cons (pv 9) pa_nil))) (pe_ix (kb_ix K) (pe_lst (pa_cons pe_int (pa_cons pe_int (pa_cons pe_int (pa_cons pe_int pa_nil))))) (pe_op op_mod (pv 3) pe_int) (fun _ _ => rfl)))))
        (pss_cons (ps_set (i := 8) sc_Lany.nd rfl (Or.inl rfl) (pe_op op_addA pe_int (pe_op op_mod (pe_call (ok_Lmixed T) (hr.mono (by decide)) (by rfl) T.g_Lmixed T.F_Lmixed.kp T.b_Lmixed .nil pass0 (pa_cons (pe_op op_fdivW (pv 3) pe_int) (pa_cons pe_int pa_nil))) (pv 6))))
        (pss_cons (ps_asg (pe_callB (cb_max2 rfl) (by rfl) T.n_max (by decide +kernel) (pa_cons (pe_ix (kb_ix K) (pv 7) (pe_op op_sub (pv 8) pe_int) (fun _ _ => rfl)) (pa_cons (pe_op op_addA (pv 5) pe_int) pa_nil))) (pg_sub (pv 7) (pe_op op_sub (pv 8) pe_int) set_list))
        (pss_one (ps_ret (pe_make T.mk_Sun (ok_Sun_init T) (hr.mono (by decide)) rfl T.gc_Sun T.b_Sun_init_5 T.v_Sun_init_5 pass0 (pa_cons (pv 1) (pa_cons (pv 7) (pa_cons (pv 8) (pa_cons (pv 4) pa_nil))))))))))))))))), ?_⟩
    walk_at "go"
    rename_i c1 _ sc1
    refine k_Lnumber fun st H1 s1 st0 st1 => ?_
    have hS1 := same_l s1 hS
    have hT1 := hT.ext s1
    have q := fun x H' => q x H' st
    walk_at "go"
    rename_i c2 hc2 sc2 c3 hc3 sc3
    rw [show ns.getD 9 0 = c2 from hc2.symm, show ns.getD 10 0 = c3 from hc3.symm] at q
    have sc23 : Sm 1048576 (c2 / 3) := sm_quot sc2
    with_reducible apply k_seqI
    walk_at "go"
    refine if_dec (fun h2 => ?_) (fun h2 => ?_)
    · walk_at "go"
      refine k_Lany_measure sc23 (by decide) (by decide) hT1 fun x1 H2 s2 m1 => ?_
      walk_at "go"
      refine k_Lany_measure sc3 (by decide) (by decide) (s2.tab hT1) fun x2 H3 s3 m2 => ?_
      have ok := anyF_ok c2 c3 st
      unfold anyF at ok q
      rw [if_pos h2] at ok q
      walk_at "go"
      refine k_mkMoon rfl (m1.mono s3) m2 ok fun x dx H9 hx9 s9 hxi => ?_
      walk_at "go"
      exact q x H9 ((((SameT.of s1).trans s2).trans s3).trans s9) ⟨dx, x1, x2, hxi, (m1.mono s3).mono s9, m2.mono s9⟩ st0 st1
    have ok := sunA_ok (c2 / 3) c3
    unfold anyF at q
    rw [if_neg h2] at q
    have hlA := anyTs_len (c2 / 3)
    have hls := lenA_len c3
    have hlp := leapA_bd c3
    walk_at "go"
    refine k_Lany_terms sc23 fun p1 H2 qs s2 t2 hq => ?_
    have hlq := hq.1
    have hS2 : SqL K H2 p1 (qs.map V.ref) := SqL.of t2
    have eA : sunA (c2 / 3) c3 = (lenA c3).set (leapA c3 - 1).toNat (maxI ((lenA c3).getD (leapA c3 - 1).toNat 0) (fallsT (anyTs (c2 / 3)) + 1)) := rfl
    generalize anyTs (c2 / 3) = ts at *
    walk_at "go"
    have hget : ∀ i, i < (qs.map V.ref).length → ∃ (p : Addr) (t : Tm), (qs.map V.ref).getD i .non = .ref p ∧ ts[i]? = some t ∧ SqT K H2 p [.int t.s, .int t.a, .int t.b, .int t.n] := fun i hi => by
      rw [List.length_map] at hi
      refine ⟨qs[i], ts[i]'(by omega), ?_, List.getElem?_eq_getElem (by omega), hq.2 i _ _ (List.getElem?_eq_getElem hi) (List.getElem?_eq_getElem (by omega))⟩
      rw [List.getD_eq_getElem?_getD, List.getElem?_map, List.getElem?_eq_getElem hi]; rfl
    refine k_lclf hS2 (fun i => decide ((ts[i]?.map (·.s)) = some (-1))) (fun i => (qs.map V.ref).getD i .non) (by rw [List.length_map]; omega) (fun i H4 R hi s4 hR => ?_) (fun i H4 R hi _ s4 hR => ?_) (fun D2 H4 _ s4 hD2 => ?_)
    · obtain ⟨p, t, e1, e2, hp⟩ := hget i hi
      have hp2 := same_t s4 hp
      rw [e1]
      walk_at "go"
      have := hR H4 (Same.refl _)
      rw [e2] at this
      have e3 : decide (Option.map (fun x => x.s) (some t) = some (-1)) = decide (t.s = -1) := by simp
      rw [e3] at this
      exact this
    · walk_at "go"
      exact hR _ (Same.refl _)
    have e : (((List.range (qs.map V.ref).length).filter fun i => decide ((ts[i]?.map (·.s)) = some (-1))).length : Int) = fallsT ts := by
      rw [List.length_map, hlq]
      exact falls_range ts
    walk_at "go"
    rw [List.length_map, e]
    generalize hF : fallsT ts = F at *
    have sc80 : Sm 1048576 (c3 / 80) := sm_quot sc3
    walk_at "go"
    refine k_lcr (n := (1 + c3 / 4 % 20).toNat) (L := (lenA c3).map V.int) (by rw [List.length_map]; omega) (by omega) (fun i v H5 R hv s5 hR => ?_) (fun D H5 hD s5 t5 => ?_)
    · rw [List.getElem?_map] at hv
      obtain ⟨z, hz, rfl⟩ := Option.map_eq_some_iff.mp hv
      have hi : i < (lenA c3).length := (List.getElem?_eq_some_iff.mp hz).1
      walk_at "go"
      refine k_Lmixed sc80 (by omega) (by omega) fun _ _ => ?_
      walk_at "go"
      rename_i p6 H6 hn6 s6 t6
      refine k_ixL (SqL.of t6) (atI_getD (ls := [3, 13, 32, 1001]) (i := c3 % 4) (by omega) (by show c3 % 4 < 4; omega)) ?_
      have hob := tall_bd c3
      walk_at "go"
      have e : z = mixF (c3 / 80) (0 + (i : Int)) % ([3, 13, 32, 1001] : List Int).getD (c3 % 4).toNat 0 := by
        unfold lenA at hz
        rw [List.getElem?_map, List.getElem?_range (by omega)] at hz
        rw [Int.zero_add]
        exact (Option.some.inj hz).symm
      rw [← e]
      exact hR _ s6
    have s15 := (s2.trans s4).trans s5
    have s05 := s1.trans s15
    have hDH : H1 D = none := (s2.trans s4).free hD
    walk_at "go"
    refine k_Lmixed sc80 (by decide) (by decide) fun _ _ => ?_
    walk_at "go"
    rw [show 1 + mixF (c3 / 80) 30 % (1 + c3 / 4 % 20) = leapA c3 from rfl]
    refine k_ixL (SqL.of t5) (atI_getD (ls := lenA c3) (i := leapA c3 - 1) (by omega) (by omega)) ?_
    walk_at "go"
    rename_i v hv1 hv2 hv3
    have ev : v = maxI ((lenA c3).getD (leapA c3 - 1).toNat 0) (F + 1) := by unfold maxI; split <;> omega
    refine k_setV t5 (j := (leapA c3 - 1).toNat) (by unfold ixN; rw [if_pos (by omega), if_pos (by rw [List.length_map]; omega)]) fun H6 m6 t6 => ?_
    rw [map_set, ev, ← eA] at t6
    have s6 : Same H1 H6 := m6.same s15 hDH
    have hD2 : H2 D = none := s4.free hD
    have s26 : Same H2 H6 := m6.same (s4.trans s5) hD2
    walk_at "go"
    refine k_mkSun (v := .ref p1) rfl (SqL.of t6) (.inr ⟨p1, rfl, qs, SqL.of (s26 _ _ t2), hq.same s26⟩) ok (hT1.ext s6) fun x H7 hx7 s7 hs => ?_
    walk_at "go"
    exact q x H7 ((SameT.of (s1.trans s6)).trans s7) (SunAt.mono own_to hs) st0 st1
theorem k_Lany {T : Txt K mg base} {H : Hp} {Q : VK} {E : XK} {a : Addr} {ns : List Int} (hS : SqL K H a (ns.map V.int)) (hb : ∀ z ∈ ns, Builtin.Int.intBits z ≤ 1048576) (hT : NdefX.TabsN (NT T.ct_counter) H)
    (q : ∀ (x : Addr) (H' : Hp) (st : Int), SameT (NT T.ct_counter) H H' → CalAt K T.C_Sun T.C_Moon T.C_Measure H' x (anyF (ns.getD 9 0) (ns.getD 10 0) st) → -10000000000000000000000000000000000000000 ≤ st → st ≤ 10000000000000000000000000000000000000000 → Q (.ref x) H') : sp_Lany K T [.ref a] H Q E := ⟨a, ns, rfl, hS, hb, hT, q⟩

/-! ### _law_years -/
def sp_Lyears (K : PySem.W.Frag) (T : Txt K mg base) : Sp := fun vs H Q _ => ∃ (c : Addr) (cal : Cal) (st : Int), vs = [.ref c, .int st] ∧ CalAt K T.C_Sun T.C_Moon T.C_Measure H c cal ∧ cal.Ok ∧ 1 ≤ st ∧ st ≤ 1000 ∧ NdefX.TabsN (NT T.ct_counter) H ∧ ∀ H', SameT (NT T.ct_counter) H H' → Q (.int (lcmI cal.yrs st)) H'
theorem ok_Lyears (T : Txt K mg base) : FnOk P w K mg base CX0 5 T.a_Lyears T.fd_Lyears ["_law_calendar", "_law_step_here"] (sp_Lyears K T) := by
  refine T.F_Lyears.ok sc_Lyears (fun vs H Q E h => ?_) (fun cdv A outer s H vs Q E hr h => ?_)
  · obtain ⟨_, _, _, rfl, _⟩ := h; rfl
  · obtain ⟨c, cal, st, rfl, hc, ok, s1, s2, hT, q⟩ := h
    have hu := hr.units
    obtain ⟨y0, y1⟩ := cal.yrs_bd ok
    refine ⟨_, (pss_cons (ps_set (i := 2) sc_Lyears.nd rfl (Or.inl rfl) (pe_ix (kb_ix K) (pe_alt2 (pe_meth0 (pv 0) T.cl_Sun T.me_Sun_cycle (ok_Sun_cycle T) (hr.mono (by decide)) T.b_Sun_cycle .nil pass0) (pe_meth0 (pv 0) T.cl_Moon T.me_Moon_cycle (ok_Moon_cycle T) (hr.mono (by decide)) T.b_Moon_cycle .nil pass0)) pe_int (fun _ _ => rfl)))
        (pss_cons (ps_set (i := 3) sc_Lyears.nd rfl (Or.inl rfl) (pv 2))
        (pss_cons (ps_while PassesOwn.never (pt_cmpR (kb_ne K (hu := hu)) (pe_op op_mod (pv 3) (pv 1)) pe_int (nomark _)) (pss_one (ps_set (i := 3) sc_Lyears.nd rfl (Or.inl rfl) (pe_op op_addA (pv 3) (pv 2)))))
        (pss_one (ps_ret (pv 3)))))), ?_⟩
    walk_at "go"
    refine k_altX hc noF_cycle ?_
    walk_at "go"
    refine k_Cal_cycle hc ok hT fun p1 H1 hn1 s1' t1 => ?_
    have q := q H1 s1'
    generalize cal.yrs = Y at *
    have hl0 := lcm_pos y0 s1
    have hll := lcm_le_mul y0 s1
    have hm := Int.mul_le_mul y1 s2 (by omega) (by decide)
    obtain ⟨kk, hkk⟩ := dvd_lcm_left (a := Y) (b := st) y0
    have hdr := dvd_lcm_right Y st
    generalize hL : lcmI Y st = L at *
    walk_at "go"
    have hstep : ∀ j : Int, 1 ≤ j → Y * j ≤ L → Y * j % st ≠ 0 → Y * (j + 1) ≤ L := fun j j1 hj hne => by
      rw [hkk] at hj ⊢
      have h1 : j ≤ kk := Int.le_of_mul_le_mul_left hj (by omega)
      have h2 : j ≠ kk := fun z => hne (by rw [z, ← hkk]; exact Int.emod_eq_zero_of_dvd hdr)
      exact Int.mul_le_mul_of_nonneg_left (by omega) (by omega)
    have hend : ∀ j : Int, 1 ≤ j → Y * j ≤ L → Y * j % st = 0 → Y * j = L := fun j j1 hj hz => by
      have hp : 1 ≤ Y * j := by
        have := Int.mul_le_mul y0 j1 (by decide) (by omega)
        omega
      have := Int.le_of_dvd (by omega) (lcm_least y0 s1 (Int.dvd_mul_right Y j) (Int.dvd_of_emod_eq_zero hz))
      rw [hL] at this
      omega
    have hYL : Y ≤ L := Int.le_of_dvd (by omega) ⟨kk, hkk⟩
    with_reducible apply k_seqW
    refine k_while (fun m σ' H' => ∃ j : Int, σ' = [some (.ref c), some (.int st), some (.int Y), some (.int (Y * j))] ∧ H1 = H' ∧ 1 ≤ j ∧ Y * j ≤ L ∧ m = (L - Y * j).toNat) _ ⟨1, by rw [Int.mul_one]; rfl, rfl, by decide, by rw [Int.mul_one]; exact hYL, rfl⟩ ?_
    rintro m _ _ ⟨j, rfl, rfl, j1, hj, rfl⟩
    walk_at "go"
    refine if_ndec (fun hne => ?_) (fun hz => ?_)
    rotate_left
    · walk_at "go"
      rw [hend j j1 hj hz]
      exact q
    apply k_turn
    walk_at "go"
    have := hstep j j1 hj hne
    have e : Y * (j + 1) = Y * j + Y := by rw [Int.mul_add, Int.mul_one]
    exact ⟨_, by omega, j + 1, by rw [e]; rfl, rfl, by omega, by omega, rfl⟩
theorem k_Lyears {T : Txt K mg base} {H : Hp} {Q : VK} {E : XK} {c : Addr} {cal : Cal} {st : Int} (hc : CalAt K T.C_Sun T.C_Moon T.C_Measure H c cal) (ok : cal.Ok) (s1 : 1 ≤ st) (s2 : st ≤ 1000) (hT : NdefX.TabsN (NT T.ct_counter) H) (q : ∀ H', SameT (NT T.ct_counter) H H' → Q (.int (lcmI cal.yrs st)) H') : sp_Lyears K T [.ref c, .int st] H Q E := ⟨c, cal, st, rfl, hc, ok, s1, s2, hT, q⟩

/-! ### _law_size -/
def sp_Lsize (K : PySem.W.Frag) (T : Txt K mg base) : Sp := fun vs H Q _ => ∃ (c : Addr) (cal : Cal) (st : Int), vs = [.ref c, .int st] ∧ CalAt K T.C_Sun T.C_Moon T.C_Measure H c cal ∧ cal.Ok ∧ 1 ≤ st ∧ st ≤ 1000 ∧ NdefX.TabsN (NT T.ct_counter) H ∧ ∀ H', SameT (NT T.ct_counter) H H' → Q (.int (cal.dys * (lcmI cal.yrs st / cal.yrs))) H'
theorem ok_Lsize (T : Txt K mg base) : FnOk P w K mg base CX0 6 T.a_Lsize T.fd_Lsize ["_law_calendar", "_law_step_here"] (sp_Lsize K T) := by
  refine T.F_Lsize.ok sc_Lsize (fun vs H Q E h => ?_) (fun cdv A outer s H vs Q E hr h => ?_)
  · obtain ⟨_, _, _, rfl, _⟩ := h; rfl
  · obtain ⟨c, cal, st, rfl, hc, ok, s1, s2, hT, q⟩ := h
    have hu := hr.units
    obtain ⟨y0, y1⟩ := cal.yrs_bd ok
    have dsm := cal.dys_sm ok
    have hl0 := lcm_pos y0 s1
    have hll := lcm_le_mul y0 s1
    have hm := Int.mul_le_mul y1 s2 (by omega) (by decide)
    refine ⟨_, (pss_cons (ps_asg (pe_alt2 (pe_meth0 (pv 0) T.cl_Sun T.me_Sun_cycle (ok_Sun_cycle T) (hr.mono (by decide)) T.b_Sun_cycle .nil pass0) (pe_meth0 (pv 0) T.cl_Moon T.me_Moon_cycle (ok_Moon_cycle T) (hr.mono (by decide)) T.b_Moon_cycle .nil pass0)) (pg_tup rfl (pgs_cons (pg_name (i := 2) sc_Lsize.nd rfl (Or.inl rfl)) (pgs_cons (pg_name (i := 3) sc_Lsize.nd rfl (Or.inl rfl)) pgs_nil))))
        (pss_one (ps_ret (pe_op op_mulX (pv 3) (pe_op op_fdivW (pe_call (ok_Lyears T) (hr.mono (by decide)) (by rfl) T.g_Lyears T.F_Lyears.kp T.b_Lyears .nil pass0 (pa_cons (pv 0) (pa_cons (pv 1) pa_nil))) (pv 2)))))), ?_⟩
    walk_at "go"
    refine k_altX hc noF_cycle ?_
    walk_at "go"
    refine k_Cal_cycle hc ok hT fun p1 H1 hn1 s1' t1 => ?_
    have tt1 : SqT K H1 p1 [.int cal.yrs, .int cal.dys] := SqT.of t1
    walk_at "go"
    refine k_Lyears (hc.mono s1') ok s1 s2 (s1'.tab hT) fun H2 s2' => ?_
    walk_at "go"
    refine k_I (sm_mulx dsm (b := 200) (sm_quot (sm41 (by omega) (by omega))) (by decide)) ?_
    exact q H2 (s1'.trans s2')
theorem k_Lsize {T : Txt K mg base} {H : Hp} {Q : VK} {E : XK} {c : Addr} {cal : Cal} {st : Int} (hc : CalAt K T.C_Sun T.C_Moon T.C_Measure H c cal) (ok : cal.Ok) (s1 : 1 ≤ st) (s2 : st ≤ 1000) (hT : NdefX.TabsN (NT T.ct_counter) H) (q : ∀ H', SameT (NT T.ct_counter) H H' → Q (.int (cal.dys * (lcmI cal.yrs st / cal.yrs))) H') : sp_Lsize K T [.ref c, .int st] H Q E := ⟨c, cal, st, rfl, hc, ok, s1, s2, hT, q⟩

/-! ### _law_step -/
def sp_Lstep (K : PySem.W.Frag) (T : Txt K mg base) : Sp := fun vs H Q _ => ∃ (c w : Addr) (cal : Cal) (mo da : Option Int) (st re cell : Int), vs = [.ref c, .ref w, .int cell] ∧ CalAt K T.C_Sun T.C_Moon T.C_Measure H c cal ∧ cal.Ok ∧ SqT K H w [optV mo, optV da, .int st, .int re] ∧ NdefX.TabsN (NT T.ct_counter) H ∧
  ∀ (p : Addr) (H' : Hp) (st' : Int), SameT (NT T.ct_counter) H H' → SqT K H' p [optV mo, optV da, .int st', .int re] → 1 ≤ st' → st' ≤ 800 → (st' = 1 ∨ cal.dys * (lcmI cal.yrs st' / cal.yrs) ≤ 4400) → Q (.ref p) H'
theorem ok_Lstep (T : Txt K mg base) : FnOk P w K mg base CX0 7 T.a_Lstep T.fd_Lstep ["_law_calendar", "_law_wanted_here", "_law_cell"] (sp_Lstep K T) := by
  refine T.F_Lstep.ok sc_Lstep (fun vs H Q E h => ?_) (fun cdv A outer s H vs Q E hr h => ?_)
  · obtain ⟨_, _, _, _, _, _, _, _, rfl, _⟩ := h; rfl
  · obtain ⟨c, w, cal, mo, da, st, re, cell, rfl, hc, ok, hw, hT, q⟩ := h
    have hu := hr.units
    refine ⟨_, (pss_cons (ps_asg (pv 1) (pg_tup rfl (pgs_cons (pg_name (i := 3) sc_Lstep.nd rfl (Or.inl rfl)) (pgs_cons (pg_name (i := 4) sc_Lstep.nd rfl (Or.inl rfl)) (pgs_cons (pg_name (i := 5) sc_Lstep.nd rfl (Or.inl rfl)) (pgs_cons (pg_name (i := 6) sc_Lstep.nd rfl (Or.inl rfl)) pgs_nil))))))
        (pss_cons (ps_set (i := 5) sc_Lstep.nd rfl (Or.inl rfl) (pe_op op_addA pe_int (pe_op op_mod (pe_op op_fdivW (pv 2) pe_int) (pe_ix (kb_ix K) (pe_lst (pa_cons pe_int (pa_cons pe_int pa_nil))) (pe_op op_fdivW (pe_op op_mod (pv 2) pe_int) pe_int) (fun _ _ => rfl)))))
        (pss_cons (ps_if (PW.pt (pw_or (pt_cmpR op_gt (pe_call (ok_Lsize T) (hr.mono (by decide)) (by rfl) T.g_Lsize T.F_Lsize.kp T.b_Lsize .nil pass0 (pa_cons (pv 0) (pa_cons (pv 5) pa_nil))) pe_int (nomark _)) (pw_or1 (pt_cmpR op_gt (pe_call (ok_Lyears T) (hr.mono (by decide)) (by rfl) T.g_Lyears T.F_Lyears.kp T.b_Lyears .nil pass0 (pa_cons (pv 0) (pa_cons (pv 5) pa_nil))) pe_int (nomark _))))) (pss_one (ps_set (i := 5) sc_Lstep.nd rfl (Or.inl rfl) pe_int)) pss_nil)
        (pss_one (ps_ret (pe_tup (pa_cons (pv 3) (pa_cons (pv 4) (pa_cons (pv 5) (pa_cons (pv 6) pa_nil)))))))))), ?_⟩
    walk_at "go"
    rename_i p1 H1 hn1 s1 t1
    obtain ⟨k, ⟨k0, k1⟩, hk⟩ := atI_all (P := fun z => 1 ≤ z ∧ z ≤ 800) (l := [6, 800]) (i := cell % 3 / 2) (by omega) (by show cell % 3 / 2 < 2; omega) (by decide)
    refine k_ixL (SqL.of t1) hk ?_
    have f0 := Int.emod_nonneg (cell / 3) (show k ≠ 0 by omega)
    have f1 := Int.emod_lt_of_pos (cell / 3) (show 0 < k by omega)
    walk_at "go"
    have g0 : 1 ≤ 1 + cell / 3 % k := by omega
    have g1 : 1 + cell / 3 % k ≤ 800 := by omega
    generalize 1 + cell / 3 % k = S at *
    have hc1 := hc.mono (T := NT T.ct_counter) (.of s1)
    have hT1 := hT.ext s1
    with_reducible refine k_cutI (fun σ' H' => ∃ S' : Int, σ' = [some (.ref c), some (.ref w), some (.int cell), some (optV mo), some (optV da), some (.int S'), some (.int re)] ∧ SameT (NT T.ct_counter) H1 H' ∧ 1 ≤ S' ∧ S' ≤ 800 ∧ (S' = 1 ∨ cal.dys * (lcmI cal.yrs S' / cal.yrs) ≤ 4400)) (fun N hN => ?_) ?_
    · refine or_splitS (4400 < cal.dys * (lcmI cal.yrs S / cal.yrs) ∨ 800 < lcmI cal.yrs S) (fun H' => SameT (NT T.ct_counter) H1 H') (fun H2 s2 h => ?_) (fun H2 s2 hA => ?_) fun R' h1 h2 => ?_
      · walk_at "go"
        exact hN _ _ ⟨1, rfl, s2, by decide, by decide, .inl rfl⟩
      · walk_at "go"
        exact hN _ _ ⟨S, rfl, s2, g0, g1, .inr (by omega)⟩
      · walk_at "go"
        refine k_Lsize hc1 ok g0 (by omega) hT1 fun H2 s2 => ?_
        walk_at "go"
        refine if_dec (fun a => h1 _ s2 (.inl a)) (fun a => ?_)
        walk_at "go"
        refine k_Lyears (hc1.mono s2) ok g0 (by omega) (s2.tab hT1) fun H3 s3 => ?_
        walk_at "go"
        exact dec_two (R := fun c => R' c H3) (fun b => h1 _ (s2.trans s3) (.inr b)) (fun b => h2 _ (s2.trans s3) (fun z => z.elim a b))
    rintro _ H2 ⟨S', rfl, s2, b0, b1, b2⟩
    walk_at "go"
    rename_i p3 H3 hn3 s3 t3
    exact q p3 H3 S' (((SameT.of s1).trans s2).trans (.of s3)) (SqT.of t3) b0 b1 b2
theorem k_Lstep {T : Txt K mg base} {H : Hp} {Q : VK} {E : XK} {c w : Addr} {cal : Cal} {mo da : Option Int} {st re cell : Int} (hc : CalAt K T.C_Sun T.C_Moon T.C_Measure H c cal) (ok : cal.Ok) (hw : SqT K H w [optV mo, optV da, .int st, .int re]) (hT : NdefX.TabsN (NT T.ct_counter) H)
  (q : ∀ (p : Addr) (H' : Hp) (st' : Int), SameT (NT T.ct_counter) H H' → SqT K H' p [optV mo, optV da, .int st', .int re] → 1 ≤ st' → st' ≤ 800 → (st' = 1 ∨ cal.dys * (lcmI cal.yrs st' / cal.yrs) ≤ 4400) → Q (.ref p) H') : sp_Lstep K T [.ref c, .ref w, .int cell] H Q E := ⟨c, w, cal, mo, da, st, re, cell, rfl, hc, ok, hw, hT, q⟩

/-! ### NoDate.__init__ -/
abbrev sp_NoDate_init (K : PySem.W.Frag) (T : Txt K mg base) : Sp := spTV1 T.C_NoDate "date"
theorem ok_NoDate_init (T : Txt K mg base) : FnOk P w K mg base CX0 1 T.a_NoDate_init T.fd_NoDate_init ["self", "date"] (sp_NoDate_init K T) := by
  refine T.F_NoDate_init.ok sc_NoDate_init (fun vs H Q E h => ?_) (fun cdv A outer s H vs Q E hr h => ?_)
  · obtain ⟨_, _, rfl, _⟩ := h; rfl
  · obtain ⟨a, m, rfl, ha, q⟩ := h
    refine ⟨_, (pss_cons (ps_expr (pe_xinit rfl T.gc_FeastError T.cr_FeastError T.vi_FeastError (pa_cons (pv 0) (pa_cons pe_str pa_nil))))
        (pss_one (ps_ost (pv 0) (pv 1)))), ?_⟩
    walk_at "go"
    refine k_veI ?_
    walk_at "go"
    refine ⟨a, _, _, rfl, by show 1 ≤ 1000; decide, T.ox_NoDate, ha, ?_⟩
    walk_at "go"
    with_reducible apply k_ost
    walk_at "go"
    exact ⟨a, _, rfl, T.ox_NoDate, T.no_NoDate_date, .inl ⟨ha, q⟩⟩

/-! ### Calendar.day_of -/
def sp_Calendar_day_of (K : PySem.W.Frag) (T : Txt K mg base) : Sp := fun vs H Q E => ∃ (c p : Addr) (cal : Cal) (y m d : Int) (n : Nat), vs = [.ref c, .ref p] ∧ CalAt K T.C_Sun T.C_Moon T.C_Measure H c cal ∧ cal.Ok ∧ SqT K H p [.int y, .int m, .int d] ∧ Sm n y ∧ n ≤ 4700 ∧ NdefX.TabsN (NT T.ct_counter) H ∧
  (¬ GoodD cal y m d → TV (NT T.ct_counter) T.C_NoDate E H [("date", .ref p)]) ∧ (GoodD cal y m d → ∀ (H' : Hp), SameT (NT T.ct_counter) H H' → Q (.int (dayOf cal y m d)) H')
theorem ok_Calendar_day_of (T : Txt K mg base) : FnOk P w K mg base (L2.CX P w) 5 T.a_Calendar_day_of T.fd_Calendar_day_of ["self", "date"] (sp_Calendar_day_of K T) := by
  refine T.F_Calendar_day_of.okX sc_Calendar_day_of (fun vs H Q E h => ?_) (fun cdv A outer s H vs Q E hr h => ?_)
  · obtain ⟨_, _, _, _, _, _, _, rfl, _⟩ := h; rfl
  · obtain ⟨c, p, cal, y, m, d, n, rfl, hc, ok, hp, sy, hn, hT, q0, q⟩ := h
    have hu := hr.units
    refine ⟨_, (pss_cons (ps_asg (pv 1) (pg_tup rfl (pgs_cons (pg_name (i := 2) sc_Calendar_day_of.nd rfl (Or.inl rfl)) (pgs_cons (pg_name (i := 3) sc_Calendar_day_of.nd rfl (Or.inl rfl)) (pgs_cons (pg_name (i := 4) sc_Calendar_day_of.nd rfl (Or.inl rfl)) pgs_nil)))))
        (pss_cons (ps_set (i := 5) sc_Calendar_day_of.nd rfl (Or.inl rfl) (pe_alt2 (pe_meth (pv 0) T.cl_Sun T.me_Sun_lengths (ok_Sun_lengths T) (hr.mono (by decide)) T.b_Sun_lengths .nil pass0 (pa_cons (pv 2) pa_nil)) (pe_meth (pv 0) T.cl_Moon T.me_Moon_lengths (ok_Moon_lengths T) (hr.mono (by decide)) T.b_Moon_lengths .nil pass0 (pa_cons (pv 2) pa_nil))))
        (pss_cons (ps_if (PW.pt (pw_or (pt_cmpR op_lt (pv 3) pe_int (nomark _)) (pw_or1 (pt_cmpR op_gt (pv 3) (pe_callB (kb_len K) (by rfl) T.n_len (by decide +kernel) (pa_cons (pv 5) pa_nil)) (nomark _))))) (pss_one (ps_raise rfl (takes_of rfl rfl rfl rfl) (pmk_oex T.ox_NoDate T.in_NoDate_init T.ti_NoDate_init (ok_NoDate_init T) (hr.mono (by decide)) T.b_NoDate_init .nil pass0 rfl T.gc_NoDate (pa_cons (pv 1) pa_nil)))) pss_nil)
        (pss_cons (ps_if (PW.pt (pw_or (pt_cmpR op_lt (pv 4) pe_int (nomark _)) (pw_or1 (pt_cmpR op_gt (pv 4) (pe_ix (kb_ix K) (pv 5) (pe_op op_sub (pv 3) pe_int) (fun _ _ => rfl)) (nomark _))))) (pss_one (ps_raise rfl (takes_of rfl rfl rfl rfl) (pmk_oex T.ox_NoDate T.in_NoDate_init T.ti_NoDate_init (ok_NoDate_init T) (hr.mono (by decide)) T.b_NoDate_init .nil pass0 rfl T.gc_NoDate (pa_cons (pv 1) pa_nil)))) pss_nil)
        (PSs.nox (pss_one (ps_ret (pe_op op_sub (pe_op op_addA (pe_op op_addA (pe_alt2 (pe_meth (pv 0) T.cl_Sun T.me_Sun_year_start (ok_Sun_year_start T) (hr.mono (by decide)) T.b_Sun_year_start .nil pass0 (pa_cons (pv 2) pa_nil)) (pe_meth (pv 0) T.cl_Moon T.me_Moon_year_start (ok_Moon_year_start T) (hr.mono (by decide)) T.b_Moon_year_start .nil pass0 (pa_cons (pv 2) pa_nil))) (pe_callB (kb_sum K (hc := rfl)) (by rfl) T.n_sum (by decide +kernel) (pa_cons (pe_slice sl_list (pv 5) po_none (po_some (pe_op op_sub (pv 3) pe_int))) pa_nil))) (pv 4)) pe_int)))))))), ?_⟩
    walk_at "go"
    refine k_altX hc noF_lengths ?_
    walk_at "go"
    refine k_Cal_lengths hc ok sy hn hT fun pl H1 hn1 s1 t1 => ?_
    have hc1 := hc.mono s1
    have hT1 := s1.tab hT
    have hl : SqL K H1 pl ((cal.lens y).map V.int) := SqL.of t1
    walk_at "go"
    with_reducible apply k_seqI
    refine or_split (m < 1 ∨ ((cal.lens y).length : Int) < m) (fun hb => ?_) (fun hg => ?_) fun R' h1 h2 => ?_
    · walk_at "go"
      refine k_mkO ?_
      walk_at "go"
      exact k_mkTV1 ((q0 fun g => by have := g.m1; have := g.m2; omega).mono s1)
    · walk_at "go"
      with_reducible apply k_seqI
      refine or_split (d < 1 ∨ (cal.lens y).getD (m - 1).toNat 0 < d) (fun hb => ?_) (fun hg2 => ?_) fun R' h1 h2 => ?_
      · walk_at "go"
        refine k_mkO ?_
        walk_at "go"
        exact k_mkTV1 ((q0 fun g => by have := g.d1; have := g.d2; omega).mono s1)
      · have g : GoodD cal y m d := ⟨by omega, by omega, by omega, by omega⟩
        walk_at "go"
        refine k_altX hc1 noF_year_start ?_
        walk_at "go"
        refine k_Cal_year_start hc1 ok sy (by omega) hT1 fun H2 s2 => ?_
        have hl2 := s2.sql hl
        walk_at "go"
        rename_i ps H3 hn3 s3 t3
        rw [cutV_to_ints _ (by omega)] at t3
        refine k_sum (SqL.of t3) ?_
        walk_at "go"
        exact q g _ ((s1.trans s2).trans (.of s3))
      · walk_at "go"
        refine if_dec (fun h => h1 (.inl h)) (fun h => ?_)
        walk_at "go"
        refine k_ixL hl (atI_getD (by omega) (by omega)) ?_
        walk_at "go"
        exact dec_two (R := fun b => R' b H1) (fun h => h1 (.inr h)) (fun h => h2 (by omega))
    · walk_at "go"
      refine if_dec (fun h => h1 (.inl h)) (fun h => ?_)
      walk_at "go"
      rw [List.length_map]
      exact dec_two (R := fun b => R' b H1) (fun h => h1 (.inr h)) (fun h => h2 (by omega))
theorem k_Calendar_day_of {T : Txt K mg base} {H : Hp} {Q : VK} {E : XK} {c p : Addr} {cal : Cal} {y m d : Int} {n : Nat} (h : CalAt K T.C_Sun T.C_Moon T.C_Measure H c cal) (ok : cal.Ok) (hp : SqT K H p [.int y, .int m, .int d]) (sy : Sm n y) (hn : n ≤ 4700) (hT : NdefX.TabsN (NT T.ct_counter) H)
    (q0 : ¬ GoodD cal y m d → TV (NT T.ct_counter) T.C_NoDate E H [("date", .ref p)]) (q : GoodD cal y m d → ∀ (H' : Hp), SameT (NT T.ct_counter) H H' → Q (.int (dayOf cal y m d)) H') : sp_Calendar_day_of K T [.ref c, .ref p] H Q E := ⟨c, p, cal, y, m, d, n, rfl, h, ok, hp, sy, hn, hT, q0, q⟩

/-! ### _law_aimed -/
theorem sm140 {i : Int} (h1 : -10000000000000000000000000000000000000000 ≤ i) (h2 : i ≤ 10000000000000000000000000000000000000000) : Sm 140 i := ⟨Nat.lt_of_le_of_lt (show i.natAbs ≤ 10000000000000000000000000000000000000000 by omega) (by decide)⟩
def sp_Laimed (K : PySem.W.Frag) (T : Txt K mg base) : Sp := fun vs H Q _ => ∃ (c w : Addr) (cal : Cal) (mo da : Option Int) (st re x : Int), vs = [.ref c, .ref w, .int x] ∧ CalAt K T.C_Sun T.C_Moon T.C_Measure H c cal ∧ cal.Ok ∧ SqT K H w [optV mo, optV da, .int st, .int re] ∧ (∀ v, mo = some v → 1 ≤ v) ∧ 1 ≤ st ∧ st ≤ 800 ∧ Sm 140 re ∧ Sm 140 x ∧ Sm 140 cal.st ∧ NdefX.TabsN (NT T.ct_counter) H ∧
  ∀ (z : Int) (H' : Hp), SameT (NT T.ct_counter) H H' → Sm 390 z → Q (.int z) H'
theorem ok_Laimed (T : Txt K mg base) : FnOk P w K mg base CX0 6 T.a_Laimed T.fd_Laimed ["_law_calendar", "_law_wanted_here", "_law_number_here"] (sp_Laimed K T) := by
  refine T.F_Laimed.ok sc_Laimed (fun vs H Q E h => ?_) (fun cdv A outer s H vs Q E hr h => ?_)
  · obtain ⟨_, _, _, _, _, _, _, _, rfl, _⟩ := h; rfl
  · obtain ⟨c, w, cal, mo, da, st, re, x, rfl, hc, ok, hw, hmo, st1, st8, sre, sx, sst, hT, q⟩ := h
    have hu := hr.units
    refine ⟨_, (pss_cons (ps_asg (pv 1) (pg_tup rfl (pgs_cons (pg_name (i := 3) sc_Laimed.nd rfl (Or.inl rfl)) (pgs_cons (pg_name (i := 4) sc_Laimed.nd rfl (Or.inl rfl)) (pgs_cons (pg_name (i := 5) sc_Laimed.nd rfl (Or.inl rfl)) (pgs_cons (pg_name (i := 6) sc_Laimed.nd rfl (Or.inl rfl)) pgs_nil))))))
        (pss_cons (ps_if (pt_cmpR kb_isN (pv 3) pe_non (nomark _)) (pss_one (ps_set (i := 3) sc_Laimed.nd rfl (Or.inl rfl) pe_int)) pss_nil)
        (pss_cons (ps_set (i := 7) sc_Laimed.nd rfl (Or.inl rfl) (pe_op op_addA (pv 6) (pe_op op_mulX (pv 5) (pv 2))))
        (pss_cons (ps_set (i := 8) sc_Laimed.nd rfl (Or.inl rfl) (pe_alt2 (pe_meth (pv 0) T.cl_Sun T.me_Sun_lengths (ok_Sun_lengths T) (hr.mono (by decide)) T.b_Sun_lengths .nil pass0 (pa_cons (pv 7) pa_nil)) (pe_meth (pv 0) T.cl_Moon T.me_Moon_lengths (ok_Moon_lengths T) (hr.mono (by decide)) T.b_Moon_lengths .nil pass0 (pa_cons (pv 7) pa_nil))))
        (pss_cons (ps_if (pt_cmpR kb_isN (pv 4) pe_non (nomark _)) (pss_one (ps_set (i := 4) sc_Laimed.nd rfl (Or.inl rfl) (pe_op op_addA pe_int (pe_op op_mod (pv 2) pe_int)))) pss_nil)
        (pss_cons (ps_if (PW.pt (pw_and (pt_cmpR op_lt (pv 4) pe_int (nomark _)) (pw_and1 (pt_cmpR op_le (pv 3) (pe_callB (kb_len K) (by rfl) T.n_len (by decide +kernel) (pa_cons (pv 8) pa_nil)) (nomark _))))) (pss_one (ps_set (i := 4) sc_Laimed.nd rfl (Or.inl rfl) (pe_op op_addA (pe_op op_addA (pe_ix (kb_ix K) (pv 8) (pe_op op_sub (pv 3) pe_int) (fun _ _ => rfl)) pe_int) (pv 4)))) pss_nil)
        (pss_cons (ps_set (i := 9) sc_Laimed.nd rfl (Or.inl rfl) (pv 2))
        (pss_cons (ps_try_only rfl rfl ⟨rfl, by decide, .inl T.gc_NoDate⟩ takes0 (fun W pn xe tk _ => (pss_one (ps_set (i := 9) sc_Laimed.nd rfl (Or.inl rfl) (pe_alt2 (pe_methX (pv 0) T.cl_Sun T.me_Sun_day_of (ok_Calendar_day_of T) (hr.mono (by decide)) T.b_Calendar_day_of .nil (fun σ => passAt tk σ) (pa_cons (pe_tup (pa_cons (pv 7) (pa_cons (pv 3) (pa_cons (pv 4) pa_nil)))) pa_nil)) (pe_methX (pv 0) T.cl_Moon T.me_Moon_day_of (ok_Calendar_day_of T) (hr.mono (by decide)) T.b_Calendar_day_of .nil (fun σ => passAt tk σ) (pa_cons (pe_tup (pa_cons (pv 7) (pa_cons (pv 3) (pa_cons (pv 4) pa_nil)))) pa_nil)))))) (fun a oe cls d pn _ _ => (pss_one (ps_set (i := 9) sc_Laimed.nd rfl (Or.inl rfl) (pv 2)))))
        (pss_one (ps_ret (pv 9))))))))))), ?_⟩
    walk_at "go"
    with_reducible refine k_cutI (fun σ' H' => ∃ M : Int, σ' = [some (.ref c), some (.ref w), some (.int x), some (.int M), some (optV da), some (.int st), some (.int re), none, none, none] ∧ H = H' ∧ 1 ≤ M) (fun N hN => ?_) ?_
    · rcases mo with _ | v
      · simp only [show optV none = V.non from rfl]
        walk_at "run"
        exact hN _ _ ⟨1, rfl, rfl, by decide⟩
      · simp only [show ∀ m : Int, optV (some m) = V.int m from fun _ => rfl]
        walk_at "run"
        exact hN _ _ ⟨v, rfl, rfl, hmo v rfl⟩
    rintro _ _ ⟨M, rfl, rfl, M1⟩
    have sst' : Sm 11 st := ⟨Nat.lt_of_le_of_lt (show st.natAbs ≤ 800 by omega) (by decide)⟩
    walk_at "go"
    have sy : Sm 300 (re + st * x) := sm_mono (sm_addM sre (sm_mul sst' sx)) (by decide)
    generalize re + st * x = y at *
    refine k_altX hc noF_lengths ?_
    walk_at "go"
    refine k_Cal_lengths hc ok sy (by decide) hT fun pl H1 hn1 s1 t1 => ?_
    have hc1 := hc.mono s1
    have hT1 := s1.tab hT
    have hll := cal.len ok y
    walk_at "go"
    with_reducible refine k_cutI (fun σ' H' => ∃ D : Int, σ' = [some (.ref c), some (.ref w), some (.int x), some (.int M), some (.int D), some (.int st), some (.int re), some (.int y), some (.ref pl), none] ∧ H1 = H') (fun N hN => ?_) ?_
    · rcases da with _ | v
      · simp only [show optV none = V.non from rfl]
        walk_at "run"
        exact hN _ _ ⟨_, rfl, rfl⟩
      · simp only [show ∀ m : Int, optV (some m) = V.int m from fun _ => rfl]
        walk_at "run"
        exact hN _ _ ⟨v, rfl, rfl⟩
    rintro _ _ ⟨D, rfl, rfl⟩
    with_reducible refine k_cutI (fun σ' H' => ∃ D : Int, σ' = [some (.ref c), some (.ref w), some (.int x), some (.int M), some (.int D), some (.int st), some (.int re), some (.int y), some (.ref pl), none] ∧ H1 = H') (fun N hN => ?_) ?_
    · refine and_split (D < 0 ∧ M ≤ ((cal.lens y).length : Int)) (fun h => ?_) (fun h => ?_) fun R' h1 h2 => ?_
      · walk_at "go"
        refine k_ixL (SqL.of t1) (atI_getD (ls := cal.lens y) (i := M - 1) (by omega) (by omega)) ?_
        walk_at "go"
        exact hN _ _ ⟨_, rfl, rfl⟩
      · walk_at "go"
        exact hN _ _ ⟨D, rfl, rfl⟩
      · walk_at "go"
        refine if_dec (fun a => ?_) (fun a => ?_)
        · walk_at "go"
          rw [List.length_map]
          exact dec_two (R := fun c => R' c H1) (fun b => h1 ⟨a, b⟩) (fun b => h2 (fun z => b z.2))
        · walk_at "go"
          exact h2 (fun z => a z.1)
    rintro _ _ ⟨D, rfl, rfl⟩
    walk_at "go"
    with_reducible refine k_cut (fun σ' H' => ∃ z : Int, σ' = [some (.ref c), some (.ref w), some (.int x), some (.int M), some (.int D), some (.int st), some (.int re), some (.int y), some (.ref pl), some (.int z)] ∧ SameT (NT T.ct_counter) H1 H' ∧ Sm 390 z) (fun N hN => ?_) ?_
    · show tAsg _ _ _ _ _
      walk_at "go"
      refine k_altX1 hc1 noF_day_of ?_
      walk_at "go"
      rename_i p2 H2 hn2 s2 t2
      have hc2 := hc1.mono (T := NT T.ct_counter) (.of s2)
      have hT2 := hT1.ext s2
      refine k_Calendar_day_of hc2 ok (SqT.of t2) sy (by decide) hT2 (fun hg e H3 s3 t3 => ?_) (fun hg H3 s3 => ?_)
      · refine ⟨true, exm_of T.bc_NoDate T.ic_NoDate T.tc_NoDate T.sc_NoDate, fun _ a0 _ => ?_, fun q => Bool.noConfusion q⟩
        walk_at "go"
        exact hN _ _ ⟨x, rfl, (SameT.of s2).trans s3, sm_mono sx (by decide)⟩
      · walk_at "go"
        refine hN _ _ ⟨_, rfl, (SameT.of s2).trans s3, ?_⟩
        have a1 := cal.start_sm ok sy
        have s1' : Sm 300 1 := sm_mono (sm41 (by decide) (by decide)) (by decide)
        have a2 := cal.start_sm ok (sm_addX sy s1')
        obtain ⟨y1, y2⟩ := hg.is.year ok
        have b1 := sm_addX (sm_mono a1 (show 300 + 30 ≤ 380 by decide)) (sm_mono sst (show 140 ≤ 380 by decide))
        have b2 := sm_addX (sm_mono a2 (show 301 + 30 ≤ 380 by decide)) (sm_mono sst (show 140 ≤ 380 by decide))
        rw [show cal.start y - cal.st + cal.st = cal.start y by omega] at b1
        rw [show cal.start (y + 1) - cal.st + cal.st = cal.start (y + 1) by omega] at b2
        exact sm_mono (sm_between b1 b2 y1 (by omega)) (by decide)
    rintro _ H3 ⟨z, rfl, s3, sz⟩
    walk_at "go"
    exact q z H3 (s1.trans s3) sz
theorem k_Laimed {T : Txt K mg base} {H : Hp} {Q : VK} {E : XK} {c w : Addr} {cal : Cal} {mo da : Option Int} {st re x : Int} (hc : CalAt K T.C_Sun T.C_Moon T.C_Measure H c cal) (ok : cal.Ok) (hw : SqT K H w [optV mo, optV da, .int st, .int re]) (hmo : ∀ v, mo = some v → 1 ≤ v) (st1 : 1 ≤ st) (st8 : st ≤ 800) (sre : Sm 140 re) (sx : Sm 140 x) (sst : Sm 140 cal.st) (hT : NdefX.TabsN (NT T.ct_counter) H)
  (q : ∀ (z : Int) (H' : Hp), SameT (NT T.ct_counter) H H' → Sm 390 z → Q (.int z) H') : sp_Laimed K T [.ref c, .ref w, .int x] H Q E := ⟨c, w, cal, mo, da, st, re, x, rfl, hc, ok, hw, hmo, st1, st8, sre, sx, sst, hT, q⟩

/-! ### _law_whole -/
def sp_Lwhole (K : PySem.W.Frag) : Sp := fun vs H Q _ => ∃ i, vs = [.int i] ∧ Q (.bl true) H
theorem ok_Lwhole (T : Txt K mg base) : FnOk P w K mg base CX0 1 T.a_Lwhole T.fd_Lwhole ["_law_found"] (sp_Lwhole K) := by
  refine T.F_Lwhole.ok sc_Lwhole (fun vs H Q E h => ?_) (fun cdv A outer s H vs Q E hr h => ?_)
  · obtain ⟨_, rfl, _⟩ := h; rfl
  · obtain ⟨i, rfl, q⟩ := h
    refine ⟨_, (pss_one (ps_ret (pe_and (pe_callB (kb_isi K) (by rfl) T.n_isinstance (by decide +kernel) (pa_cons (pv 0) (pa_cons (pe_bltn (v := .ty "int") (by rfl) T.n_int (by decide +kernel) rfl) pa_nil))) (pe_one (pe_not (pe_callB (kb_isi K) (by rfl) T.n_isinstance (by decide +kernel) (pa_cons (pv 0) (pa_cons (pe_bltn (v := .ty "bool") (by rfl) T.n_bool (by decide +kernel) rfl) pa_nil)))))))), ?_⟩
    walk_at "go"
    exact q
theorem k_whole {H : Hp} {Q : VK} {E : XK} {i : Int} (q : Q (.bl true) H) : sp_Lwhole K [.int i] H Q E := ⟨i, rfl, q⟩
local macro_rules | `(tactic| walk_at "st") => `(tactic| first | (with_reducible apply k_whole) | fail)

/-! ### Measure.seek -/
def sp_Measure_seek (K : PySem.W.Frag) (T : Txt K mg base) : Sp := fun vs H Q _ => ∃ (m : Addr) (b : Int) (ts : List Tm) (x : Int) (n : Nat), vs = [.ref m, .int x] ∧ MeasAt K T.C_Measure H m b ts ∧ MeasOk b ts ∧ Sm n x ∧ n ≤ 4000 ∧ NdefX.TabsN (NT T.ct_counter) H ∧
  ∀ (z : Int) (H' : Hp), SameT (NT T.ct_counter) H H' → uptoM b ts z ≤ x → x < uptoM b ts (z + 1) → Sm (n + 500) z → Q (.int z) H'
theorem ok_Measure_seek (T : Txt K mg base) : FnOk P w K mg base CX0 4 T.a_Measure_seek T.fd_Measure_seek ["self", "total"] (sp_Measure_seek K T) := by
  refine T.F_Measure_seek.ok sc_Measure_seek (fun vs H Q E h => ?_) (fun cdv A outer s H vs Q E hr h => ?_)
  · obtain ⟨_, _, _, _, _, rfl, _⟩ := h; rfl
  · obtain ⟨m, b, ts, x, n, rfl, ma, ok, sx, hn, hT, q⟩ := h
    have hu := hr.units
    obtain ⟨dx, lm, hmi, htm⟩ := ma
    have no_up : (mfs b lm).lookup ("upto" : Str) = none := mfs_no _ _ (by decide +kernel) (by decide +kernel)
    have no_pe : (mfs b lm).lookup ("period" : Str) = none := mfs_no _ _ (by decide +kernel) (by decide +kernel)
    have ma : MeasAt K T.C_Measure H m b ts := ⟨dx, lm, hmi, htm⟩
    have b0 := ok.b0
    have b1 := ok.b1
    have hlen := ok.len
    obtain ⟨p1, p2⟩ := per_bd ok
    obtain ⟨u1, u2⟩ := per_upto ok
    refine ⟨_, (pss_cons (ps_set (i := 2) sc_Measure_seek.nd rfl (Or.inl rfl) (pe_meth0 (pv 0) T.cl_Measure T.me_Measure_period (ok_Measure_period T) (hr.mono (by decide)) T.b_Measure_period .nil pass0))
        (pss_cons (ps_asg (pe_callB cb_divmod (by rfl) T.n_divmod (by decide +kernel) (pa_cons (pv 1) (pa_cons (pe_meth (pv 0) T.cl_Measure T.me_Measure_upto (ok_Measure_upto T) (hr.mono (by decide)) T.b_Measure_upto .nil pass0 (pa_cons (pv 2) pa_nil)) pa_nil))) (pg_tup rfl (pgs_cons (pg_name (i := 3) sc_Measure_seek.nd rfl (Or.inl rfl)) (pgs_cons (pg_name (i := 4) sc_Measure_seek.nd rfl (Or.inl rfl)) pgs_nil))))
        (pss_cons (ps_set (i := 5) sc_Measure_seek.nd rfl (Or.inl rfl) pe_int)
        (pss_cons (ps_set (i := 6) sc_Measure_seek.nd rfl (Or.inl rfl) (pv 2))
        (pss_cons (ps_while PassesOwn.never (pt_cmpR op_gt (pe_op op_sub (pv 6) (pv 5)) pe_int (nomark _)) (pss_cons (ps_set (i := 7) sc_Measure_seek.nd rfl (Or.inl rfl) (pe_op op_fdivW (pe_op op_addA (pv 5) (pv 6)) pe_int))
        (pss_one (ps_if (pt_cmpR op_le (pe_meth (pv 0) T.cl_Measure T.me_Measure_upto (ok_Measure_upto T) (hr.mono (by decide)) T.b_Measure_upto .nil pass0 (pa_cons (pv 7) pa_nil)) (pv 4) (nomark _)) (pss_one (ps_set (i := 5) sc_Measure_seek.nd rfl (Or.inl rfl) (pv 7))) (pss_one (ps_set (i := 6) sc_Measure_seek.nd rfl (Or.inl rfl) (pv 7)))))))
        (pss_one (ps_ret (pe_op op_addA (pe_op op_mulX (pv 3) (pv 2)) (pv 5))))))))), ?_⟩
    walk_at "go"
    refine k_metX hmi no_pe ?_
    walk_at "go"
    refine k_Measure_period ma ok.ok hlen ?_
    have hro := fun r k => upto_rounds (b := b) ok.ok (per_dvd ok) r k
    generalize hP : perT ts = R at *
    walk_at "go"
    refine k_metX hmi no_up ?_
    walk_at "go"
    refine k_Measure_upto ma b0 b1 ok.ok (by omega) (sm_mono (sm41 (by omega) (by omega)) (by decide)) hT fun H1 s1 => ?_
    have ma1 := ma.mono s1
    have hmi1 := s1.ins hmi
    have hT1 := s1.tab hT
    generalize hU : uptoM b ts R = U at *
    have e1 := Int.emod_add_mul_ediv x U
    have m1 := Int.emod_nonneg x (show U ≠ 0 by omega)
    have m2 := Int.emod_lt_of_pos x (show 0 < U by omega)
    walk_at "go"
    refine k_divmod (sm_divp4 (by omega) sx hn) fun p H2 hnp s2 t2 => ?_
    have s12 := s1.trans (.of s2)
    walk_at "go"
    apply k_seqW
    refine k_while (fun j σ' H' => ∃ (lo hi : Int) (v : Option V), σ' = [some (.ref m), some (.int x), some (.int R), some (.int (x / U)), some (.int (x % U)), some (.int lo), some (.int hi), v] ∧ SameT (NT T.ct_counter) H H' ∧ 0 ≤ lo ∧ lo < hi ∧ hi ≤ R ∧ uptoM b ts lo ≤ x % U ∧ x % U < uptoM b ts hi ∧ j = (hi - lo).toNat) (R.toNat)
      ⟨0, R, none, rfl, s12, by omega, by omega, by omega, by rw [upto_zero ok.ok]; exact m1, by rw [hU]; exact m2, by omega⟩ ?_
    rintro j _ H3 ⟨lo, hi, _, rfl, s3, g0, g1, g2, g3, g4, rfl⟩
    have ma3 := ma.mono s3
    have hmi3 := s3.ins hmi
    have hT3 := s3.tab hT
    walk_at "go"
    refine if_dec (fun hbr => ?_) (fun hbr => ?_)
    · apply k_turn
      walk_at "go"
      have d1 : lo < (lo + hi) / 2 := by omega
      have d2 : (lo + hi) / 2 < hi := by omega
      generalize (lo + hi) / 2 = mid at *
      with_reducible apply k_if
      walk_at "go"
      refine k_metX hmi3 no_up ?_
      walk_at "go"
      refine k_Measure_upto ma3 b0 b1 ok.ok (by omega) (sm_mono (sm41 (by omega) (by omega)) (by decide)) hT3 fun H4 s4 => ?_
      walk_at "go"
      refine if_dec (fun hb2 => ?_) (fun hb2 => ?_)
      · walk_at "go"
        exact ⟨_, by omega, _, _, _, rfl, s3.trans s4, by omega, by omega, by omega, hb2, g4, rfl⟩
      · walk_at "go"
        exact ⟨_, by omega, _, _, _, rfl, s3.trans s4, by omega, by omega, by omega, g3, by omega, rfl⟩
    · have hh : hi = lo + 1 := by omega
      subst hh
      have sz : Sm n (x / U) := sm_quot sx
      have sR : Sm 200 R := sm41 (by omega) (by omega)
      have sl : Sm 200 lo := sm41 (by omega) (by omega)
      walk_at "go"
      refine k_I (sm_mulx sz sR (by omega)) ?_
      walk_at "go"
      refine q _ _ s3 ?_ ?_ (sm_mono (sm_addM (sm_mul sz sR) sl) (by omega))
      · rw [hro]; rw [Int.mul_comm]; omega
      · rw [show x / U * R + lo + 1 = x / U * R + (lo + 1) by omega, hro]; rw [Int.mul_comm]; omega
theorem k_Measure_seek {T : Txt K mg base} {H : Hp} {Q : VK} {E : XK} {m : Addr} {b : Int} {ts : List Tm} {x : Int} {n : Nat} (h : MeasAt K T.C_Measure H m b ts) (ok : MeasOk b ts) (sx : Sm n x) (hn : n ≤ 4000) (hT : NdefX.TabsN (NT T.ct_counter) H)
    (q : ∀ (z : Int) (H' : Hp), SameT (NT T.ct_counter) H H' → uptoM b ts z ≤ x → x < uptoM b ts (z + 1) → Sm (n + 500) z → Q (.int z) H') : sp_Measure_seek K T [.ref m, .int x] H Q E := ⟨m, b, ts, x, n, rfl, h, ok, sx, hn, hT, q⟩

/-! ### Sun.year_at -/
def sp_Sun_year_at (K : PySem.W.Frag) (T : Txt K mg base) : Sp := fun vs H Q _ => ∃ (c : Addr) (st : Int) (ls : List Int) (lp : Int) (ts : List Tm) (x : Int) (n : Nat), vs = [.ref c, .int x] ∧ SunAt K T.C_Sun T.C_Measure H c st ls lp ts ∧ SunOk ls lp ts ∧ Sm n (x - st) ∧ n ≤ 4000 ∧ NdefX.TabsN (NT T.ct_counter) H ∧
  ∀ (y : Int) (H' : Hp), SameT (NT T.ct_counter) H H' → st + uptoM ls.sum ts y ≤ x → x < st + uptoM ls.sum ts (y + 1) → Sm (n + 500) y → Q (.int y) H'
theorem ok_Sun_year_at (T : Txt K mg base) : FnOk P w K mg base CX0 5 T.a_Sun_year_at T.fd_Sun_year_at ["self", "day"] (sp_Sun_year_at K T) := by
  refine T.F_Sun_year_at.ok sc_Sun_year_at (fun vs H Q E h => ?_) (fun cdv A outer s H vs Q E hr h => ?_)
  · obtain ⟨_, _, _, _, _, _, _, rfl, _⟩ := h; rfl
  · obtain ⟨c, st, ls, lp, ts, x, n, rfl, ⟨dx, pm, py, hc, hm, hy⟩, ok, sx, hn, hT, q⟩ := h
    have hu := hr.units
    have mo := ok.meas
    obtain ⟨dy, ly, hyi, hyt⟩ := hy
    refine ⟨_, (pss_one (ps_ret (pe_meth (pe_fld (pv 0) rfl) T.cl_Measure T.me_Measure_seek (ok_Measure_seek T) (hr.mono (by decide)) T.b_Measure_seek .nil pass0 (pa_cons (pe_op op_sub (pv 1) (pe_fld (pv 0) rfl)) pa_nil)))), ?_⟩
    walk_at "go"
    refine k_fldX hc T.cl_Sun T.na_Sun_years (sfs_years _ _ _ _) ?_
    walk_at "go"
    refine k_metX hyi (mfs_no _ _ (by decide +kernel) (by decide +kernel)) ?_
    walk_at "go"
    refine k_fldX hc T.cl_Sun T.na_Sun_start (sfs_start _ _ _ _) ?_
    walk_at "go"
    refine k_Measure_seek ⟨dy, ly, hyi, hyt⟩ mo sx hn hT fun y H1 s1 y1 y2 sy => ?_
    walk_at "go"
    exact q _ _ s1 (by omega) (by omega) sy
theorem k_Sun_year_at {T : Txt K mg base} {H : Hp} {Q : VK} {E : XK} {c : Addr} {st : Int} {ls : List Int} {lp : Int} {ts : List Tm} {x : Int} {n : Nat} (h : SunAt K T.C_Sun T.C_Measure H c st ls lp ts) (ok : SunOk ls lp ts) (sx : Sm n (x - st)) (hn : n ≤ 4000) (hT : NdefX.TabsN (NT T.ct_counter) H)
    (q : ∀ (y : Int) (H' : Hp), SameT (NT T.ct_counter) H H' → st + uptoM ls.sum ts y ≤ x → x < st + uptoM ls.sum ts (y + 1) → Sm (n + 500) y → Q (.int y) H') : sp_Sun_year_at K T [.ref c, .int x] H Q E := ⟨c, st, ls, lp, ts, x, n, rfl, h, ok, sx, hn, hT, q⟩

/-! ### Moon.year_at -/
def sp_Moon_year_at (K : PySem.W.Frag) (T : Txt K mg base) : Sp := fun vs H Q _ => ∃ (c : Addr) (st b1 : Int) (t1 : List Tm) (b2 : Int) (t2 : List Tm) (x : Int) (n : Nat), vs = [.ref c, .int x] ∧ MoonAt K T.C_Moon T.C_Measure H c st b1 t1 b2 t2 ∧ MoonOk b1 t1 b2 t2 ∧ Sm n (x - st) ∧ n ≤ 3000 ∧ NdefX.TabsN (NT T.ct_counter) H ∧
  ∀ (y : Int) (H' : Hp), SameT (NT T.ct_counter) H H' → st + uptoM b1 t1 (uptoM b2 t2 y) ≤ x → x < st + uptoM b1 t1 (uptoM b2 t2 (y + 1)) → Sm (n + 1000) y → Q (.int y) H'
theorem ok_Moon_year_at (T : Txt K mg base) : FnOk P w K mg base CX0 5 T.a_Moon_year_at T.fd_Moon_year_at ["self", "day"] (sp_Moon_year_at K T) := by
  refine T.F_Moon_year_at.ok sc_Moon_year_at (fun vs H Q E h => ?_) (fun cdv A outer s H vs Q E hr h => ?_)
  · obtain ⟨_, _, _, _, _, _, _, _, rfl, _⟩ := h; rfl
  · obtain ⟨c, st, b1, t1, b2, t2, x, n, rfl, ⟨dx, pd, pm, hc, hd, hm⟩, ok, sx, hn, hT, q⟩ := h
    have hu := hr.units
    have l1 := ok.m1.len
    have l2 := ok.m2.len
    obtain ⟨dd, ld, hdi, hdt⟩ := id hd
    obtain ⟨dm, lm, hmi, hmt⟩ := id hm
    refine ⟨_, (pss_one (ps_ret (pe_meth (pe_fld (pv 0) rfl) T.cl_Measure T.me_Measure_seek (ok_Measure_seek T) (hr.mono (by decide)) T.b_Measure_seek .nil pass0 (pa_cons (pe_meth (pe_fld (pv 0) rfl) T.cl_Measure T.me_Measure_seek (ok_Measure_seek T) (hr.mono (by decide)) T.b_Measure_seek .nil pass0 (pa_cons (pe_op op_sub (pv 1) (pe_fld (pv 0) rfl)) pa_nil)) pa_nil)))), ?_⟩
    walk_at "go"
    refine k_fldX hc T.cl_Moon T.na_Moon_many (mofs_many _ _ _) ?_
    walk_at "go"
    refine k_metX hmi (mfs_no _ _ (by decide +kernel) (by decide +kernel)) ?_
    walk_at "go"
    refine k_fldX hc T.cl_Moon T.na_Moon_days (mofs_days _ _ _) ?_
    walk_at "go"
    refine k_metX hdi (mfs_no _ _ (by decide +kernel) (by decide +kernel)) ?_
    walk_at "go"
    refine k_fldX hc T.cl_Moon T.na_Moon_start (mofs_start _ _ _) ?_
    walk_at "go"
    refine k_Measure_seek hd ok.m1 sx (by omega) hT fun z H1 s1 z1 z2 sz => ?_
    walk_at "go"
    refine k_Measure_seek (hm.mono s1) ok.m2 sz (by omega) (s1.tab hT) fun y H2 s2 y1 y2 sy => ?_
    walk_at "go"
    have g1 := upto_le ok.m1.ok ok.m1.falls y1
    have g2 := upto_le ok.m1.ok ok.m1.falls (show z + 1 ≤ uptoM b2 t2 (y + 1) by omega)
    exact q _ _ (s1.trans s2) (by omega) (by omega) (sm_mono sy (by omega))
theorem k_Moon_year_at {T : Txt K mg base} {H : Hp} {Q : VK} {E : XK} {c : Addr} {st b1 : Int} {t1 : List Tm} {b2 : Int} {t2 : List Tm} {x : Int} {n : Nat} (h : MoonAt K T.C_Moon T.C_Measure H c st b1 t1 b2 t2) (ok : MoonOk b1 t1 b2 t2) (sx : Sm n (x - st)) (hn : n ≤ 3000) (hT : NdefX.TabsN (NT T.ct_counter) H)
    (q : ∀ (y : Int) (H' : Hp), SameT (NT T.ct_counter) H H' → st + uptoM b1 t1 (uptoM b2 t2 y) ≤ x → x < st + uptoM b1 t1 (uptoM b2 t2 (y + 1)) → Sm (n + 1000) y → Q (.int y) H') : sp_Moon_year_at K T [.ref c, .int x] H Q E := ⟨c, st, b1, t1, b2, t2, x, n, rfl, h, ok, sx, hn, hT, q⟩

theorem k_Cal_year_at {T : Txt K mg base} {H : Hp} {Q : VK} {E : XK} {c : Addr} {cal : Cal} {x : Int} {n : Nat} (h : CalAt K T.C_Sun T.C_Moon T.C_Measure H c cal) (ok : cal.Ok) (sx : Sm n (x - cal.st)) (hn : n ≤ 3000) (hT : NdefX.TabsN (NT T.ct_counter) H)
    (q : ∀ (y : Int) (H' : Hp), SameT (NT T.ct_counter) H H' → cal.start y ≤ x → x < cal.start (y + 1) → Sm (n + 1000) y → Q (.int y) H') : SpC cal (sp_Sun_year_at K T) (sp_Moon_year_at K T) [.ref c, .int x] H Q E := by
  cases cal with
  | sun => exact k_Sun_year_at (E := E) h ok sx (by omega) hT fun y H' s a b d => q y H' s a b (sm_mono d (by omega))
  | moon => exact k_Moon_year_at (E := E) h ok sx hn hT q

/-! ### Calendar.date_of -/
def sp_Calendar_date_of (K : PySem.W.Frag) (T : Txt K mg base) : Sp := fun vs H Q _ => ∃ (c : Addr) (cal : Cal) (x : Int) (n : Nat), vs = [.ref c, .int x] ∧ CalAt K T.C_Sun T.C_Moon T.C_Measure H c cal ∧ cal.Ok ∧ Sm n (x - cal.st) ∧ n ≤ 3000 ∧ NdefX.TabsN (NT T.ct_counter) H ∧
  ∀ (p : Addr) (H' : Hp) (y m d : Int), New H p → SameT (NT T.ct_counter) H H' → H' p = some (.tup [.int y, .int m, .int d]) → DateIs cal x y m d → Sm (n + 1000) y → Q (.ref p) H'
theorem ok_Calendar_date_of (T : Txt K mg base) : FnOk P w K mg base CX0 6 T.a_Calendar_date_of T.fd_Calendar_date_of ["self", "day"] (sp_Calendar_date_of K T) := by
  refine T.F_Calendar_date_of.ok sc_Calendar_date_of (fun vs H Q E h => ?_) (fun cdv A outer s H vs Q E hr h => ?_)
  · obtain ⟨_, _, _, _, rfl, _⟩ := h; rfl
  · obtain ⟨c, cal, x, n, rfl, hc, ok, sx, hn, hT, q⟩ := h
    have hu := hr.units
    refine ⟨_, (pss_cons (ps_set (i := 2) sc_Calendar_date_of.nd rfl (Or.inl rfl) (pe_alt2 (pe_meth (pv 0) T.cl_Sun T.me_Sun_year_at (ok_Sun_year_at T) (hr.mono (by decide)) T.b_Sun_year_at .nil pass0 (pa_cons (pv 1) pa_nil)) (pe_meth (pv 0) T.cl_Moon T.me_Moon_year_at (ok_Moon_year_at T) (hr.mono (by decide)) T.b_Moon_year_at .nil pass0 (pa_cons (pv 1) pa_nil))))
        (pss_cons (ps_set (i := 3) sc_Calendar_date_of.nd rfl (Or.inl rfl) (pe_op op_sub (pv 1) (pe_alt2 (pe_meth (pv 0) T.cl_Sun T.me_Sun_year_start (ok_Sun_year_start T) (hr.mono (by decide)) T.b_Sun_year_start .nil pass0 (pa_cons (pv 2) pa_nil)) (pe_meth (pv 0) T.cl_Moon T.me_Moon_year_start (ok_Moon_year_start T) (hr.mono (by decide)) T.b_Moon_year_start .nil pass0 (pa_cons (pv 2) pa_nil)))))
        (pss_cons (ps_set (i := 4) sc_Calendar_date_of.nd rfl (Or.inl rfl) pe_int)
        (pss_cons (ps_for PassesOwn.never rfl (pi_list (pe_alt2 (pe_meth (pv 0) T.cl_Sun T.me_Sun_lengths (ok_Sun_lengths T) (hr.mono (by decide)) T.b_Sun_lengths .nil pass0 (pa_cons (pv 2) pa_nil)) (pe_meth (pv 0) T.cl_Moon T.me_Moon_lengths (ok_Moon_lengths T) (hr.mono (by decide)) T.b_Moon_lengths .nil pass0 (pa_cons (pv 2) pa_nil)))) (pg_name (i := 5) sc_Calendar_date_of.nd rfl (Or.inl rfl)) (pss_cons (ps_if (pt_cmpR op_lt (pv 3) (pv 5) (nomark _)) (pss_one ps_break) pss_nil)
        (pss_cons (ps_set (i := 3) sc_Calendar_date_of.nd rfl (Or.inl rfl) (pe_op op_sub (pv 3) (pv 5)))
        (pss_one (ps_set (i := 4) sc_Calendar_date_of.nd rfl (Or.inl rfl) (pe_op op_addA (pv 4) pe_int))))))
        (pss_one (ps_ret (pe_tup (pa_cons (pv 2) (pa_cons (pv 4) (pa_cons (pe_op op_addA (pv 3) pe_int) pa_nil)))))))))), ?_⟩
    walk_at "go"
    refine k_altX hc noF_year_at ?_
    walk_at "go"
    refine k_Cal_year_at hc ok sx hn hT fun y H1 s1 y1 y2 sy => ?_
    have hc1 := hc.mono s1
    have hT1 := s1.tab hT
    walk_at "go"
    refine k_altX hc1 noF_year_start ?_
    walk_at "go"
    refine k_Cal_year_start hc1 ok sy (by omega) hT1 fun H2 s2 => ?_
    have hc2 := hc1.mono s2
    have hT2 := s2.tab hT1
    walk_at "go"
    with_reducible apply k_seqF
    with_reducible apply k_for
    walk_at "go"
    refine k_altX hc2 noF_lengths ?_
    walk_at "go"
    refine k_Cal_lengths hc2 ok sy (by omega) hT2 fun p H3 hn3 s3 t3 => ?_
    have nn := nn_of (cal.bd ok y)
    have hs := cal.sum ok y
    have hlen := cal.len ok y
    generalize hL : cal.lens y = L at *
    have hl : SqL K H3 p (L.map V.int) := SqL.of t3
    walk_at "go"
    have s13 := (s1.trans s2).trans s3
    have fin : ∀ (i : Nat) (v : Option V) (p5 : Addr) (H5 : Hp), i < L.length → 0 ≤ x - cal.start y - (L.take i).sum → x - cal.start y - (L.take i).sum < L.getD i 0 → H3 p5 = none → Same H3 H5 → H5 p5 = some (.tup [.int y, .int (1 + (i : Int)), .int (x - cal.start y - (L.take i).sum + 1)]) → Q (.ref p5) H5 := fun i v p5 H5 hi h0 h1 h5 s5 t5 => by
      refine q p5 H5 _ _ _ ((New.of h5).back s13) (s13.trans (.of s5)) t5 ⟨by omega, by rw [hL]; omega, by omega, ?_, ?_⟩ sy
      · rw [hL, show (1 + (i : Int) - 1).toNat = i by omega]; omega
      · unfold dayOf
        rw [hL, show (1 + (i : Int) - 1).toNat = i by omega]; omega
    refine for_list (xs := L.map V.int) (fun i σ' H' => ∃ v : Option V, σ' = [some (.ref c), some (.int x), some (.int y), some (.int (x - cal.start y - (L.take i).sum)), some (.int (1 + (i : Int))), v] ∧ H3 = H' ∧ 0 ≤ x - cal.start y - (L.take i).sum) ⟨none, by rw [List.take_zero]; simp; rfl, rfl, by rw [List.take_zero]; simp; omega⟩
      (fun i σ' H' _ hW => by obtain ⟨_, _, rfl, _⟩ := hW; exact hl) (fun i z σ' H' hy hW => ?_) (fun σ' H' hW => ?_)
    · obtain ⟨_, rfl, rfl, h0⟩ := hW
      rw [List.getElem?_map] at hy
      obtain ⟨z, hz, rfl⟩ := Option.map_eq_some_iff.mp hy
      have hi := (List.getElem?_eq_some_iff.mp hz).1
      have ez : z = L.getD i 0 := by rw [List.getD_eq_getElem?_getD, hz]; rfl
      have hp := pre_succ hi
      subst ez
      have hfin := fin i
      generalize hg : L.getD i 0 = g at *
      generalize hS : (L.take i).sum = S at *
      walk_at "go"
      with_reducible apply k_seqI
      walk_at "go"
      refine if_dec (fun hb => ?_) (fun hb => ?_)
      · walk_at "go"
        rename_i p5 H5 hn5 s5 t5
        exact hfin none p5 H5 hi h0 hb hn5 s5 t5
      · walk_at "go"
        exact ⟨_, by rw [hp, show ((i + 1 : Nat) : Int) = (i : Int) + 1 by omega, ← Int.add_assoc, show x - cal.start y - (S + g) = x - cal.start y - S - g by omega]; rfl, rfl, by rw [hp]; omega⟩
    · obtain ⟨_, rfl, rfl, h0⟩ := hW
      rw [List.length_map, List.take_of_length_le (Nat.le_refl _)] at h0
      omega
theorem k_Calendar_date_of {T : Txt K mg base} {H : Hp} {Q : VK} {E : XK} {c : Addr} {cal : Cal} {x : Int} {n : Nat} (h : CalAt K T.C_Sun T.C_Moon T.C_Measure H c cal) (ok : cal.Ok) (sx : Sm n (x - cal.st)) (hn : n ≤ 3000) (hT : NdefX.TabsN (NT T.ct_counter) H)
    (q : ∀ (p : Addr) (H' : Hp) (y m d : Int), New H p → SameT (NT T.ct_counter) H H' → H' p = some (.tup [.int y, .int m, .int d]) → DateIs cal x y m d → Sm (n + 1000) y → Q (.ref p) H') : sp_Calendar_date_of K T [.ref c, .int x] H Q E := ⟨c, cal, x, n, rfl, h, ok, sx, hn, hT, q⟩

/-! ### _law_due -/
theorem DatedP_is {cal : Cal} (ok : cal.Ok) {mo da : Option Int} {st re x y m d : Int} (h : DateIs cal x y m d) : DatedP cal mo da st re x ↔ ((y - re) % st = 0 ∧ (mo = none ∨ mo = some m) ∧ (da = none ∨ ∃ v, da = some v ∧ (v = d ∨ (v < 0 ∧ v = d - (cal.lens y).getD (m - 1).toNat 0 - 1)))) := by
  constructor
  · rintro ⟨y', m', d', h', e1, e2, e3⟩
    obtain ⟨rfl, rfl, rfl⟩ := h.uniq ok h'
    exact ⟨e1, e2, e3⟩
  · rintro ⟨e1, e2, e3⟩
    exact ⟨y, m, d, h, e1, e2, e3⟩
def sp_Ldue (K : PySem.W.Frag) (T : Txt K mg base) : Sp := fun vs H Q _ => ∃ (c p : Addr) (cal : Cal) (mo da : Option Int) (st re x : Int), vs = [.ref c, .ref p, .int x] ∧ CalAt K T.C_Sun T.C_Moon T.C_Measure H c cal ∧ SqT K H p [optV mo, optV da, .int st, .int re] ∧ (Rl.dated "x" cal mo da st re).Ok ∧ Sm 400 x ∧ NdefX.TabsN (NT T.ct_counter) H ∧
  ∀ (H' : Hp), SameT (NT T.ct_counter) H H' → Q (.bl ((Rl.dated "x" cal mo da st re).f x)) H'
theorem ok_Ldue (T : Txt K mg base) : FnOk P w K mg base CX0 7 T.a_Ldue T.fd_Ldue ["_law_calendar", "_law_wanted_here", "_law_day"] (sp_Ldue K T) := by
  refine T.F_Ldue.ok sc_Ldue (fun vs H Q E h => ?_) (fun cdv A outer s H vs Q E hr h => ?_)
  · obtain ⟨_, _, _, _, _, _, _, _, rfl, _⟩ := h; rfl
  · obtain ⟨c, p, cal, mo, da, st, re, x, rfl, hc, hp, ok, sx, hT, q⟩ := h
    have hu := hr.units
    obtain ⟨okc, sst, o1, o2, o3, omo, oda, _⟩ := id ok
    have sxs : Sm 401 (x - cal.st) := sm_subX sx sst
    refine ⟨_, (pss_cons (ps_asg (pv 1) (pg_tup rfl (pgs_cons (pg_name (i := 3) sc_Ldue.nd rfl (Or.inl rfl)) (pgs_cons (pg_name (i := 4) sc_Ldue.nd rfl (Or.inl rfl)) (pgs_cons (pg_name (i := 5) sc_Ldue.nd rfl (Or.inl rfl)) (pgs_cons (pg_name (i := 6) sc_Ldue.nd rfl (Or.inl rfl)) pgs_nil))))))
        (pss_cons (ps_set (i := 7) sc_Ldue.nd rfl (Or.inl rfl) (pe_alt2 (pe_meth (pv 0) T.cl_Sun T.me_Sun_date_of (ok_Calendar_date_of T) (hr.mono (by decide)) T.b_Calendar_date_of .nil pass0 (pa_cons (pv 2) pa_nil)) (pe_meth (pv 0) T.cl_Moon T.me_Moon_date_of (ok_Calendar_date_of T) (hr.mono (by decide)) T.b_Calendar_date_of .nil pass0 (pa_cons (pv 2) pa_nil))))
        (pss_cons (ps_set (i := 8) sc_Ldue.nd rfl (Or.inl rfl) (pe_ix (kb_ix K) (pe_alt2 (pe_meth (pv 0) T.cl_Sun T.me_Sun_lengths (ok_Sun_lengths T) (hr.mono (by decide)) T.b_Sun_lengths .nil pass0 (pa_cons (pe_ix (kb_ix K) (pv 7) pe_int (fun _ _ => rfl)) pa_nil)) (pe_meth (pv 0) T.cl_Moon T.me_Moon_lengths (ok_Moon_lengths T) (hr.mono (by decide)) T.b_Moon_lengths .nil pass0 (pa_cons (pe_ix (kb_ix K) (pv 7) pe_int (fun _ _ => rfl)) pa_nil))) (pe_op op_sub (pe_ix (kb_ix K) (pv 7) pe_int (fun _ _ => rfl)) pe_int) (fun _ _ => rfl)))
        (pss_cons (ps_if (PW.pt (pw_or (PW.pt (pw_and (pt_cmpR kb_notN (pv 3) pe_non (nomark _)) (pw_and1 (pt_cmpR (kb_ne K (hu := hu)) (pe_ix (kb_ix K) (pv 7) pe_int (fun _ _ => rfl)) (pv 3) (nomark _))))) (pw_or1 (pt_cmpR (kb_ne K (hu := hu)) (pe_op op_mod (pe_op op_sub (pe_ix (kb_ix K) (pv 7) pe_int (fun _ _ => rfl)) (pv 6)) (pv 5)) pe_int (nomark _))))) (pss_one (ps_ret pe_bl)) pss_nil)
        (pss_one (ps_ret (pe_or (pe_cmpR kb_isN (pv 4) pe_non (nomark _)) (pe_or (pe_cmpR (kb_eq K (hu := hu)) (pe_ix (kb_ix K) (pv 7) pe_int (fun _ _ => rfl)) (pv 4) (nomark _)) (pe_one (pe_cmpR (kb_eq K (hu := hu)) (pe_op op_sub (pe_op op_sub (pe_ix (kb_ix K) (pv 7) pe_int (fun _ _ => rfl)) (pv 8)) pe_int) (pv 4) (nomark _))))))))))), ?_⟩
    walk_at "go"
    refine k_altX1 hc noF_date_of ?_
    walk_at "go"
    refine k_Calendar_date_of hc okc sxs (by omega) hT fun pd H1 y m d hn1 s1 t1 hdt sy => ?_
    have hc1 := hc.mono s1
    have hT1 := s1.tab hT
    have tt1 : SqT K H1 pd [.int y, .int m, .int d] := SqT.of t1
    have hp1 := s1.sqt hp
    have hq : ∀ (b : Bool) (H' : Hp), SameT (NT T.ct_counter) H1 H' → (b = true ↔ ((y - re) % st = 0 ∧ (mo = none ∨ mo = some m) ∧ (da = none ∨ ∃ v, da = some v ∧ (v = d ∨ (v < 0 ∧ v = d - (cal.lens y).getD (m - 1).toNat 0 - 1))))) → Q (.bl b) H' := fun b H' s' e => by
      have := q H' (s1.trans s')
      rw [show (Rl.dated "x" cal mo da st re).f x = b from (decC_eq (e.trans (DatedP_is okc hdt).symm)).symm] at this
      exact this
    clear q
    have hm1 := hdt.m1
    have hm2 := hdt.m2
    have hd1 := hdt.d1
    have hd2 := hdt.d2
    walk_at "go"
    refine k_altX hc1 noF_lengths ?_
    walk_at "go"
    refine k_Cal_lengths hc1 okc sy (by omega) hT1 fun pl H2 hn2 s2 t2 => ?_
    have tt2 := s2.sqt tt1
    have hp2' := s2.sqt hp1
    walk_at "go"
    refine k_ixL (i := m - 1) (v := .int ((cal.lens y).getD (m - 1).toNat 0)) (SqL.of t2) (atI_getD (by omega) (by omega)) ?_
    have hq : ∀ (b : Bool) (H' : Hp), SameT (NT T.ct_counter) H2 H' → (b = true ↔ ((y - re) % st = 0 ∧ (mo = none ∨ mo = some m) ∧ (da = none ∨ ∃ v, da = some v ∧ (v = d ∨ (v < 0 ∧ v = d - (cal.lens y).getD (m - 1).toNat 0 - 1))))) → Q (.bl b) H' := fun b H' s' e => hq b H' (s2.trans s') e
    generalize (cal.lens y).getD (m - 1).toNat 0 = L at *
    walk_at "go"
    with_reducible apply k_seqI
    refine or_split (¬ ((mo = none ∨ mo = some m) ∧ (y - re) % st = 0)) (fun hb => ?_) (fun hb => ?_) fun R' q1 q2 => ?_
    · walk_at "go"
      exact hq false _ (.refl _ _) ⟨fun z => (by cases z), fun z => absurd ⟨z.2.1, z.1⟩ hb⟩
    · obtain ⟨hmo, hy⟩ := Classical.not_not.mp hb
      rcases da with _ | v
      · have hp2 : SqT K H2 p [optV mo, .non, .int st, .int re] := hp2'
        walk_at "go"
        refine k_isNo (o := none) (fun _ => ?_) (fun z => absurd rfl z)
        walk_at "go"
        exact hq true _ (.refl _ _) ⟨fun _ => ⟨hy, hmo, .inl rfl⟩, fun _ => rfl⟩
      · have hp2 : SqT K H2 p [optV mo, .int v, .int st, .int re] := hp2'
        walk_at "go"
        refine k_isNo (o := some v) (fun z => by cases z) (fun _ => ?_)
        walk_at "go"
        show rEqA K (V.int d) (V.int v) _ _
        walk_at "go"
        by_cases h : d = v
        · rw [decide_eq_true h]
          walk_at "go"
          exact hq true _ (.refl _ _) ⟨fun _ => ⟨hy, hmo, .inr ⟨v, rfl, .inl h.symm⟩⟩, fun _ => rfl⟩
        · rw [decide_eq_false h]
          walk_at "go"
          show rEqA K (V.int (d - L - 1)) (V.int v) _ _
          walk_at "go"
          refine hq _ _ (.refl _ _) ?_
          rw [decide_eq_true_iff]
          constructor
          · intro e
            exact ⟨hy, hmo, .inr ⟨v, rfl, .inr ⟨by omega, e.symm⟩⟩⟩
          · rintro ⟨_, _, h3⟩
            rcases h3 with h3 | ⟨v', h3, h4⟩
            · cases h3
            · cases h3
              rcases h4 with h4 | h4
              · exact absurd h4.symm h
              · exact h4.2.symm
    · have tail : ∀ {R : Bool → Hp → Prop}, ((y - re) % st = 0 → R false H2) → (¬ (y - re) % st = 0 → R true H2) → R (!decide ((y - re) % st = 0)) H2 := fun {R} a b => by
        by_cases h : (y - re) % st = 0
        · rw [decide_eq_true h]; exact a h
        · rw [decide_eq_false h]; exact b h
      walk_at "go"
      refine k_notNo (fun z => ?_) (fun z => ?_)
      · walk_at "go"
        exact tail (fun h => q2 (fun hh => hh ⟨.inl z, h⟩)) (fun h => q1 (fun hh => h hh.2))
      · obtain ⟨v, rfl⟩ : ∃ v, mo = some v := by
          cases hmo : mo with
          | none => exact absurd hmo z
          | some v => exact ⟨v, rfl⟩
        have hp2 : SqT K H2 p [.int v, optV da, .int st, .int re] := hp2'
        walk_at "go"
        show rNeA K (V.int m) (V.int v) _ _
        walk_at "go"
        by_cases h : m = v
        · subst h
          rw [decide_eq_true (rfl : m = m)]
          walk_at "go"
          exact tail (fun h => q2 (fun hh => hh ⟨.inr rfl, h⟩)) (fun h => q1 (fun hh => h hh.2))
        · rw [decide_eq_false h]
          exact q1 (fun hh => by
            rcases hh.1 with h2 | h2
            · cases h2
            · cases h2; exact h rfl)
theorem k_Ldue {T : Txt K mg base} {H : Hp} {Q : VK} {E : XK} {c p : Addr} {cal : Cal} {mo da : Option Int} {st re x : Int} (hc : CalAt K T.C_Sun T.C_Moon T.C_Measure H c cal) (hp : SqT K H p [optV mo, optV da, .int st, .int re]) (ok : (Rl.dated "x" cal mo da st re).Ok) (sx : Sm 400 x) (hT : NdefX.TabsN (NT T.ct_counter) H)
  (q : ∀ (H' : Hp), SameT (NT T.ct_counter) H H' → Q (.bl ((Rl.dated "x" cal mo da st re).f x)) H') : sp_Ldue K T [.ref c, .ref p, .int x] H Q E := ⟨c, p, cal, mo, da, st, re, x, rfl, hc, hp, ok, sx, hT, q⟩

/-! ### law -/
def sp_law (K : PySem.W.Frag) (ct : Addr) : Sp := fun vs H Q _ => ∃ (a : Addr) (ns : List Int), vs = [.ref a] ∧ SqL K H a (ns.map V.int) ∧ ns.length ≤ 63 ∧ (∀ z ∈ ns, Builtin.Int.intBits z ≤ 1048576) ∧ NdefX.TabsN (NT ct) H ∧ ∀ H', Q (.bl true) H'
set_option pp.maxSteps 400 in
theorem f_st1 {nm : Str} {cal : Cal} {mo da : Option Int} {re re' : Int} (d : Int) : (Rl.dated nm cal mo da 1 re').f d = (Rl.dated nm cal mo da 1 re).f d := by
  have : DatedP cal mo da 1 re' d = DatedP cal mo da 1 re d := by unfold DatedP; simp only [Int.emod_one]
  show decC (DatedP cal mo da 1 re' d) = decC (DatedP cal mo da 1 re d)
  rw [this]
theorem ok_law (T : Txt K mg base) : FnOk P w K mg base CX0 9 T.a_law T.fd_law ["_law_script"] (sp_law K T.ct_counter) := by
  refine T.F_law.ok sc_law (fun vs H Q E h => ?_) (fun cdv A outer s H vs Q E hr h => ?_)
  · obtain ⟨_, _, rfl, _⟩ := h; rfl
  · obtain ⟨a, ns, rfl, hS, hl, hb, hT, q⟩ := h
    have hu := hr.units
    refine ⟨_, (pss_cons (ps_set (i := 1) sc_law.nd rfl (Or.inl rfl) (pe_call (ok_Lsun T) (hr.mono (by decide)) (by rfl) T.g_Lsun T.F_Lsun.kp T.b_Lsun .nil pass0 (pa_cons (pv 0) pa_nil)))
        (pss_cons (ps_if (pt_cmpR (kb_eq K (hu := hu)) (pe_op op_mod (pe_call (ok_Lcell_at T) (hr.mono (by decide)) (by rfl) T.g_Lcell_at T.F_Lcell_at.kp T.b_Lcell_at .nil pass0 (pa_cons (pv 0) (pa_cons pe_int pa_nil))) pe_int) pe_int (nomark _)) (pss_one (ps_set (i := 1) sc_law.nd rfl (Or.inl rfl) (pe_call (ok_Lmoon T) (hr.mono (by decide)) (by rfl) T.g_Lmoon T.F_Lmoon.kp T.b_Lmoon .nil pass0 (pa_cons (pv 0) pa_nil)))) pss_nil)
        (pss_cons (ps_set (i := 2) sc_law.nd rfl (Or.inl rfl) (pe_call (ok_Lwanted T) (hr.mono (by decide)) (by rfl) T.g_Lwanted T.F_Lwanted.kp T.b_Lwanted .nil pass0 (pa_cons (pv 0) pa_nil)))
        (pss_cons (ps_if (PW.pt (pw_and (pt_cmpR (kb_eq K (hu := hu)) (pe_op op_mod (pe_op op_fdivW (pe_call (ok_Lcell_at T) (hr.mono (by decide)) (by rfl) T.g_Lcell_at T.F_Lcell_at.kp T.b_Lcell_at .nil pass0 (pa_cons (pv 0) (pa_cons pe_int pa_nil))) pe_int) pe_int) pe_int (nomark _)) (pw_and1 (pt_val (pe_call (ok_Lis_short T) (hr.mono (by decide)) (by rfl) T.g_Lis_short T.F_Lis_short.kp T.b_Lis_short .nil pass0 (pa_cons (pe_call (ok_Lany T) (hr.mono (by decide)) (by rfl) T.g_Lany T.F_Lany.kp T.b_Lany .nil pass0 (pa_cons (pv 0) pa_nil)) pa_nil)))))) (pss_cons (ps_set (i := 1) sc_law.nd rfl (Or.inl rfl) (pe_call (ok_Lany T) (hr.mono (by decide)) (by rfl) T.g_Lany T.F_Lany.kp T.b_Lany .nil pass0 (pa_cons (pv 0) pa_nil)))
        (pss_one (ps_set (i := 2) sc_law.nd rfl (Or.inl rfl) (pe_call (ok_Lstep T) (hr.mono (by decide)) (by rfl) T.g_Lstep T.F_Lstep.kp T.b_Lstep .nil pass0 (pa_cons (pv 1) (pa_cons (pv 2) (pa_cons (pe_call (ok_Lcell_at T) (hr.mono (by decide)) (by rfl) T.g_Lcell_at T.F_Lcell_at.kp T.b_Lcell_at .nil pass0 (pa_cons (pv 0) (pa_cons pe_int pa_nil))) pa_nil))))))) pss_nil)
        (pss_cons (ps_set (i := 3) sc_law.nd rfl (Or.inl rfl) (pe_call (ok_Lmade T) (hr.mono (by decide)) (by rfl) T.g_Lmade T.F_Lmade.kp T.b_Lmade .nil pass0 (pa_cons (pv 1) (pa_cons (pv 2) (pa_cons (pe_call (ok_Lcell_at T) (hr.mono (by decide)) (by rfl) T.g_Lcell_at T.F_Lcell_at.kp T.b_Lcell_at .nil pass0 (pa_cons (pv 0) (pa_cons pe_int pa_nil))) pa_nil)))))
        (pss_cons (ps_if (PW.pt (pw_or (pt_not (pt_val (pe_callB (kb_isi K) (by rfl) T.n_isinstance (by decide +kernel) (pa_cons (pv 3) (pa_cons (pe_bltn (v := .ty "tuple") (by rfl) T.n_tuple (by decide +kernel) rfl) pa_nil))))) (pw_or1 (pt_cmpR (kb_ne K (hu := hu)) (pe_callB (kb_len K) (by rfl) T.n_len (by decide +kernel) (pa_cons (pv 3) pa_nil)) pe_int (nomark _))))) (pss_one (ps_ret pe_bl)) pss_nil)
        (pss_cons (ps_if (PW.pt (pw_or (pt_not (pt_val (pe_call (ok_Lwhole T) (hr.mono (by decide)) (by rfl) T.g_Lwhole T.F_Lwhole.kp T.b_Lwhole .nil pass0 (pa_cons (pe_ix (kb_ix K) (pv 3) pe_int (fun _ _ => rfl)) pa_nil)))) (pw_or1 (pt_not (pt_val (pe_call (ok_Lwhole T) (hr.mono (by decide)) (by rfl) T.g_Lwhole T.F_Lwhole.kp T.b_Lwhole .nil pass0 (pa_cons (pe_ix (kb_ix K) (pv 3) pe_int (fun _ _ => rfl)) pa_nil))))))) (pss_one (ps_ret pe_bl)) pss_nil)
        (pss_cons (ps_if (PW.pt (pw_or (pt_cmpR (kb_ne K (hu := hu)) (pe_ix (kb_ix K) (pv 3) pe_int (fun _ _ => rfl)) (pe_call (ok_Lsize T) (hr.mono (by decide)) (by rfl) T.g_Lsize T.F_Lsize.kp T.b_Lsize .nil pass0 (pa_cons (pv 1) (pa_cons (pe_ix (kb_ix K) (pv 2) pe_int (fun _ _ => rfl)) pa_nil))) (nomark _)) (pw_or (pt_cmpR op_lt (pe_ix (kb_ix K) (pv 3) pe_int (fun _ _ => rfl)) pe_int (nomark _)) (pw_or1 (pt_cmpR (kb_ne K (hu := hu)) (pe_op op_shr (pe_ix (kb_ix K) (pv 3) pe_int (fun _ _ => rfl)) (pe_ix (kb_ix K) (pv 3) pe_int (fun _ _ => rfl))) pe_int (nomark _)))))) (pss_one (ps_ret pe_bl)) pss_nil)
        (pss_cons (ps_set (i := 4) sc_law.nd rfl (Or.inl rfl) (pe_call (ok_Lnumber T) (hr.mono (by decide)) (by rfl) T.g_Lnumber T.F_Lnumber.kp T.b_Lnumber .nil pass0 (pa_cons (pe_call (ok_Lcell_at T) (hr.mono (by decide)) (by rfl) T.g_Lcell_at T.F_Lcell_at.kp T.b_Lcell_at .nil pass0 (pa_cons (pv 0) (pa_cons pe_int pa_nil))) pa_nil)))
        (pss_cons (ps_for PassesOwn.never rfl (pi_list (pe_lst (pa_cons (pv 4) (pa_cons (pe_call (ok_Laimed T) (hr.mono (by decide)) (by rfl) T.g_Laimed T.F_Laimed.kp T.b_Laimed .nil pass0 (pa_cons (pv 1) (pa_cons (pv 2) (pa_cons (pv 4) pa_nil)))) (pa_cons (pe_op op_addA (pe_call (ok_Laimed T) (hr.mono (by decide)) (by rfl) T.g_Laimed T.F_Laimed.kp T.b_Laimed .nil pass0 (pa_cons (pv 1) (pa_cons (pv 2) (pa_cons (pv 4) pa_nil)))) pe_int) pa_nil))))) (pg_name (i := 5) sc_law.nd rfl (Or.inl rfl)) (pss_one (ps_if (pt_cmpR (kb_ne K (hu := hu)) (pe_cmpR (kb_eq K (hu := hu)) (pe_op op_and (pe_op op_shr (pe_ix (kb_ix K) (pv 3) pe_int (fun _ _ => rfl)) (pe_op op_mod (pv 5) (pe_ix (kb_ix K) (pv 3) pe_int (fun _ _ => rfl)))) pe_int) pe_int (nomark _)) (pe_call (ok_Ldue T) (hr.mono (by decide)) (by rfl) T.g_Ldue T.F_Ldue.kp T.b_Ldue .nil pass0 (pa_cons (pv 1) (pa_cons (pv 2) (pa_cons (pv 5) pa_nil)))) (nomark _)) (pss_one (ps_ret pe_bl)) pss_nil)))
        (pss_one (ps_ret pe_bl)))))))))))), ?_⟩
    walk_at "go"
    refine k_Lsun hS hb hT fun x1 H1 cal1 s1 hc1 ok1 d1 a1 b1 => ?_
    have hS1 := s1.sql hS
    have hT1 := s1.tab hT
    walk_at "go"
    with_reducible refine k_cutI (fun σ' H' => ∃ (x : Addr) (cal : Cal), σ' = [some (.ref a), some (.ref x), none, none, none, none] ∧ SameT (NT T.ct_counter) H1 H' ∧ CalAt K T.C_Sun T.C_Moon T.C_Measure H' x cal ∧ cal.Ok ∧ cal.dys ≤ 4000 ∧ -10000000000000000000000000000000000000000 ≤ cal.st ∧ cal.st ≤ 10000000000000000000000000000000000000000) (fun N hN => ?_) ?_
    · walk_at "go"
      refine if_dec (fun w1 => ?_) (fun w1 => ?_)
      · walk_at "go"
        refine k_Lmoon hS1 hb hT1 fun x2 H2 cal2 s2 hc2 ok2 d2 a2 b2 => ?_
        walk_at "go"
        exact hN _ _ ⟨x2, cal2, rfl, s2, hc2, ok2, d2, a2, b2⟩
      · walk_at "go"
        exact hN _ _ ⟨x1, cal1, rfl, .refl _ _, hc1, ok1, d1, a1, b1⟩
    rintro _ H2 ⟨x2, cal2, rfl, s2, hc2, ok2, d2, a2, b2⟩
    have hS2 := s2.sql hS1
    have hT2 := s2.tab hT1
    walk_at "go"
    refine k_Lwanted hS2 hb fun w3 H3 mo da st re s3 t3 hmo hda st1 st4 r0 r1 => ?_
    have hS3 := same_l s3 hS2
    have hT3 := hT2.ext s3
    have hc3 := hc2.mono (T := NT T.ct_counter) (.of s3)
    have tw3 : SqT K H3 w3 [optV mo, optV da, .int st, .int re] := SqT.of t3
    walk_at "go"
    with_reducible refine k_cutI (fun σ' H' => ∃ (x w : Addr) (cal : Cal) (st : Int), σ' = [some (.ref a), some (.ref x), some (.ref w), none, none, none] ∧ SameT (NT T.ct_counter) H3 H' ∧ CalAt K T.C_Sun T.C_Moon T.C_Measure H' x cal ∧ cal.Ok ∧ -10000000000000000000000000000000000000000 ≤ cal.st ∧ cal.st ≤ 10000000000000000000000000000000000000000 ∧ SqT K H' w [optV mo, optV da, .int st, .int re] ∧ 1 ≤ st ∧ st ≤ 800 ∧ cal.dys * (lcmI cal.yrs st / cal.yrs) ≤ 150000) (fun N hN => ?_) ?_
    · refine and_anyS (∀ s, (anyF (ns.getD 9 0) (ns.getD 10 0) s).yrs ≤ 800 ∧ (anyF (ns.getD 9 0) (ns.getD 10 0) s).dys ≤ 4400) (fun H' => SameT (NT T.ct_counter) H3 H') (fun H4 s4 hsh => ?_) (fun H4 s4 => ?_) fun R' h1 h2 => ?_
      · have hS4 := s4.sql hS3
        have hT4 := s4.tab hT3
        walk_at "go"
        refine k_Lany hS4 hb hT4 fun x5 H5 s s5 hc5 e0 e1 => ?_
        have ok5 := anyF_ok (ns.getD 9 0) (ns.getD 10 0) s
        have es := anyF_st (ns.getD 9 0) (ns.getD 10 0) s
        obtain ⟨sh1, sh2⟩ := hsh s
        generalize anyF (ns.getD 9 0) (ns.getD 10 0) s = cal5 at *
        have hS5 := s5.sql hS4
        have hT5 := s5.tab hT4
        walk_at "go"
        refine k_Lstep hc5 ok5 ((s4.trans s5).sqt tw3) hT5 fun w6 H6 st6 s6 t6 g0 g1 g2 => ?_
        walk_at "go"
        refine hN _ _ ⟨x5, w6, cal5, st6, rfl, (s4.trans s5).trans s6, hc5.mono s6, ok5, by omega, by omega, t6, g0, g1, ?_⟩
        rcases g2 with rfl | g2
        · have h1 := shared_le ok5 (st := 1) (by decide)
          have dp := cal5.dys_pos ok5
          have := Int.mul_le_mul_of_nonneg_left h1 (show 0 ≤ cal5.dys by omega)
          rw [Int.mul_one] at this
          omega
        · omega
      · walk_at "go"
        exact hN _ _ ⟨x2, w3, cal2, st, rfl, s4, hc3.mono s4, ok2, a2, b2, s4.sqt tw3, st1, by omega, dated_fits (A := 4000) (B := 4) ok2 st1 d2 st4 (by decide)⟩
      · walk_at "go"
        refine if_dec (fun w1 => ?_) (fun w1 => ?_)
        · walk_at "go"
          refine k_Lany hS3 hb hT3 fun x5 H5 s s5 hc5 e0 e1 => ?_
          walk_at "go"
          refine k_Lis_short hc5 (anyF_ok _ _ _) (s5.tab hT3) fun H6 b s6 hb2 => ?_
          walk_at "go"
          cases b with
          | true =>
            refine h1 _ (s5.trans s6) (fun s' => ?_)
            have := hb2 rfl
            rw [anyF_yrs _ _ s' s, anyF_dys _ _ s' s]
            exact this
          | false => exact h2 _ (s5.trans s6)
        · walk_at "go"
          exact h2 _ (.refl _ _)
    clear hc3 hc2 hc1 ok1 ok2 d1 d2 a1 a2 b1 b2 tw3 t3 st1 st4
    rintro _ H4 ⟨x, w, cal, st', rfl, s4, hc, ok, a2, b2, hw, st1, st8, hfit⟩
    have hS4 := s4.sql hS3
    have hT4 := s4.tab hT3
    have okD : (Rl.dated "x" cal mo da st' re).Ok := ⟨ok, sm_mono (sm41 (by omega) (by omega)) (by decide), st1, sm_mono (sm41 (by omega) (by omega)) (by decide), sm_mono (sm41 (by omega) (by omega)) (by decide), hmo, hda, hfit⟩
    walk_at "go"
    rename_i c7 _ sc7
    refine k_Lmade hc hw sc7 okD hT4 fun p H5 re' s5 hre hm => ?_
    have hf : ∀ d, hold (Rl.dated "x" cal mo da st' re).n (Rl.dated "x" cal mo da st' re').b d = (Rl.dated "x" cal mo da st' re).f d := fun d => by
      have := hm.2 d
      rcases hre with rfl | rfl
      · exact this
      · rw [f_st1 (re := re) (re' := re') d] at this
        exact this
    have hn0 : (((Rl.dated "x" cal mo da st' re).n : Nat) : Int) = cal.dys * (lcmI cal.yrs st' / cal.yrs) := by
      have := (shared_le ok st1)
      obtain ⟨r, r1, er, ed, dv⟩ := shared_of ok st1
      have dp := cal.dys_pos ok
      show ((cal.dys * (lcmI cal.yrs st' / cal.yrs)).toNat : Int) = _
      rw [ed]
      have := Int.mul_le_mul_of_nonneg_left (show (0 : Int) ≤ r by omega) (show 0 ≤ cal.dys by omega)
      omega
    have rt : RT K H5 p (Rl.dated "x" cal mo da st' re).n (Rl.dated "x" cal mo da st' re').b := hm.1
    have rn1 := rt.n1
    have rlt := rt.lt
    have ht := rt.t
    generalize (Rl.dated "x" cal mo da st' re').b = B at *
    generalize (Rl.dated "x" cal mo da st' re).n = n at *
    have hS5 := s5.sql hS4
    have hT5 := s5.tab hT4
    have hc5 := hc.mono s5
    have hw5 := s5.sqt hw
    walk_at "run"
    refine k_Lsize hc5 ok st1 (by omega) hT5 fun H6 s6 => ?_
    rw [← hn0]
    have hS6 := s6.sql hS5
    have hT6 := s6.tab hT5
    have hc6 := hc5.mono s6
    have hw6 := s6.sqt hw5
    have ht6 := s6.sqt ht
    walk_at "go"
    rw [decide_eq_true (rfl : (n : Int) = (n : Int))]
    have hsh : ((B / 2 ^ ((n : Nat) : Int).toNat : Nat) : Int) = 0 := by
      rw [Int.toNat_natCast, Nat.div_eq_of_lt rlt]; rfl
    walk_at "run"
    rename_i c8 _ sc8
    refine k_Lnumber fun d H7 s7 d0 d1 => ?_
    have hc7 := hc6.mono (T := NT T.ct_counter) (.of s7)
    have hw7 := same_t s7 hw6
    have hT7 := hT6.ext s7
    have st140 : Sm 140 cal.st := sm140 a2 b2
    have sr140 : Sm 140 re := sm140 r0 r1
    have sd140 : Sm 140 d := sm140 d0 d1
    walk_at "go"
    with_reducible apply k_seqF
    with_reducible apply k_for
    walk_at "go"
    refine k_Laimed hc7 ok hw7 hmo st1 st8 sr140 sd140 st140 hT7 fun z1 H8 s8 sz1 => ?_
    walk_at "go"
    refine k_Laimed (hc7.mono s8) ok (s8.sqt hw7) hmo st1 st8 sr140 sd140 st140 (s8.tab hT7) fun z2 H9 s9 sz2 => ?_
    walk_at "go"
    rename_i p10 H10 hn10 s10 t10
    have s610 : SameT (NT T.ct_counter) H6 H10 := ((SameT.of s7).trans s8).trans (s9.trans (.of s10))
    have hc10 := hc6.mono s610
    have hw10 := s610.sqt hw6
    have ht10 := s610.sqt ht6
    have hT10 := s610.tab hT6
    refine for_list (xs := [.int d, .int z1, .int (z2 + 1)]) (fun i σ' H' => ∃ v5 : Option V, σ' = [some (.ref a), some (.ref x), some (.ref w), some (.ref p), some (.int d), v5] ∧ SameT (NT T.ct_counter) H10 H') ⟨none, rfl, .refl _ _⟩ (fun i σ' H' _ hW => ?_) (fun i y σ' H' hy hW => ?_) (fun σ' H' hW => ?_)
    · obtain ⟨_, _, sB⟩ := hW
      exact SqL.of (sB.lst t10)
    · obtain ⟨_, rfl, sB⟩ := hW
      obtain ⟨o, rfl, so⟩ : ∃ o : Int, y = .int o ∧ Sm 400 o := by
        match i, hy with
        | 0, hy => cases hy; exact ⟨d, rfl, sm_mono sd140 (by decide)⟩
        | 1, hy => cases hy; exact ⟨z1, rfl, sm_mono sz1 (by decide)⟩
        | 2, hy => cases hy; exact ⟨z2 + 1, rfl, sm_mono (sm_addX sz2 (sm_mono (sm41 (i := 1) (by decide) (by decide)) (by decide))) (by decide)⟩
      have hcB := hc10.mono sB
      have hwB := sB.sqt hw10
      have htB := sB.sqt ht10
      have hTB := sB.tab hT10
      walk_at "go"
      with_reducible apply k_if
      walk_at "go"
      refine k_Ldue hcB hwB okD so hTB fun H11 s11 => ?_
      rw [on_valc, show B.testBit (o % (n : Int)).toNat = hold n B o from rfl, hf o]
      walk_at "go"
      cases (Rl.dated "x" cal mo da st' re).f o with
      | true =>
        walk_at "go"
        exact ⟨_, rfl, sB.trans s11⟩
      | false =>
        walk_at "go"
        exact ⟨_, rfl, sB.trans s11⟩
    · obtain ⟨_, rfl, sB⟩ := hW
      walk_at "go"
      exact q _

end
theorem all_mk {l : PySem.W.OpenLaw} {w : World} {K : PySem.W.Frag} {h : Heap} {mg : Str → Option Value} {fa : Addr} (X : K.In h) (G : h.Ns mainGlobals mg) (hfa : mg "law" = some (.ref fa))
    {f_list_of : Addr} {od_list_of an_list_of : Option Addr} {sl_list_of : Array (Option Value)} {oc_list_of kV_list_of dc_list_of pm_list_of cd_list_of ct_list_of : Value}
    {cc_counter tP_counter : Addr}
    {f_counter : Addr} {od_counter an_counter : Option Addr} {sl_counter : Array (Option Value)} {oc_counter kV_counter dc_counter pm_counter ct_counter : Value}
    {f_Measure_upto : Addr} {od_Measure_upto an_Measure_upto : Option Addr} {sl_Measure_upto : Array (Option Value)} {oc_Measure_upto kV_Measure_upto dc_Measure_upto pm_Measure_upto cd_Measure_upto ct_Measure_upto : Value}
    {f_many_fall : Addr} {od_many_fall an_many_fall : Option Addr} {sl_many_fall : Array (Option Value)} {oc_many_fall kV_many_fall dc_many_fall pm_many_fall cd_many_fall ct_many_fall : Value}
    {f_is_term : Addr} {od_is_term an_is_term : Option Addr} {sl_is_term : Array (Option Value)} {oc_is_term kV_is_term dc_is_term pm_is_term cd_is_term ct_is_term : Value}
    {f_is_measure : Addr} {od_is_measure an_is_measure : Option Addr} {sl_is_measure : Array (Option Value)} {oc_is_measure kV_is_measure dc_is_measure pm_is_measure cd_is_measure ct_is_measure : Value}
    {f_sized : Addr} {od_sized an_sized : Option Addr} {sl_sized : Array (Option Value)} {oc_sized kV_sized dc_sized pm_sized cd_sized ct_sized : Value}
    {f_divisor : Addr} {od_divisor an_divisor : Option Addr} {sl_divisor : Array (Option Value)} {oc_divisor kV_divisor dc_divisor pm_divisor cd_divisor ct_divisor : Value}
    {f_common : Addr} {od_common an_common : Option Addr} {sl_common : Array (Option Value)} {oc_common kV_common dc_common pm_common cd_common ct_common : Value}
    {f_Measure_period : Addr} {od_Measure_period an_Measure_period : Option Addr} {sl_Measure_period : Array (Option Value)} {oc_Measure_period kV_Measure_period dc_Measure_period pm_Measure_period cd_Measure_period ct_Measure_period : Value}
    {dT_Measure_init : Addr} {dO_Measure_init : Obj} {dI_Measure_init : List Value} {dN_Measure_init : Nat}
    {f_Measure_init : Addr} {od_Measure_init an_Measure_init : Option Addr} {sl_Measure_init : Array (Option Value)} {oc_Measure_init kV_Measure_init dc_Measure_init pm_Measure_init cd_Measure_init ct_Measure_init : Value}
    {f_are_months : Addr} {od_are_months an_are_months : Option Addr} {sl_are_months : Array (Option Value)} {oc_are_months kV_are_months dc_are_months pm_are_months cd_are_months ct_are_months : Value}
    {dT_Sun_init : Addr} {dO_Sun_init : Obj} {dI_Sun_init : List Value} {dN_Sun_init : Nat}
    {f_Sun_init : Addr} {od_Sun_init an_Sun_init : Option Addr} {sl_Sun_init : Array (Option Value)} {oc_Sun_init kV_Sun_init dc_Sun_init pm_Sun_init cd_Sun_init ct_Sun_init : Value}
    {f_Lnumber : Addr} {od_Lnumber an_Lnumber : Option Addr} {sl_Lnumber : Array (Option Value)} {oc_Lnumber kV_Lnumber dc_Lnumber pm_Lnumber cd_Lnumber ct_Lnumber : Value}
    {f_Lcell_at : Addr} {od_Lcell_at an_Lcell_at : Option Addr} {sl_Lcell_at : Array (Option Value)} {oc_Lcell_at kV_Lcell_at dc_Lcell_at pm_Lcell_at cd_Lcell_at ct_Lcell_at : Value}
    {f_Lterm : Addr} {od_Lterm an_Lterm : Option Addr} {sl_Lterm : Array (Option Value)} {oc_Lterm kV_Lterm dc_Lterm pm_Lterm cd_Lterm ct_Lterm : Value}
    {f_Lsun : Addr} {od_Lsun an_Lsun : Option Addr} {sl_Lsun : Array (Option Value)} {oc_Lsun kV_Lsun dc_Lsun pm_Lsun cd_Lsun ct_Lsun : Value}
    {f_Lwanted : Addr} {od_Lwanted an_Lwanted : Option Addr} {sl_Lwanted : Array (Option Value)} {oc_Lwanted kV_Lwanted dc_Lwanted pm_Lwanted cd_Lwanted ct_Lwanted : Value}
    {f_Sun_cycle : Addr} {od_Sun_cycle an_Sun_cycle : Option Addr} {sl_Sun_cycle : Array (Option Value)} {oc_Sun_cycle kV_Sun_cycle dc_Sun_cycle pm_Sun_cycle cd_Sun_cycle ct_Sun_cycle : Value}
    {f_Moon_cycle : Addr} {od_Moon_cycle an_Moon_cycle : Option Addr} {sl_Moon_cycle : Array (Option Value)} {oc_Moon_cycle kV_Moon_cycle dc_Moon_cycle pm_Moon_cycle cd_Moon_cycle ct_Moon_cycle : Value}
    {f_allowed : Addr} {od_allowed an_allowed : Option Addr} {sl_allowed : Array (Option Value)} {oc_allowed kV_allowed dc_allowed pm_allowed cd_allowed ct_allowed : Value}
    {f_term_on : Addr} {od_term_on an_term_on : Option Addr} {sl_term_on : Array (Option Value)} {oc_term_on kV_term_on dc_term_on pm_term_on cd_term_on ct_term_on : Value}
    {f_Measure_at : Addr} {od_Measure_at an_Measure_at : Option Addr} {sl_Measure_at : Array (Option Value)} {oc_Measure_at kV_Measure_at dc_Measure_at pm_Measure_at cd_Measure_at ct_Measure_at : Value}
    {f_Sun_lengths : Addr} {od_Sun_lengths an_Sun_lengths : Option Addr} {sl_Sun_lengths : Array (Option Value)} {oc_Sun_lengths kV_Sun_lengths dc_Sun_lengths pm_Sun_lengths cd_Sun_lengths ct_Sun_lengths : Value}
    {f_Moon_lengths : Addr} {od_Moon_lengths an_Moon_lengths : Option Addr} {sl_Moon_lengths : Array (Option Value)} {oc_Moon_lengths kV_Moon_lengths dc_Moon_lengths pm_Moon_lengths cd_Moon_lengths ct_Moon_lengths : Value}
    {f_mask : Addr} {od_mask an_mask : Option Addr} {sl_mask : Array (Option Value)} {oc_mask kV_mask dc_mask pm_mask cd_mask ct_mask : Value}
    {f_later : Addr} {od_later an_later : Option Addr} {sl_later : Array (Option Value)} {oc_later kV_later dc_later pm_later cd_later ct_later : Value}
    {f_Sun_year_start : Addr} {od_Sun_year_start an_Sun_year_start : Option Addr} {sl_Sun_year_start : Array (Option Value)} {oc_Sun_year_start kV_Sun_year_start dc_Sun_year_start pm_Sun_year_start cd_Sun_year_start ct_Sun_year_start : Value}
    {f_Moon_year_start : Addr} {od_Moon_year_start an_Moon_year_start : Option Addr} {sl_Moon_year_start : Array (Option Value)} {oc_Moon_year_start kV_Moon_year_start dc_Moon_year_start pm_Moon_year_start cd_Moon_year_start ct_Moon_year_start : Value}
    {f_month_bits : Addr} {od_month_bits an_month_bits : Option Addr} {sl_month_bits : Array (Option Value)} {oc_month_bits kV_month_bits dc_month_bits pm_month_bits cd_month_bits ct_month_bits : Value}
    {f_year_bits : Addr} {od_year_bits an_year_bits : Option Addr} {sl_year_bits : Array (Option Value)} {oc_year_bits kV_year_bits dc_year_bits pm_year_bits cd_year_bits ct_year_bits : Value}
    {dT_dated : Addr} {dO_dated : Obj} {dI_dated : List Value} {dN_dated : Nat}
    {f_dated : Addr} {od_dated an_dated : Option Addr} {sl_dated : Array (Option Value)} {oc_dated kV_dated dc_dated pm_dated cd_dated ct_dated : Value}
    {f_Lmade : Addr} {od_Lmade an_Lmade : Option Addr} {sl_Lmade : Array (Option Value)} {oc_Lmade kV_Lmade dc_Lmade pm_Lmade cd_Lmade ct_Lmade : Value}
    {f_Moon_init : Addr} {od_Moon_init an_Moon_init : Option Addr} {sl_Moon_init : Array (Option Value)} {oc_Moon_init kV_Moon_init dc_Moon_init pm_Moon_init cd_Moon_init ct_Moon_init : Value}
    {f_Lmoon : Addr} {od_Lmoon an_Lmoon : Option Addr} {sl_Lmoon : Array (Option Value)} {oc_Lmoon kV_Lmoon dc_Lmoon pm_Lmoon cd_Lmoon ct_Lmoon : Value}
    {f_Lis_short : Addr} {od_Lis_short an_Lis_short : Option Addr} {sl_Lis_short : Array (Option Value)} {oc_Lis_short kV_Lis_short dc_Lis_short pm_Lis_short cd_Lis_short ct_Lis_short : Value}
    {f_Lmixed : Addr} {od_Lmixed an_Lmixed : Option Addr} {sl_Lmixed : Array (Option Value)} {oc_Lmixed kV_Lmixed dc_Lmixed pm_Lmixed cd_Lmixed ct_Lmixed : Value}
    {f_Lany_term : Addr} {od_Lany_term an_Lany_term : Option Addr} {sl_Lany_term : Array (Option Value)} {oc_Lany_term kV_Lany_term dc_Lany_term pm_Lany_term cd_Lany_term ct_Lany_term : Value}
    {f_Lany_terms : Addr} {od_Lany_terms an_Lany_terms : Option Addr} {sl_Lany_terms : Array (Option Value)} {oc_Lany_terms kV_Lany_terms dc_Lany_terms pm_Lany_terms cd_Lany_terms ct_Lany_terms : Value}
    {f_Lany_measure : Addr} {od_Lany_measure an_Lany_measure : Option Addr} {sl_Lany_measure : Array (Option Value)} {oc_Lany_measure kV_Lany_measure dc_Lany_measure pm_Lany_measure cd_Lany_measure ct_Lany_measure : Value}
    {f_Lany : Addr} {od_Lany an_Lany : Option Addr} {sl_Lany : Array (Option Value)} {oc_Lany kV_Lany dc_Lany pm_Lany cd_Lany ct_Lany : Value}
    {f_Lyears : Addr} {od_Lyears an_Lyears : Option Addr} {sl_Lyears : Array (Option Value)} {oc_Lyears kV_Lyears dc_Lyears pm_Lyears cd_Lyears ct_Lyears : Value}
    {f_Lsize : Addr} {od_Lsize an_Lsize : Option Addr} {sl_Lsize : Array (Option Value)} {oc_Lsize kV_Lsize dc_Lsize pm_Lsize cd_Lsize ct_Lsize : Value}
    {f_Lstep : Addr} {od_Lstep an_Lstep : Option Addr} {sl_Lstep : Array (Option Value)} {oc_Lstep kV_Lstep dc_Lstep pm_Lstep cd_Lstep ct_Lstep : Value}
    {f_NoDate_init : Addr} {od_NoDate_init an_NoDate_init : Option Addr} {sl_NoDate_init : Array (Option Value)} {oc_NoDate_init kV_NoDate_init dc_NoDate_init pm_NoDate_init cd_NoDate_init ct_NoDate_init : Value}
    {f_Calendar_day_of : Addr} {od_Calendar_day_of an_Calendar_day_of : Option Addr} {sl_Calendar_day_of : Array (Option Value)} {oc_Calendar_day_of kV_Calendar_day_of dc_Calendar_day_of pm_Calendar_day_of cd_Calendar_day_of ct_Calendar_day_of : Value}
    {f_Laimed : Addr} {od_Laimed an_Laimed : Option Addr} {sl_Laimed : Array (Option Value)} {oc_Laimed kV_Laimed dc_Laimed pm_Laimed cd_Laimed ct_Laimed : Value}
    {f_Lwhole : Addr} {od_Lwhole an_Lwhole : Option Addr} {sl_Lwhole : Array (Option Value)} {oc_Lwhole kV_Lwhole dc_Lwhole pm_Lwhole cd_Lwhole ct_Lwhole : Value}
    {f_Measure_seek : Addr} {od_Measure_seek an_Measure_seek : Option Addr} {sl_Measure_seek : Array (Option Value)} {oc_Measure_seek kV_Measure_seek dc_Measure_seek pm_Measure_seek cd_Measure_seek ct_Measure_seek : Value}
    {f_Sun_year_at : Addr} {od_Sun_year_at an_Sun_year_at : Option Addr} {sl_Sun_year_at : Array (Option Value)} {oc_Sun_year_at kV_Sun_year_at dc_Sun_year_at pm_Sun_year_at cd_Sun_year_at ct_Sun_year_at : Value}
    {f_Moon_year_at : Addr} {od_Moon_year_at an_Moon_year_at : Option Addr} {sl_Moon_year_at : Array (Option Value)} {oc_Moon_year_at kV_Moon_year_at dc_Moon_year_at pm_Moon_year_at cd_Moon_year_at ct_Moon_year_at : Value}
    {f_Calendar_date_of : Addr} {od_Calendar_date_of an_Calendar_date_of : Option Addr} {sl_Calendar_date_of : Array (Option Value)} {oc_Calendar_date_of kV_Calendar_date_of dc_Calendar_date_of pm_Calendar_date_of cd_Calendar_date_of ct_Calendar_date_of : Value}
    {f_Ldue : Addr} {od_Ldue an_Ldue : Option Addr} {sl_Ldue : Array (Option Value)} {oc_Ldue kV_Ldue dc_Ldue pm_Ldue cd_Ldue ct_Ldue : Value}
    {f_law : Addr} {od_law an_law : Option Addr} {sl_law : Array (Option Value)} {oc_law kV_law dc_law pm_law cd_law ct_law : Value}
    {t_MOST_N : Tok}
    {t_MOST_BASE : Tok}
    {t_MOST_TERMS : Tok}
    {t_MOST_MONTHS : Tok}
    {t_MOST_DAYS : Tok}
    {t_LIMIT : Tok}
    {C_FeastError : Addr}
    {C_NoDate : Addr}
    {nm_NoDate q_NoDate : Str} {N_NoDate : Addr} {bs_NoDate sub_NoDate : List Value} {sn_NoDate : List Str} {ab_NoDate : Bool} {col_NoDate : Option Bool} {dd_NoDate : Option Addr} {m0_NoDate m1_NoDate m2_NoDate m3_NoDate m5_NoDate : Option Value}
    {C_Measure : Addr}
    {C_Sun : Addr}
    {C_Moon : Addr}
    (gc_FeastError : PySem.W.nsIn K mainGlobals "FeastError" = some (some (.ref C_FeastError)))
    (gc_NoDate : PySem.W.nsIn K mainGlobals "NoDate" = some (some (.ref C_NoDate)))
    (gc_Measure : PySem.W.nsIn K mainGlobals "Measure" = some (some (.ref C_Measure)))
    (gc_Sun : PySem.W.nsIn K mainGlobals "Sun" = some (some (.ref C_Sun)))
    (gc_Moon : PySem.W.nsIn K mainGlobals "Moon" = some (some (.ref C_Moon)))
    (in_Measure_upto : PySem.W.findIn K (.ref C_Measure) "upto" = some (some (.ref f_Measure_upto)))
    (in_Measure_period : PySem.W.findIn K (.ref C_Measure) "period" = some (some (.ref f_Measure_period)))
    (in_Measure_init : PySem.W.findIn K (.ref C_Measure) "__init__" = some (some (.ref f_Measure_init)))
    (in_Sun_init : PySem.W.findIn K (.ref C_Sun) "__init__" = some (some (.ref f_Sun_init)))
    (in_Sun_cycle : PySem.W.findIn K (.ref C_Sun) "cycle" = some (some (.ref f_Sun_cycle)))
    (in_Moon_cycle : PySem.W.findIn K (.ref C_Moon) "cycle" = some (some (.ref f_Moon_cycle)))
    (in_Measure_at : PySem.W.findIn K (.ref C_Measure) "at" = some (some (.ref f_Measure_at)))
    (in_Sun_lengths : PySem.W.findIn K (.ref C_Sun) "lengths" = some (some (.ref f_Sun_lengths)))
    (in_Moon_lengths : PySem.W.findIn K (.ref C_Moon) "lengths" = some (some (.ref f_Moon_lengths)))
    (in_Sun_year_start : PySem.W.findIn K (.ref C_Sun) "year_start" = some (some (.ref f_Sun_year_start)))
    (in_Moon_year_start : PySem.W.findIn K (.ref C_Moon) "year_start" = some (some (.ref f_Moon_year_start)))
    (in_Moon_init : PySem.W.findIn K (.ref C_Moon) "__init__" = some (some (.ref f_Moon_init)))
    (in_Calendar_day_of : PySem.W.findIn K (.ref C_Sun) "day_of" = some (some (.ref f_Calendar_day_of)))
    (in_Measure_seek : PySem.W.findIn K (.ref C_Measure) "seek" = some (some (.ref f_Measure_seek)))
    (in_Sun_year_at : PySem.W.findIn K (.ref C_Sun) "year_at" = some (some (.ref f_Sun_year_at)))
    (in_Moon_year_at : PySem.W.findIn K (.ref C_Moon) "year_at" = some (some (.ref f_Moon_year_at)))
    (in_Calendar_date_of : PySem.W.findIn K (.ref C_Sun) "date_of" = some (some (.ref f_Calendar_date_of)))
    (in_NoDate_init : PySem.W.findIn K (.ref C_NoDate) "__init__" = some (some (.ref f_NoDate_init)))
    (a_list_of : PySem.W.nsIn K mainGlobals "list_of" = some (some (.ref f_list_of)))
    (a_counter : PySem.W.nsIn K mainGlobals "counter" = some (some (.ref f_counter)))
    (a_many_fall : PySem.W.nsIn K mainGlobals "many_fall" = some (some (.ref f_many_fall)))
    (a_is_term : PySem.W.nsIn K mainGlobals "is_term" = some (some (.ref f_is_term)))
    (a_is_measure : PySem.W.nsIn K mainGlobals "is_measure" = some (some (.ref f_is_measure)))
    (a_sized : PySem.W.nsIn K mainGlobals "sized" = some (some (.ref f_sized)))
    (a_divisor : PySem.W.nsIn K mainGlobals "divisor" = some (some (.ref f_divisor)))
    (a_common : PySem.W.nsIn K mainGlobals "common" = some (some (.ref f_common)))
    (a_are_months : PySem.W.nsIn K mainGlobals "are_months" = some (some (.ref f_are_months)))
    (a_Lnumber : PySem.W.nsIn K mainGlobals "_law_number" = some (some (.ref f_Lnumber)))
    (a_Lcell_at : PySem.W.nsIn K mainGlobals "_law_cell_at" = some (some (.ref f_Lcell_at)))
    (a_Lterm : PySem.W.nsIn K mainGlobals "_law_term" = some (some (.ref f_Lterm)))
    (a_Lsun : PySem.W.nsIn K mainGlobals "_law_sun" = some (some (.ref f_Lsun)))
    (a_Lwanted : PySem.W.nsIn K mainGlobals "_law_wanted" = some (some (.ref f_Lwanted)))
    (a_allowed : PySem.W.nsIn K mainGlobals "allowed" = some (some (.ref f_allowed)))
    (a_term_on : PySem.W.nsIn K mainGlobals "term_on" = some (some (.ref f_term_on)))
    (a_mask : PySem.W.nsIn K mainGlobals "mask" = some (some (.ref f_mask)))
    (a_later : PySem.W.nsIn K mainGlobals "later" = some (some (.ref f_later)))
    (a_month_bits : PySem.W.nsIn K mainGlobals "month_bits" = some (some (.ref f_month_bits)))
    (a_year_bits : PySem.W.nsIn K mainGlobals "year_bits" = some (some (.ref f_year_bits)))
    (a_dated : PySem.W.nsIn K mainGlobals "dated" = some (some (.ref f_dated)))
    (a_Lmade : PySem.W.nsIn K mainGlobals "_law_made" = some (some (.ref f_Lmade)))
    (a_Lmoon : PySem.W.nsIn K mainGlobals "_law_moon" = some (some (.ref f_Lmoon)))
    (a_Lis_short : PySem.W.nsIn K mainGlobals "_law_is_short" = some (some (.ref f_Lis_short)))
    (a_Lmixed : PySem.W.nsIn K mainGlobals "_law_mixed" = some (some (.ref f_Lmixed)))
    (a_Lany_term : PySem.W.nsIn K mainGlobals "_law_any_term" = some (some (.ref f_Lany_term)))
    (a_Lany_terms : PySem.W.nsIn K mainGlobals "_law_any_terms" = some (some (.ref f_Lany_terms)))
    (a_Lany_measure : PySem.W.nsIn K mainGlobals "_law_any_measure" = some (some (.ref f_Lany_measure)))
    (a_Lany : PySem.W.nsIn K mainGlobals "_law_any" = some (some (.ref f_Lany)))
    (a_Lyears : PySem.W.nsIn K mainGlobals "_law_years" = some (some (.ref f_Lyears)))
    (a_Lsize : PySem.W.nsIn K mainGlobals "_law_size" = some (some (.ref f_Lsize)))
    (a_Lstep : PySem.W.nsIn K mainGlobals "_law_step" = some (some (.ref f_Lstep)))
    (a_Laimed : PySem.W.nsIn K mainGlobals "_law_aimed" = some (some (.ref f_Laimed)))
    (a_Lwhole : PySem.W.nsIn K mainGlobals "_law_whole" = some (some (.ref f_Lwhole)))
    (a_Ldue : PySem.W.nsIn K mainGlobals "_law_due" = some (some (.ref f_Ldue)))
    (a_law : PySem.W.nsIn K mainGlobals "law" = some (some (.ref f_law)))
    (l_list_of : K.lookup f_list_of = some ⟨oc_list_of, od_list_of, .func (PySem.W.fnOf "list_of" "list_of" (defArgs s_list_of) (defBody s_list_of) (defScope s_list_of) .none kV_list_of dc_list_of pm_list_of an_list_of cd_list_of ct_list_of), sl_list_of⟩)
    (l_counter : K.lookup f_counter = some ⟨oc_counter, od_counter, .func (PySem.W.fnOf "counter" "counter" (defArgs s_counter) (defBody s_counter) (defScope s_counter) .none kV_counter dc_counter pm_counter an_counter (.ref cc_counter) ct_counter), sl_counter⟩)
    (l_Measure_upto : K.lookup f_Measure_upto = some ⟨oc_Measure_upto, od_Measure_upto, .func (PySem.W.fnOf "upto" "Measure.upto" (defArgs s_Measure_upto) (defBody s_Measure_upto) (defScope s_Measure_upto) .none kV_Measure_upto dc_Measure_upto pm_Measure_upto an_Measure_upto cd_Measure_upto ct_Measure_upto), sl_Measure_upto⟩)
    (l_many_fall : K.lookup f_many_fall = some ⟨oc_many_fall, od_many_fall, .func (PySem.W.fnOf "many_fall" "many_fall" (defArgs s_many_fall) (defBody s_many_fall) (defScope s_many_fall) .none kV_many_fall dc_many_fall pm_many_fall an_many_fall cd_many_fall ct_many_fall), sl_many_fall⟩)
    (l_is_term : K.lookup f_is_term = some ⟨oc_is_term, od_is_term, .func (PySem.W.fnOf "is_term" "is_term" (defArgs s_is_term) (defBody s_is_term) (defScope s_is_term) .none kV_is_term dc_is_term pm_is_term an_is_term cd_is_term ct_is_term), sl_is_term⟩)
    (l_is_measure : K.lookup f_is_measure = some ⟨oc_is_measure, od_is_measure, .func (PySem.W.fnOf "is_measure" "is_measure" (defArgs s_is_measure) (defBody s_is_measure) (defScope s_is_measure) .none kV_is_measure dc_is_measure pm_is_measure an_is_measure cd_is_measure ct_is_measure), sl_is_measure⟩)
    (l_sized : K.lookup f_sized = some ⟨oc_sized, od_sized, .func (PySem.W.fnOf "sized" "sized" (defArgs s_sized) (defBody s_sized) (defScope s_sized) .none kV_sized dc_sized pm_sized an_sized cd_sized ct_sized), sl_sized⟩)
    (l_divisor : K.lookup f_divisor = some ⟨oc_divisor, od_divisor, .func (PySem.W.fnOf "divisor" "divisor" (defArgs s_divisor) (defBody s_divisor) (defScope s_divisor) .none kV_divisor dc_divisor pm_divisor an_divisor cd_divisor ct_divisor), sl_divisor⟩)
    (l_common : K.lookup f_common = some ⟨oc_common, od_common, .func (PySem.W.fnOf "common" "common" (defArgs s_common) (defBody s_common) (defScope s_common) .none kV_common dc_common pm_common an_common cd_common ct_common), sl_common⟩)
    (l_Measure_period : K.lookup f_Measure_period = some ⟨oc_Measure_period, od_Measure_period, .func (PySem.W.fnOf "period" "Measure.period" (defArgs s_Measure_period) (defBody s_Measure_period) (defScope s_Measure_period) .none kV_Measure_period dc_Measure_period pm_Measure_period an_Measure_period cd_Measure_period ct_Measure_period), sl_Measure_period⟩)
    (l_Measure_init : K.lookup f_Measure_init = some ⟨oc_Measure_init, od_Measure_init, .func (PySem.W.fnOf "__init__" "Measure.__init__" (defArgs s_Measure_init) (defBody s_Measure_init) (defScope s_Measure_init) (.ref dT_Measure_init) kV_Measure_init dc_Measure_init pm_Measure_init an_Measure_init cd_Measure_init ct_Measure_init), sl_Measure_init⟩)
    (l_are_months : K.lookup f_are_months = some ⟨oc_are_months, od_are_months, .func (PySem.W.fnOf "are_months" "are_months" (defArgs s_are_months) (defBody s_are_months) (defScope s_are_months) .none kV_are_months dc_are_months pm_are_months an_are_months cd_are_months ct_are_months), sl_are_months⟩)
    (l_Sun_init : K.lookup f_Sun_init = some ⟨oc_Sun_init, od_Sun_init, .func (PySem.W.fnOf "__init__" "Sun.__init__" (defArgs s_Sun_init) (defBody s_Sun_init) (defScope s_Sun_init) (.ref dT_Sun_init) kV_Sun_init dc_Sun_init pm_Sun_init an_Sun_init cd_Sun_init ct_Sun_init), sl_Sun_init⟩)
    (l_Lnumber : K.lookup f_Lnumber = some ⟨oc_Lnumber, od_Lnumber, .func (PySem.W.fnOf "_law_number" "_law_number" (defArgs s_Lnumber) (defBody s_Lnumber) (defScope s_Lnumber) .none kV_Lnumber dc_Lnumber pm_Lnumber an_Lnumber cd_Lnumber ct_Lnumber), sl_Lnumber⟩)
    (l_Lcell_at : K.lookup f_Lcell_at = some ⟨oc_Lcell_at, od_Lcell_at, .func (PySem.W.fnOf "_law_cell_at" "_law_cell_at" (defArgs s_Lcell_at) (defBody s_Lcell_at) (defScope s_Lcell_at) .none kV_Lcell_at dc_Lcell_at pm_Lcell_at an_Lcell_at cd_Lcell_at ct_Lcell_at), sl_Lcell_at⟩)
    (l_Lterm : K.lookup f_Lterm = some ⟨oc_Lterm, od_Lterm, .func (PySem.W.fnOf "_law_term" "_law_term" (defArgs s_Lterm) (defBody s_Lterm) (defScope s_Lterm) .none kV_Lterm dc_Lterm pm_Lterm an_Lterm cd_Lterm ct_Lterm), sl_Lterm⟩)
    (l_Lsun : K.lookup f_Lsun = some ⟨oc_Lsun, od_Lsun, .func (PySem.W.fnOf "_law_sun" "_law_sun" (defArgs s_Lsun) (defBody s_Lsun) (defScope s_Lsun) .none kV_Lsun dc_Lsun pm_Lsun an_Lsun cd_Lsun ct_Lsun), sl_Lsun⟩)
    (l_Lwanted : K.lookup f_Lwanted = some ⟨oc_Lwanted, od_Lwanted, .func (PySem.W.fnOf "_law_wanted" "_law_wanted" (defArgs s_Lwanted) (defBody s_Lwanted) (defScope s_Lwanted) .none kV_Lwanted dc_Lwanted pm_Lwanted an_Lwanted cd_Lwanted ct_Lwanted), sl_Lwanted⟩)
    (l_Sun_cycle : K.lookup f_Sun_cycle = some ⟨oc_Sun_cycle, od_Sun_cycle, .func (PySem.W.fnOf "cycle" "Sun.cycle" (defArgs s_Sun_cycle) (defBody s_Sun_cycle) (defScope s_Sun_cycle) .none kV_Sun_cycle dc_Sun_cycle pm_Sun_cycle an_Sun_cycle cd_Sun_cycle ct_Sun_cycle), sl_Sun_cycle⟩)
    (l_Moon_cycle : K.lookup f_Moon_cycle = some ⟨oc_Moon_cycle, od_Moon_cycle, .func (PySem.W.fnOf "cycle" "Moon.cycle" (defArgs s_Moon_cycle) (defBody s_Moon_cycle) (defScope s_Moon_cycle) .none kV_Moon_cycle dc_Moon_cycle pm_Moon_cycle an_Moon_cycle cd_Moon_cycle ct_Moon_cycle), sl_Moon_cycle⟩)
    (l_allowed : K.lookup f_allowed = some ⟨oc_allowed, od_allowed, .func (PySem.W.fnOf "allowed" "allowed" (defArgs s_allowed) (defBody s_allowed) (defScope s_allowed) .none kV_allowed dc_allowed pm_allowed an_allowed cd_allowed ct_allowed), sl_allowed⟩)
    (l_term_on : K.lookup f_term_on = some ⟨oc_term_on, od_term_on, .func (PySem.W.fnOf "term_on" "term_on" (defArgs s_term_on) (defBody s_term_on) (defScope s_term_on) .none kV_term_on dc_term_on pm_term_on an_term_on cd_term_on ct_term_on), sl_term_on⟩)
    (l_Measure_at : K.lookup f_Measure_at = some ⟨oc_Measure_at, od_Measure_at, .func (PySem.W.fnOf "at" "Measure.at" (defArgs s_Measure_at) (defBody s_Measure_at) (defScope s_Measure_at) .none kV_Measure_at dc_Measure_at pm_Measure_at an_Measure_at cd_Measure_at ct_Measure_at), sl_Measure_at⟩)
    (l_Sun_lengths : K.lookup f_Sun_lengths = some ⟨oc_Sun_lengths, od_Sun_lengths, .func (PySem.W.fnOf "lengths" "Sun.lengths" (defArgs s_Sun_lengths) (defBody s_Sun_lengths) (defScope s_Sun_lengths) .none kV_Sun_lengths dc_Sun_lengths pm_Sun_lengths an_Sun_lengths cd_Sun_lengths ct_Sun_lengths), sl_Sun_lengths⟩)
    (l_Moon_lengths : K.lookup f_Moon_lengths = some ⟨oc_Moon_lengths, od_Moon_lengths, .func (PySem.W.fnOf "lengths" "Moon.lengths" (defArgs s_Moon_lengths) (defBody s_Moon_lengths) (defScope s_Moon_lengths) .none kV_Moon_lengths dc_Moon_lengths pm_Moon_lengths an_Moon_lengths cd_Moon_lengths ct_Moon_lengths), sl_Moon_lengths⟩)
    (l_mask : K.lookup f_mask = some ⟨oc_mask, od_mask, .func (PySem.W.fnOf "mask" "mask" (defArgs s_mask) (defBody s_mask) (defScope s_mask) .none kV_mask dc_mask pm_mask an_mask cd_mask ct_mask), sl_mask⟩)
    (l_later : K.lookup f_later = some ⟨oc_later, od_later, .func (PySem.W.fnOf "later" "later" (defArgs s_later) (defBody s_later) (defScope s_later) .none kV_later dc_later pm_later an_later cd_later ct_later), sl_later⟩)
    (l_Sun_year_start : K.lookup f_Sun_year_start = some ⟨oc_Sun_year_start, od_Sun_year_start, .func (PySem.W.fnOf "year_start" "Sun.year_start" (defArgs s_Sun_year_start) (defBody s_Sun_year_start) (defScope s_Sun_year_start) .none kV_Sun_year_start dc_Sun_year_start pm_Sun_year_start an_Sun_year_start cd_Sun_year_start ct_Sun_year_start), sl_Sun_year_start⟩)
    (l_Moon_year_start : K.lookup f_Moon_year_start = some ⟨oc_Moon_year_start, od_Moon_year_start, .func (PySem.W.fnOf "year_start" "Moon.year_start" (defArgs s_Moon_year_start) (defBody s_Moon_year_start) (defScope s_Moon_year_start) .none kV_Moon_year_start dc_Moon_year_start pm_Moon_year_start an_Moon_year_start cd_Moon_year_start ct_Moon_year_start), sl_Moon_year_start⟩)
    (l_month_bits : K.lookup f_month_bits = some ⟨oc_month_bits, od_month_bits, .func (PySem.W.fnOf "month_bits" "month_bits" (defArgs s_month_bits) (defBody s_month_bits) (defScope s_month_bits) .none kV_month_bits dc_month_bits pm_month_bits an_month_bits cd_month_bits ct_month_bits), sl_month_bits⟩)
    (l_year_bits : K.lookup f_year_bits = some ⟨oc_year_bits, od_year_bits, .func (PySem.W.fnOf "year_bits" "year_bits" (defArgs s_year_bits) (defBody s_year_bits) (defScope s_year_bits) .none kV_year_bits dc_year_bits pm_year_bits an_year_bits cd_year_bits ct_year_bits), sl_year_bits⟩)
    (l_dated : K.lookup f_dated = some ⟨oc_dated, od_dated, .func (PySem.W.fnOf "dated" "dated" (defArgs s_dated) (defBody s_dated) (defScope s_dated) (.ref dT_dated) kV_dated dc_dated pm_dated an_dated cd_dated ct_dated), sl_dated⟩)
    (l_Lmade : K.lookup f_Lmade = some ⟨oc_Lmade, od_Lmade, .func (PySem.W.fnOf "_law_made" "_law_made" (defArgs s_Lmade) (defBody s_Lmade) (defScope s_Lmade) .none kV_Lmade dc_Lmade pm_Lmade an_Lmade cd_Lmade ct_Lmade), sl_Lmade⟩)
    (l_Moon_init : K.lookup f_Moon_init = some ⟨oc_Moon_init, od_Moon_init, .func (PySem.W.fnOf "__init__" "Moon.__init__" (defArgs s_Moon_init) (defBody s_Moon_init) (defScope s_Moon_init) .none kV_Moon_init dc_Moon_init pm_Moon_init an_Moon_init cd_Moon_init ct_Moon_init), sl_Moon_init⟩)
    (l_Lmoon : K.lookup f_Lmoon = some ⟨oc_Lmoon, od_Lmoon, .func (PySem.W.fnOf "_law_moon" "_law_moon" (defArgs s_Lmoon) (defBody s_Lmoon) (defScope s_Lmoon) .none kV_Lmoon dc_Lmoon pm_Lmoon an_Lmoon cd_Lmoon ct_Lmoon), sl_Lmoon⟩)
    (l_Lis_short : K.lookup f_Lis_short = some ⟨oc_Lis_short, od_Lis_short, .func (PySem.W.fnOf "_law_is_short" "_law_is_short" (defArgs s_Lis_short) (defBody s_Lis_short) (defScope s_Lis_short) .none kV_Lis_short dc_Lis_short pm_Lis_short an_Lis_short cd_Lis_short ct_Lis_short), sl_Lis_short⟩)
    (l_Lmixed : K.lookup f_Lmixed = some ⟨oc_Lmixed, od_Lmixed, .func (PySem.W.fnOf "_law_mixed" "_law_mixed" (defArgs s_Lmixed) (defBody s_Lmixed) (defScope s_Lmixed) .none kV_Lmixed dc_Lmixed pm_Lmixed an_Lmixed cd_Lmixed ct_Lmixed), sl_Lmixed⟩)
    (l_Lany_term : K.lookup f_Lany_term = some ⟨oc_Lany_term, od_Lany_term, .func (PySem.W.fnOf "_law_any_term" "_law_any_term" (defArgs s_Lany_term) (defBody s_Lany_term) (defScope s_Lany_term) .none kV_Lany_term dc_Lany_term pm_Lany_term an_Lany_term cd_Lany_term ct_Lany_term), sl_Lany_term⟩)
    (l_Lany_terms : K.lookup f_Lany_terms = some ⟨oc_Lany_terms, od_Lany_terms, .func (PySem.W.fnOf "_law_any_terms" "_law_any_terms" (defArgs s_Lany_terms) (defBody s_Lany_terms) (defScope s_Lany_terms) .none kV_Lany_terms dc_Lany_terms pm_Lany_terms an_Lany_terms cd_Lany_terms ct_Lany_terms), sl_Lany_terms⟩)
    (l_Lany_measure : K.lookup f_Lany_measure = some ⟨oc_Lany_measure, od_Lany_measure, .func (PySem.W.fnOf "_law_any_measure" "_law_any_measure" (defArgs s_Lany_measure) (defBody s_Lany_measure) (defScope s_Lany_measure) .none kV_Lany_measure dc_Lany_measure pm_Lany_measure an_Lany_measure cd_Lany_measure ct_Lany_measure), sl_Lany_measure⟩)
    (l_Lany : K.lookup f_Lany = some ⟨oc_Lany, od_Lany, .func (PySem.W.fnOf "_law_any" "_law_any" (defArgs s_Lany) (defBody s_Lany) (defScope s_Lany) .none kV_Lany dc_Lany pm_Lany an_Lany cd_Lany ct_Lany), sl_Lany⟩)
    (l_Lyears : K.lookup f_Lyears = some ⟨oc_Lyears, od_Lyears, .func (PySem.W.fnOf "_law_years" "_law_years" (defArgs s_Lyears) (defBody s_Lyears) (defScope s_Lyears) .none kV_Lyears dc_Lyears pm_Lyears an_Lyears cd_Lyears ct_Lyears), sl_Lyears⟩)
    (l_Lsize : K.lookup f_Lsize = some ⟨oc_Lsize, od_Lsize, .func (PySem.W.fnOf "_law_size" "_law_size" (defArgs s_Lsize) (defBody s_Lsize) (defScope s_Lsize) .none kV_Lsize dc_Lsize pm_Lsize an_Lsize cd_Lsize ct_Lsize), sl_Lsize⟩)
    (l_Lstep : K.lookup f_Lstep = some ⟨oc_Lstep, od_Lstep, .func (PySem.W.fnOf "_law_step" "_law_step" (defArgs s_Lstep) (defBody s_Lstep) (defScope s_Lstep) .none kV_Lstep dc_Lstep pm_Lstep an_Lstep cd_Lstep ct_Lstep), sl_Lstep⟩)
    (l_NoDate_init : K.lookup f_NoDate_init = some ⟨oc_NoDate_init, od_NoDate_init, .func (PySem.W.fnOf "__init__" "NoDate.__init__" (defArgs s_NoDate_init) (defBody s_NoDate_init) (defScope s_NoDate_init) .none kV_NoDate_init dc_NoDate_init pm_NoDate_init an_NoDate_init cd_NoDate_init ct_NoDate_init), sl_NoDate_init⟩)
    (l_Calendar_day_of : K.lookup f_Calendar_day_of = some ⟨oc_Calendar_day_of, od_Calendar_day_of, .func (PySem.W.fnOf "day_of" "Calendar.day_of" (defArgs s_Calendar_day_of) (defBody s_Calendar_day_of) (defScope s_Calendar_day_of) .none kV_Calendar_day_of dc_Calendar_day_of pm_Calendar_day_of an_Calendar_day_of cd_Calendar_day_of ct_Calendar_day_of), sl_Calendar_day_of⟩)
    (l_Laimed : K.lookup f_Laimed = some ⟨oc_Laimed, od_Laimed, .func (PySem.W.fnOf "_law_aimed" "_law_aimed" (defArgs s_Laimed) (defBody s_Laimed) (defScope s_Laimed) .none kV_Laimed dc_Laimed pm_Laimed an_Laimed cd_Laimed ct_Laimed), sl_Laimed⟩)
    (l_Lwhole : K.lookup f_Lwhole = some ⟨oc_Lwhole, od_Lwhole, .func (PySem.W.fnOf "_law_whole" "_law_whole" (defArgs s_Lwhole) (defBody s_Lwhole) (defScope s_Lwhole) .none kV_Lwhole dc_Lwhole pm_Lwhole an_Lwhole cd_Lwhole ct_Lwhole), sl_Lwhole⟩)
    (l_Measure_seek : K.lookup f_Measure_seek = some ⟨oc_Measure_seek, od_Measure_seek, .func (PySem.W.fnOf "seek" "Measure.seek" (defArgs s_Measure_seek) (defBody s_Measure_seek) (defScope s_Measure_seek) .none kV_Measure_seek dc_Measure_seek pm_Measure_seek an_Measure_seek cd_Measure_seek ct_Measure_seek), sl_Measure_seek⟩)
    (l_Sun_year_at : K.lookup f_Sun_year_at = some ⟨oc_Sun_year_at, od_Sun_year_at, .func (PySem.W.fnOf "year_at" "Sun.year_at" (defArgs s_Sun_year_at) (defBody s_Sun_year_at) (defScope s_Sun_year_at) .none kV_Sun_year_at dc_Sun_year_at pm_Sun_year_at an_Sun_year_at cd_Sun_year_at ct_Sun_year_at), sl_Sun_year_at⟩)
    (l_Moon_year_at : K.lookup f_Moon_year_at = some ⟨oc_Moon_year_at, od_Moon_year_at, .func (PySem.W.fnOf "year_at" "Moon.year_at" (defArgs s_Moon_year_at) (defBody s_Moon_year_at) (defScope s_Moon_year_at) .none kV_Moon_year_at dc_Moon_year_at pm_Moon_year_at an_Moon_year_at cd_Moon_year_at ct_Moon_year_at), sl_Moon_year_at⟩)
    (l_Calendar_date_of : K.lookup f_Calendar_date_of = some ⟨oc_Calendar_date_of, od_Calendar_date_of, .func (PySem.W.fnOf "date_of" "Calendar.date_of" (defArgs s_Calendar_date_of) (defBody s_Calendar_date_of) (defScope s_Calendar_date_of) .none kV_Calendar_date_of dc_Calendar_date_of pm_Calendar_date_of an_Calendar_date_of cd_Calendar_date_of ct_Calendar_date_of), sl_Calendar_date_of⟩)
    (l_Ldue : K.lookup f_Ldue = some ⟨oc_Ldue, od_Ldue, .func (PySem.W.fnOf "_law_due" "_law_due" (defArgs s_Ldue) (defBody s_Ldue) (defScope s_Ldue) .none kV_Ldue dc_Ldue pm_Ldue an_Ldue cd_Ldue ct_Ldue), sl_Ldue⟩)
    (l_law : K.lookup f_law = some ⟨oc_law, od_law, .func (PySem.W.fnOf "law" "law" (defArgs s_law) (defBody s_law) (defScope s_law) .none kV_law dc_law pm_law an_law cd_law ct_law), sl_law⟩)
    (dl_Measure_init : K.lookup dT_Measure_init = some dO_Measure_init)
    (dl_Sun_init : K.lookup dT_Sun_init = some dO_Sun_init)
    (dl_dated : K.lookup dT_dated = some dO_dated)
    (dd_Measure_init : dO_Measure_init.data = .seq (List.toArray dI_Measure_init) dN_Measure_init)
    (dd_Sun_init : dO_Sun_init.data = .seq (List.toArray dI_Sun_init) dN_Sun_init)
    (dd_dated : dO_dated.data = .seq (List.toArray dI_dated) dN_dated)
    (c_list_of : PySem.W.codeIn K cd_list_of "list_of" = true)
    (k_list_of : PySem.W.keepIn K (.ref f_list_of) = true)
    (tt_counter : PySem.W.tabIn K "counter" = some (cc_counter, tP_counter))
    (c_counter : PySem.W.codeIn K (.ref cc_counter) "counter" = true)
    (k_counter : PySem.W.keepIn K (.ref f_counter) = true)
    (c_Measure_upto : PySem.W.codeIn K cd_Measure_upto "Measure.upto" = true)
    (k_Measure_upto : PySem.W.keepIn K (.ref f_Measure_upto) = true)
    (c_many_fall : PySem.W.codeIn K cd_many_fall "many_fall" = true)
    (k_many_fall : PySem.W.keepIn K (.ref f_many_fall) = true)
    (c_is_term : PySem.W.codeIn K cd_is_term "is_term" = true)
    (k_is_term : PySem.W.keepIn K (.ref f_is_term) = true)
    (c_is_measure : PySem.W.codeIn K cd_is_measure "is_measure" = true)
    (k_is_measure : PySem.W.keepIn K (.ref f_is_measure) = true)
    (c_sized : PySem.W.codeIn K cd_sized "sized" = true)
    (k_sized : PySem.W.keepIn K (.ref f_sized) = true)
    (c_divisor : PySem.W.codeIn K cd_divisor "divisor" = true)
    (k_divisor : PySem.W.keepIn K (.ref f_divisor) = true)
    (c_common : PySem.W.codeIn K cd_common "common" = true)
    (k_common : PySem.W.keepIn K (.ref f_common) = true)
    (c_Measure_period : PySem.W.codeIn K cd_Measure_period "Measure.period" = true)
    (k_Measure_period : PySem.W.keepIn K (.ref f_Measure_period) = true)
    (dv_Measure_init : Vals [.non] dI_Measure_init)
    (c_Measure_init : PySem.W.codeIn K cd_Measure_init "Measure.__init__" = true)
    (k_Measure_init : PySem.W.keepIn K (.ref f_Measure_init) = true)
    (c_are_months : PySem.W.codeIn K cd_are_months "are_months" = true)
    (k_are_months : PySem.W.keepIn K (.ref f_are_months) = true)
    (dv_Sun_init : Vals [.int 1, .non] dI_Sun_init)
    (c_Sun_init : PySem.W.codeIn K cd_Sun_init "Sun.__init__" = true)
    (k_Sun_init : PySem.W.keepIn K (.ref f_Sun_init) = true)
    (c_Lnumber : PySem.W.codeIn K cd_Lnumber "_law_number" = true)
    (k_Lnumber : PySem.W.keepIn K (.ref f_Lnumber) = true)
    (c_Lcell_at : PySem.W.codeIn K cd_Lcell_at "_law_cell_at" = true)
    (k_Lcell_at : PySem.W.keepIn K (.ref f_Lcell_at) = true)
    (c_Lterm : PySem.W.codeIn K cd_Lterm "_law_term" = true)
    (k_Lterm : PySem.W.keepIn K (.ref f_Lterm) = true)
    (c_Lsun : PySem.W.codeIn K cd_Lsun "_law_sun" = true)
    (k_Lsun : PySem.W.keepIn K (.ref f_Lsun) = true)
    (c_Lwanted : PySem.W.codeIn K cd_Lwanted "_law_wanted" = true)
    (k_Lwanted : PySem.W.keepIn K (.ref f_Lwanted) = true)
    (c_Sun_cycle : PySem.W.codeIn K cd_Sun_cycle "Sun.cycle" = true)
    (k_Sun_cycle : PySem.W.keepIn K (.ref f_Sun_cycle) = true)
    (c_Moon_cycle : PySem.W.codeIn K cd_Moon_cycle "Moon.cycle" = true)
    (k_Moon_cycle : PySem.W.keepIn K (.ref f_Moon_cycle) = true)
    (c_allowed : PySem.W.codeIn K cd_allowed "allowed" = true)
    (k_allowed : PySem.W.keepIn K (.ref f_allowed) = true)
    (c_term_on : PySem.W.codeIn K cd_term_on "term_on" = true)
    (k_term_on : PySem.W.keepIn K (.ref f_term_on) = true)
    (c_Measure_at : PySem.W.codeIn K cd_Measure_at "Measure.at" = true)
    (k_Measure_at : PySem.W.keepIn K (.ref f_Measure_at) = true)
    (c_Sun_lengths : PySem.W.codeIn K cd_Sun_lengths "Sun.lengths" = true)
    (k_Sun_lengths : PySem.W.keepIn K (.ref f_Sun_lengths) = true)
    (c_Moon_lengths : PySem.W.codeIn K cd_Moon_lengths "Moon.lengths" = true)
    (k_Moon_lengths : PySem.W.keepIn K (.ref f_Moon_lengths) = true)
    (c_mask : PySem.W.codeIn K cd_mask "mask" = true)
    (k_mask : PySem.W.keepIn K (.ref f_mask) = true)
    (c_later : PySem.W.codeIn K cd_later "later" = true)
    (k_later : PySem.W.keepIn K (.ref f_later) = true)
    (c_Sun_year_start : PySem.W.codeIn K cd_Sun_year_start "Sun.year_start" = true)
    (k_Sun_year_start : PySem.W.keepIn K (.ref f_Sun_year_start) = true)
    (c_Moon_year_start : PySem.W.codeIn K cd_Moon_year_start "Moon.year_start" = true)
    (k_Moon_year_start : PySem.W.keepIn K (.ref f_Moon_year_start) = true)
    (c_month_bits : PySem.W.codeIn K cd_month_bits "month_bits" = true)
    (k_month_bits : PySem.W.keepIn K (.ref f_month_bits) = true)
    (c_year_bits : PySem.W.codeIn K cd_year_bits "year_bits" = true)
    (k_year_bits : PySem.W.keepIn K (.ref f_year_bits) = true)
    (dv_dated : Vals [.non, .non, .int 1, .int 0] dI_dated)
    (c_dated : PySem.W.codeIn K cd_dated "dated" = true)
    (k_dated : PySem.W.keepIn K (.ref f_dated) = true)
    (c_Lmade : PySem.W.codeIn K cd_Lmade "_law_made" = true)
    (k_Lmade : PySem.W.keepIn K (.ref f_Lmade) = true)
    (c_Moon_init : PySem.W.codeIn K cd_Moon_init "Moon.__init__" = true)
    (k_Moon_init : PySem.W.keepIn K (.ref f_Moon_init) = true)
    (c_Lmoon : PySem.W.codeIn K cd_Lmoon "_law_moon" = true)
    (k_Lmoon : PySem.W.keepIn K (.ref f_Lmoon) = true)
    (c_Lis_short : PySem.W.codeIn K cd_Lis_short "_law_is_short" = true)
    (k_Lis_short : PySem.W.keepIn K (.ref f_Lis_short) = true)
    (c_Lmixed : PySem.W.codeIn K cd_Lmixed "_law_mixed" = true)
    (k_Lmixed : PySem.W.keepIn K (.ref f_Lmixed) = true)
    (c_Lany_term : PySem.W.codeIn K cd_Lany_term "_law_any_term" = true)
    (k_Lany_term : PySem.W.keepIn K (.ref f_Lany_term) = true)
    (c_Lany_terms : PySem.W.codeIn K cd_Lany_terms "_law_any_terms" = true)
    (k_Lany_terms : PySem.W.keepIn K (.ref f_Lany_terms) = true)
    (c_Lany_measure : PySem.W.codeIn K cd_Lany_measure "_law_any_measure" = true)
    (k_Lany_measure : PySem.W.keepIn K (.ref f_Lany_measure) = true)
    (c_Lany : PySem.W.codeIn K cd_Lany "_law_any" = true)
    (k_Lany : PySem.W.keepIn K (.ref f_Lany) = true)
    (c_Lyears : PySem.W.codeIn K cd_Lyears "_law_years" = true)
    (k_Lyears : PySem.W.keepIn K (.ref f_Lyears) = true)
    (c_Lsize : PySem.W.codeIn K cd_Lsize "_law_size" = true)
    (k_Lsize : PySem.W.keepIn K (.ref f_Lsize) = true)
    (c_Lstep : PySem.W.codeIn K cd_Lstep "_law_step" = true)
    (k_Lstep : PySem.W.keepIn K (.ref f_Lstep) = true)
    (c_NoDate_init : PySem.W.codeIn K cd_NoDate_init "NoDate.__init__" = true)
    (k_NoDate_init : PySem.W.keepIn K (.ref f_NoDate_init) = true)
    (c_Calendar_day_of : PySem.W.codeIn K cd_Calendar_day_of "Calendar.day_of" = true)
    (k_Calendar_day_of : PySem.W.keepIn K (.ref f_Calendar_day_of) = true)
    (c_Laimed : PySem.W.codeIn K cd_Laimed "_law_aimed" = true)
    (k_Laimed : PySem.W.keepIn K (.ref f_Laimed) = true)
    (c_Lwhole : PySem.W.codeIn K cd_Lwhole "_law_whole" = true)
    (k_Lwhole : PySem.W.keepIn K (.ref f_Lwhole) = true)
    (c_Measure_seek : PySem.W.codeIn K cd_Measure_seek "Measure.seek" = true)
    (k_Measure_seek : PySem.W.keepIn K (.ref f_Measure_seek) = true)
    (c_Sun_year_at : PySem.W.codeIn K cd_Sun_year_at "Sun.year_at" = true)
    (k_Sun_year_at : PySem.W.keepIn K (.ref f_Sun_year_at) = true)
    (c_Moon_year_at : PySem.W.codeIn K cd_Moon_year_at "Moon.year_at" = true)
    (k_Moon_year_at : PySem.W.keepIn K (.ref f_Moon_year_at) = true)
    (c_Calendar_date_of : PySem.W.codeIn K cd_Calendar_date_of "Calendar.date_of" = true)
    (k_Calendar_date_of : PySem.W.keepIn K (.ref f_Calendar_date_of) = true)
    (c_Ldue : PySem.W.codeIn K cd_Ldue "_law_due" = true)
    (k_Ldue : PySem.W.keepIn K (.ref f_Ldue) = true)
    (c_law : PySem.W.codeIn K cd_law "law" = true)
    (k_law : PySem.W.keepIn K (.ref f_law) = true)
    (q_MOST_N : PySem.W.nsIn K mainGlobals "MOST_N" = some (some (.int 1000 t_MOST_N)))
    (q_MOST_BASE : PySem.W.nsIn K mainGlobals "MOST_BASE" = some (some (.int 20000 t_MOST_BASE)))
    (q_MOST_TERMS : PySem.W.nsIn K mainGlobals "MOST_TERMS" = some (some (.int 6 t_MOST_TERMS)))
    (q_MOST_MONTHS : PySem.W.nsIn K mainGlobals "MOST_MONTHS" = some (some (.int 20 t_MOST_MONTHS)))
    (q_MOST_DAYS : PySem.W.nsIn K mainGlobals "MOST_DAYS" = some (some (.int 1000 t_MOST_DAYS)))
    (q_LIMIT : PySem.W.nsIn K mainGlobals "LIMIT" = some (some (.int 150000 t_LIMIT)))
    (z_abs : PySem.W.nsIn K mainGlobals "abs" = some none)
    (z_all : PySem.W.nsIn K mainGlobals "all" = some none)
    (z_bool : PySem.W.nsIn K mainGlobals "bool" = some none)
    (z_divmod : PySem.W.nsIn K mainGlobals "divmod" = some none)
    (z_enumerate : PySem.W.nsIn K mainGlobals "enumerate" = some none)
    (z_int : PySem.W.nsIn K mainGlobals "int" = some none)
    (z_isinstance : PySem.W.nsIn K mainGlobals "isinstance" = some none)
    (z_len : PySem.W.nsIn K mainGlobals "len" = some none)
    (z_list : PySem.W.nsIn K mainGlobals "list" = some none)
    (z_max : PySem.W.nsIn K mainGlobals "max" = some none)
    (z_min : PySem.W.nsIn K mainGlobals "min" = some none)
    (z_range : PySem.W.nsIn K mainGlobals "range" = some none)
    (z_sum : PySem.W.nsIn K mainGlobals "sum" = some none)
    (z_tuple : PySem.W.nsIn K mainGlobals "tuple" = some none)
    (kc_FeastError : PySem.W.keepIn K (.ref C_FeastError) = true)
    (bc_FeastError : PySem.W.subIn K (.ref C_FeastError) (.type "BaseException") = some true)
    (tc_FeastError : PySem.W.typeIn K (.ref C_FeastError) = some (.type "type"))
    (ic_FeastError : PySem.W.isClsIn K C_FeastError = true)
    (sc_FeastError : PySem.W.subIn K (.ref C_FeastError) (.ref C_FeastError) = some true)
    (kc_NoDate : PySem.W.keepIn K (.ref C_NoDate) = true)
    (bc_NoDate : PySem.W.subIn K (.ref C_NoDate) (.type "BaseException") = some true)
    (tc_NoDate : PySem.W.typeIn K (.ref C_NoDate) = some (.type "type"))
    (ic_NoDate : PySem.W.isClsIn K C_NoDate = true)
    (sc_NoDate : PySem.W.subIn K (.ref C_NoDate) (.ref C_NoDate) = some true)
    (xl_NoDate : K.lookup C_NoDate = some (excClassObj nm_NoDate q_NoDate C_NoDate N_NoDate bs_NoDate [.ref C_FeastError, .type "ValueError", .type "Exception", .type "BaseException", .type "object"] true sn_NoDate sub_NoDate ab_NoDate col_NoDate dd_NoDate m0_NoDate m1_NoDate m2_NoDate m3_NoDate m5_NoDate "ValueError.__new__"))
    (sa_NoDate : PySem.W.findIn K (.ref C_NoDate) "__setattr__" = some (some (.builtin "object.__setattr__")))
    (cl_Measure : Cls K C_Measure)
    (mk_Measure : Mk K C_Measure f_Measure_init)
    (na_Measure_base : NoAttr K C_Measure "base")
    (na_Measure_terms : NoAttr K C_Measure "terms")
    (me_Measure_at : Meth K C_Measure "at" f_Measure_at)
    (me_Measure_upto : Meth K C_Measure "upto" f_Measure_upto)
    (me_Measure_period : Meth K C_Measure "period" f_Measure_period)
    (me_Measure_seek : Meth K C_Measure "seek" f_Measure_seek)
    (cl_Sun : Cls K C_Sun)
    (mk_Sun : Mk K C_Sun f_Sun_init)
    (na_Sun_start : NoAttr K C_Sun "start")
    (na_Sun_months : NoAttr K C_Sun "months")
    (na_Sun_leap : NoAttr K C_Sun "leap")
    (na_Sun_years : NoAttr K C_Sun "years")
    (me_Sun_year_start : Meth K C_Sun "year_start" f_Sun_year_start)
    (me_Sun_lengths : Meth K C_Sun "lengths" f_Sun_lengths)
    (me_Sun_year_at : Meth K C_Sun "year_at" f_Sun_year_at)
    (me_Sun_cycle : Meth K C_Sun "cycle" f_Sun_cycle)
    (me_Sun_date_of : Meth K C_Sun "date_of" f_Calendar_date_of)
    (me_Sun_day_of : Meth K C_Sun "day_of" f_Calendar_day_of)
    (cl_Moon : Cls K C_Moon)
    (mk_Moon : Mk K C_Moon f_Moon_init)
    (na_Moon_start : NoAttr K C_Moon "start")
    (na_Moon_days : NoAttr K C_Moon "days")
    (na_Moon_many : NoAttr K C_Moon "many")
    (me_Moon_year_start : Meth K C_Moon "year_start" f_Moon_year_start)
    (me_Moon_lengths : Meth K C_Moon "lengths" f_Moon_lengths)
    (me_Moon_year_at : Meth K C_Moon "year_at" f_Moon_year_at)
    (me_Moon_cycle : Meth K C_Moon "cycle" f_Moon_cycle)
    (me_Moon_date_of : Meth K C_Moon "date_of" f_Calendar_date_of)
    (me_Moon_day_of : Meth K C_Moon "day_of" f_Calendar_day_of)
    (ti_NoDate_init : PySem.W.typeIn K (.ref f_NoDate_init) = some (.type "function"))
    (xf_NoDate : XfC K C_NoDate)
    (no_NoDate_date : PySem.W.findIn K (.ref C_NoDate) "date" = some none)
    (cr_FeastError : ClX.CRead K C_FeastError (.type "type"))
    (vi_FeastError : PySem.W.findCls K (.ref C_FeastError) (.type "type") "__init__" = some (.val (.builtin "ValueError.__init__"))) :
    (∀ c P : Addr, PySem.W.tabIn K "counter" = some (c, P) → PySem.W.codeHdIn K c P = true ∧ K.lookup P = none ∧ h.get? P = some { cls := .none, data := .fields #[] }) → LamX.LawAtS l w K CX0 9 63 "_law_script" mg fa h := by
  have e := hfa.symm.trans (PySem.W.mg_of X G a_law)
  cases e
  have F_list_of := fun_mk (st := s_list_of) l_list_of c_list_of k_list_of
  have b_list_of := F_list_of.binds (ps := ["terms"]) fun _ _ _ _ _ _ us hl => match us, hl with | [_], _ => rfl
  have F_counter := funC_mk (st := s_counter) l_counter c_counter k_counter
  have b_counter := F_counter.binds (ps := ["terms"]) fun _ _ _ _ _ _ us hl => match us, hl with | [_], _ => rfl
  have F_Measure_upto := fun_mk (st := s_Measure_upto) l_Measure_upto c_Measure_upto k_Measure_upto
  have b_Measure_upto := F_Measure_upto.binds (ps := ["self", "k"]) fun _ _ _ _ _ _ us hl => match us, hl with | [_, _], _ => rfl
  have F_many_fall := fun_mk (st := s_many_fall) l_many_fall c_many_fall k_many_fall
  have b_many_fall := F_many_fall.binds (ps := ["terms"]) fun _ _ _ _ _ _ us hl => match us, hl with | [_], _ => rfl
  have F_is_term := fun_mk (st := s_is_term) l_is_term c_is_term k_is_term
  have b_is_term := F_is_term.binds (ps := ["term"]) fun _ _ _ _ _ _ us hl => match us, hl with | [_], _ => rfl
  have F_is_measure := fun_mk (st := s_is_measure) l_is_measure c_is_measure k_is_measure
  have b_is_measure := F_is_measure.binds (ps := ["base", "terms"]) fun _ _ _ _ _ _ us hl => match us, hl with | [_, _], _ => rfl
  have F_sized := fun_mk (st := s_sized) l_sized c_sized k_sized
  have b_sized := F_sized.binds (ps := ["size"]) fun _ _ _ _ _ _ us hl => match us, hl with | [_], _ => rfl
  have F_divisor := fun_mk (st := s_divisor) l_divisor c_divisor k_divisor
  have b_divisor := F_divisor.binds (ps := ["one", "other"]) fun _ _ _ _ _ _ us hl => match us, hl with | [_, _], _ => rfl
  have F_common := fun_mk (st := s_common) l_common c_common k_common
  have b_common := F_common.binds (ps := ["one", "other"]) fun _ _ _ _ _ _ us hl => match us, hl with | [_, _], _ => rfl
  have F_Measure_period := fun_mk (st := s_Measure_period) l_Measure_period c_Measure_period k_Measure_period
  have b_Measure_period := F_Measure_period.binds (ps := ["self"]) fun _ _ _ _ _ _ us hl => match us, hl with | [_], _ => rfl
  have F_Measure_init : FunD K "__init__" "Measure.__init__" (defArgs s_Measure_init) (defBody s_Measure_init) (defScope s_Measure_init) [.non] [] f_Measure_init _ := ⟨⟨_, _, _, _, _, _, _, _, _, _, rfl, l_Measure_init, c_Measure_init, .inr ⟨by simp, _, _, _, _, rfl, dl_Measure_init, dd_Measure_init, dv_Measure_init⟩, .inl rfl⟩, k_Measure_init⟩
  obtain ⟨ds_Measure_init_3, v_Measure_init_3, b_Measure_init_3⟩ := F_Measure_init.binds1 (ps := ["self", "base", "terms"]) 3 1 (by simp) (by decide) fun _ _ _ _ _ _ _ us its h1 h2 => match us, its, h1, h2 with | [_, _, _], [_], _, _ => ⟨_, rfl, rfl⟩
  have F_are_months := fun_mk (st := s_are_months) l_are_months c_are_months k_are_months
  have b_are_months := F_are_months.binds (ps := ["lengths", "leap", "terms"]) fun _ _ _ _ _ _ us hl => match us, hl with | [_, _, _], _ => rfl
  have F_Sun_init : FunD K "__init__" "Sun.__init__" (defArgs s_Sun_init) (defBody s_Sun_init) (defScope s_Sun_init) [.int 1, .non] [] f_Sun_init _ := ⟨⟨_, _, _, _, _, _, _, _, _, _, rfl, l_Sun_init, c_Sun_init, .inr ⟨by simp, _, _, _, _, rfl, dl_Sun_init, dd_Sun_init, dv_Sun_init⟩, .inl rfl⟩, k_Sun_init⟩
  obtain ⟨ds_Sun_init_3, v_Sun_init_3, b_Sun_init_3⟩ := F_Sun_init.binds1 (ps := ["self", "start", "lengths", "leap", "terms"]) 3 0 (by simp) (by decide) fun _ _ _ _ _ _ _ us its h1 h2 => match us, its, h1, h2 with | [_, _, _], [_, _], _, _ => ⟨_, rfl, rfl⟩
  obtain ⟨ds_Sun_init_5, v_Sun_init_5, b_Sun_init_5⟩ := F_Sun_init.binds1 (ps := ["self", "start", "lengths", "leap", "terms"]) 5 2 (by simp) (by decide) fun _ _ _ _ _ _ _ us its h1 h2 => match us, its, h1, h2 with | [_, _, _, _, _], [_, _], _, _ => ⟨_, rfl, rfl⟩
  have F_Lnumber := fun_mk (st := s_Lnumber) l_Lnumber c_Lnumber k_Lnumber
  have b_Lnumber := F_Lnumber.binds (ps := ["_law_cell"]) fun _ _ _ _ _ _ us hl => match us, hl with | [_], _ => rfl
  have F_Lcell_at := fun_mk (st := s_Lcell_at) l_Lcell_at c_Lcell_at k_Lcell_at
  have b_Lcell_at := F_Lcell_at.binds (ps := ["_law_script", "_law_k"]) fun _ _ _ _ _ _ us hl => match us, hl with | [_, _], _ => rfl
  have F_Lterm := fun_mk (st := s_Lterm) l_Lterm c_Lterm k_Lterm
  have b_Lterm := F_Lterm.binds (ps := ["_law_cell", "_law_most"]) fun _ _ _ _ _ _ us hl => match us, hl with | [_, _], _ => rfl
  have F_Lsun := fun_mk (st := s_Lsun) l_Lsun c_Lsun k_Lsun
  have b_Lsun := F_Lsun.binds (ps := ["_law_script"]) fun _ _ _ _ _ _ us hl => match us, hl with | [_], _ => rfl
  have F_Lwanted := fun_mk (st := s_Lwanted) l_Lwanted c_Lwanted k_Lwanted
  have b_Lwanted := F_Lwanted.binds (ps := ["_law_script"]) fun _ _ _ _ _ _ us hl => match us, hl with | [_], _ => rfl
  have F_Sun_cycle := fun_mk (st := s_Sun_cycle) l_Sun_cycle c_Sun_cycle k_Sun_cycle
  have b_Sun_cycle := F_Sun_cycle.binds (ps := ["self"]) fun _ _ _ _ _ _ us hl => match us, hl with | [_], _ => rfl
  have F_Moon_cycle := fun_mk (st := s_Moon_cycle) l_Moon_cycle c_Moon_cycle k_Moon_cycle
  have b_Moon_cycle := F_Moon_cycle.binds (ps := ["self"]) fun _ _ _ _ _ _ us hl => match us, hl with | [_], _ => rfl
  have F_allowed := fun_mk (st := s_allowed) l_allowed c_allowed k_allowed
  have b_allowed := F_allowed.binds (ps := ["size"]) fun _ _ _ _ _ _ us hl => match us, hl with | [_], _ => rfl
  have F_term_on := fun_mk (st := s_term_on) l_term_on c_term_on k_term_on
  have b_term_on := F_term_on.binds (ps := ["term", "k"]) fun _ _ _ _ _ _ us hl => match us, hl with | [_, _], _ => rfl
  have F_Measure_at := fun_mk (st := s_Measure_at) l_Measure_at c_Measure_at k_Measure_at
  have b_Measure_at := F_Measure_at.binds (ps := ["self", "k"]) fun _ _ _ _ _ _ us hl => match us, hl with | [_, _], _ => rfl
  have F_Sun_lengths := fun_mk (st := s_Sun_lengths) l_Sun_lengths c_Sun_lengths k_Sun_lengths
  have b_Sun_lengths := F_Sun_lengths.binds (ps := ["self", "year"]) fun _ _ _ _ _ _ us hl => match us, hl with | [_, _], _ => rfl
  have F_Moon_lengths := fun_mk (st := s_Moon_lengths) l_Moon_lengths c_Moon_lengths k_Moon_lengths
  have b_Moon_lengths := F_Moon_lengths.binds (ps := ["self", "year"]) fun _ _ _ _ _ _ us hl => match us, hl with | [_, _], _ => rfl
  have F_mask := fun_mk (st := s_mask) l_mask c_mask k_mask
  have b_mask := F_mask.binds (ps := ["size"]) fun _ _ _ _ _ _ us hl => match us, hl with | [_], _ => rfl
  have F_later := fun_mk (st := s_later) l_later c_later k_later
  have b_later := F_later.binds (ps := ["turn", "number"]) fun _ _ _ _ _ _ us hl => match us, hl with | [_, _], _ => rfl
  have F_Sun_year_start := fun_mk (st := s_Sun_year_start) l_Sun_year_start c_Sun_year_start k_Sun_year_start
  have b_Sun_year_start := F_Sun_year_start.binds (ps := ["self", "year"]) fun _ _ _ _ _ _ us hl => match us, hl with | [_, _], _ => rfl
  have F_Moon_year_start := fun_mk (st := s_Moon_year_start) l_Moon_year_start c_Moon_year_start k_Moon_year_start
  have b_Moon_year_start := F_Moon_year_start.binds (ps := ["self", "year"]) fun _ _ _ _ _ _ us hl => match us, hl with | [_, _], _ => rfl
  have F_month_bits := fun_mk (st := s_month_bits) l_month_bits c_month_bits k_month_bits
  have b_month_bits := F_month_bits.binds (ps := ["many", "day"]) fun _ _ _ _ _ _ us hl => match us, hl with | [_, _], _ => rfl
  have F_year_bits := fun_mk (st := s_year_bits) l_year_bits c_year_bits k_year_bits
  have b_year_bits := F_year_bits.binds (ps := ["lengths", "month", "day"]) fun _ _ _ _ _ _ us hl => match us, hl with | [_, _, _], _ => rfl
  have F_dated : FunD K "dated" "dated" (defArgs s_dated) (defBody s_dated) (defScope s_dated) [.non, .non, .int 1, .int 0] [] f_dated _ := ⟨⟨_, _, _, _, _, _, _, _, _, _, rfl, l_dated, c_dated, .inr ⟨by simp, _, _, _, _, rfl, dl_dated, dd_dated, dv_dated⟩, .inl rfl⟩, k_dated⟩
  obtain ⟨ds_dated_1, v_dated_1, b_dated_1⟩ := F_dated.binds1 (ps := ["calendar", "month", "day", "step", "rest"]) 1 0 (by simp) (by decide) fun _ _ _ _ _ _ _ us its h1 h2 => match us, its, h1, h2 with | [_], [_, _, _, _], _, _ => ⟨_, rfl, rfl⟩
  obtain ⟨ds_dated_2, v_dated_2, b_dated_2⟩ := F_dated.binds1 (ps := ["calendar", "month", "day", "step", "rest"]) 2 1 (by simp) (by decide) fun _ _ _ _ _ _ _ us its h1 h2 => match us, its, h1, h2 with | [_, _], [_, _, _, _], _, _ => ⟨_, rfl, rfl⟩
  obtain ⟨ds_dated_3, v_dated_3, b_dated_3⟩ := F_dated.binds1 (ps := ["calendar", "month", "day", "step", "rest"]) 3 2 (by simp) (by decide) fun _ _ _ _ _ _ _ us its h1 h2 => match us, its, h1, h2 with | [_, _, _], [_, _, _, _], _, _ => ⟨_, rfl, rfl⟩
  obtain ⟨ds_dated_5, v_dated_5, b_dated_5⟩ := F_dated.binds1 (ps := ["calendar", "month", "day", "step", "rest"]) 5 4 (by simp) (by decide) fun _ _ _ _ _ _ _ us its h1 h2 => match us, its, h1, h2 with | [_, _, _, _, _], [_, _, _, _], _, _ => ⟨_, rfl, rfl⟩
  have F_Lmade := fun_mk (st := s_Lmade) l_Lmade c_Lmade k_Lmade
  have b_Lmade := F_Lmade.binds (ps := ["_law_calendar", "_law_wanted_here", "_law_cell"]) fun _ _ _ _ _ _ us hl => match us, hl with | [_, _, _], _ => rfl
  have F_Moon_init := fun_mk (st := s_Moon_init) l_Moon_init c_Moon_init k_Moon_init
  have b_Moon_init := F_Moon_init.binds (ps := ["self", "start", "days", "many"]) fun _ _ _ _ _ _ us hl => match us, hl with | [_, _, _, _], _ => rfl
  have F_Lmoon := fun_mk (st := s_Lmoon) l_Lmoon c_Lmoon k_Lmoon
  have b_Lmoon := F_Lmoon.binds (ps := ["_law_script"]) fun _ _ _ _ _ _ us hl => match us, hl with | [_], _ => rfl
  have F_Lis_short := fun_mk (st := s_Lis_short) l_Lis_short c_Lis_short k_Lis_short
  have b_Lis_short := F_Lis_short.binds (ps := ["_law_calendar"]) fun _ _ _ _ _ _ us hl => match us, hl with | [_], _ => rfl
  have F_Lmixed := fun_mk (st := s_Lmixed) l_Lmixed c_Lmixed k_Lmixed
  have b_Lmixed := F_Lmixed.binds (ps := ["_law_cell", "_law_k"]) fun _ _ _ _ _ _ us hl => match us, hl with | [_, _], _ => rfl
  have F_Lany_term := fun_mk (st := s_Lany_term) l_Lany_term c_Lany_term k_Lany_term
  have b_Lany_term := F_Lany_term.binds (ps := ["_law_cell", "_law_k", "_law_most"]) fun _ _ _ _ _ _ us hl => match us, hl with | [_, _, _], _ => rfl
  have F_Lany_terms := fun_mk (st := s_Lany_terms) l_Lany_terms c_Lany_terms k_Lany_terms
  have b_Lany_terms := F_Lany_terms.binds (ps := ["_law_cell"]) fun _ _ _ _ _ _ us hl => match us, hl with | [_], _ => rfl
  have F_Lany_measure := fun_mk (st := s_Lany_measure) l_Lany_measure c_Lany_measure k_Lany_measure
  have b_Lany_measure := F_Lany_measure.binds (ps := ["_law_cell", "_law_most"]) fun _ _ _ _ _ _ us hl => match us, hl with | [_, _], _ => rfl
  have F_Lany := fun_mk (st := s_Lany) l_Lany c_Lany k_Lany
  have b_Lany := F_Lany.binds (ps := ["_law_script"]) fun _ _ _ _ _ _ us hl => match us, hl with | [_], _ => rfl
  have F_Lyears := fun_mk (st := s_Lyears) l_Lyears c_Lyears k_Lyears
  have b_Lyears := F_Lyears.binds (ps := ["_law_calendar", "_law_step_here"]) fun _ _ _ _ _ _ us hl => match us, hl with | [_, _], _ => rfl
  have F_Lsize := fun_mk (st := s_Lsize) l_Lsize c_Lsize k_Lsize
  have b_Lsize := F_Lsize.binds (ps := ["_law_calendar", "_law_step_here"]) fun _ _ _ _ _ _ us hl => match us, hl with | [_, _], _ => rfl
  have F_Lstep := fun_mk (st := s_Lstep) l_Lstep c_Lstep k_Lstep
  have b_Lstep := F_Lstep.binds (ps := ["_law_calendar", "_law_wanted_here", "_law_cell"]) fun _ _ _ _ _ _ us hl => match us, hl with | [_, _, _], _ => rfl
  have F_NoDate_init := fun_mk (st := s_NoDate_init) l_NoDate_init c_NoDate_init k_NoDate_init
  have b_NoDate_init := F_NoDate_init.binds (ps := ["self", "date"]) fun _ _ _ _ _ _ us hl => match us, hl with | [_, _], _ => rfl
  have F_Calendar_day_of := fun_mk (st := s_Calendar_day_of) l_Calendar_day_of c_Calendar_day_of k_Calendar_day_of
  have b_Calendar_day_of := F_Calendar_day_of.binds (ps := ["self", "date"]) fun _ _ _ _ _ _ us hl => match us, hl with | [_, _], _ => rfl
  have F_Laimed := fun_mk (st := s_Laimed) l_Laimed c_Laimed k_Laimed
  have b_Laimed := F_Laimed.binds (ps := ["_law_calendar", "_law_wanted_here", "_law_number_here"]) fun _ _ _ _ _ _ us hl => match us, hl with | [_, _, _], _ => rfl
  have F_Lwhole := fun_mk (st := s_Lwhole) l_Lwhole c_Lwhole k_Lwhole
  have b_Lwhole := F_Lwhole.binds (ps := ["_law_found"]) fun _ _ _ _ _ _ us hl => match us, hl with | [_], _ => rfl
  have F_Measure_seek := fun_mk (st := s_Measure_seek) l_Measure_seek c_Measure_seek k_Measure_seek
  have b_Measure_seek := F_Measure_seek.binds (ps := ["self", "total"]) fun _ _ _ _ _ _ us hl => match us, hl with | [_, _], _ => rfl
  have F_Sun_year_at := fun_mk (st := s_Sun_year_at) l_Sun_year_at c_Sun_year_at k_Sun_year_at
  have b_Sun_year_at := F_Sun_year_at.binds (ps := ["self", "day"]) fun _ _ _ _ _ _ us hl => match us, hl with | [_, _], _ => rfl
  have F_Moon_year_at := fun_mk (st := s_Moon_year_at) l_Moon_year_at c_Moon_year_at k_Moon_year_at
  have b_Moon_year_at := F_Moon_year_at.binds (ps := ["self", "day"]) fun _ _ _ _ _ _ us hl => match us, hl with | [_, _], _ => rfl
  have F_Calendar_date_of := fun_mk (st := s_Calendar_date_of) l_Calendar_date_of c_Calendar_date_of k_Calendar_date_of
  have b_Calendar_date_of := F_Calendar_date_of.binds (ps := ["self", "day"]) fun _ _ _ _ _ _ us hl => match us, hl with | [_, _], _ => rfl
  have F_Ldue := fun_mk (st := s_Ldue) l_Ldue c_Ldue k_Ldue
  have b_Ldue := F_Ldue.binds (ps := ["_law_calendar", "_law_wanted_here", "_law_day"]) fun _ _ _ _ _ _ us hl => match us, hl with | [_, _, _], _ => rfl
  have F_law := fun_mk (st := s_law) l_law c_law k_law
  have b_law := F_law.binds (ps := ["_law_script"]) fun _ _ _ _ _ _ us hl => match us, hl with | [_], _ => rfl
  intro tabs
  obtain ⟨hC, hP, hT⟩ := tabs _ _ tt_counter
  refine ⟨PySem.W.fnOf "law" "law" (defArgs s_law) (defBody s_law) (defScope s_law) .none kV_law dc_law pm_law an_law cd_law ct_law, [(cc_counter, tP_counter)], sp_law K tP_counter, ?_, ?_, ?_, fun s v => .of_eq rfl, fun H a ns hl hb ht hS => ⟨a, ns, rfl, hS, hl, hb, ?_, fun _ => rfl⟩, fun base _ _ tb => ?_⟩
  · intro p hp; cases List.mem_singleton.mp hp; exact hT
  · intro p hp; cases List.mem_singleton.mp hp; exact hP
  · intro p hp; cases List.mem_singleton.mp hp; exact PySem.W.codeHd_of_K X hC
  · exact tabs_nil (ht _ (List.mem_singleton.mpr rfl))
  · have tb_counter := tb _ (List.mem_singleton.mpr rfl)
    exact ok_law (⟨_, _, F_list_of, (PySem.W.mg_of X G a_list_of), b_list_of, _, _, _, _, tb_counter, F_counter, (PySem.W.mg_of X G a_counter), b_counter, _, _, F_Measure_upto, b_Measure_upto, _, _, F_many_fall, (PySem.W.mg_of X G a_many_fall), b_many_fall, _, _, F_is_term, (PySem.W.mg_of X G a_is_term), b_is_term, _, _, F_is_measure, (PySem.W.mg_of X G a_is_measure), b_is_measure, _, _, F_sized, (PySem.W.mg_of X G a_sized), b_sized, _, _, F_divisor, (PySem.W.mg_of X G a_divisor), b_divisor, _, _, F_common, (PySem.W.mg_of X G a_common), b_common, _, _, F_Measure_period, b_Measure_period, _, _, F_Measure_init, _, v_Measure_init_3, b_Measure_init_3, _, _, F_are_months, (PySem.W.mg_of X G a_are_months), b_are_months, _, _, F_Sun_init, _, v_Sun_init_3, b_Sun_init_3, _, v_Sun_init_5, b_Sun_init_5, _, _, F_Lnumber, (PySem.W.mg_of X G a_Lnumber), b_Lnumber, _, _, F_Lcell_at, (PySem.W.mg_of X G a_Lcell_at), b_Lcell_at, _, _, F_Lterm, (PySem.W.mg_of X G a_Lterm), b_Lterm, _, _, F_Lsun, (PySem.W.mg_of X G a_Lsun), b_Lsun, _, _, F_Lwanted, (PySem.W.mg_of X G a_Lwanted), b_Lwanted, _, _, F_Sun_cycle, b_Sun_cycle, _, _, F_Moon_cycle, b_Moon_cycle, _, _, F_allowed, (PySem.W.mg_of X G a_allowed), b_allowed, _, _, F_term_on, (PySem.W.mg_of X G a_term_on), b_term_on, _, _, F_Measure_at, b_Measure_at, _, _, F_Sun_lengths, b_Sun_lengths, _, _, F_Moon_lengths, b_Moon_lengths, _, _, F_mask, (PySem.W.mg_of X G a_mask), b_mask, _, _, F_later, (PySem.W.mg_of X G a_later), b_later, _, _, F_Sun_year_start, b_Sun_year_start, _, _, F_Moon_year_start, b_Moon_year_start, _, _, F_month_bits, (PySem.W.mg_of X G a_month_bits), b_month_bits, _, _, F_year_bits, (PySem.W.mg_of X G a_year_bits), b_year_bits, _, _, F_dated, (PySem.W.mg_of X G a_dated), _, v_dated_1, b_dated_1, _, v_dated_2, b_dated_2, _, v_dated_3, b_dated_3, _, v_dated_5, b_dated_5, _, _, F_Lmade, (PySem.W.mg_of X G a_Lmade), b_Lmade, _, _, F_Moon_init, b_Moon_init, _, _, F_Lmoon, (PySem.W.mg_of X G a_Lmoon), b_Lmoon, _, _, F_Lis_short, (PySem.W.mg_of X G a_Lis_short), b_Lis_short, _, _, F_Lmixed, (PySem.W.mg_of X G a_Lmixed), b_Lmixed, _, _, F_Lany_term, (PySem.W.mg_of X G a_Lany_term), b_Lany_term, _, _, F_Lany_terms, (PySem.W.mg_of X G a_Lany_terms), b_Lany_terms, _, _, F_Lany_measure, (PySem.W.mg_of X G a_Lany_measure), b_Lany_measure, _, _, F_Lany, (PySem.W.mg_of X G a_Lany), b_Lany, _, _, F_Lyears, (PySem.W.mg_of X G a_Lyears), b_Lyears, _, _, F_Lsize, (PySem.W.mg_of X G a_Lsize), b_Lsize, _, _, F_Lstep, (PySem.W.mg_of X G a_Lstep), b_Lstep, _, _, F_NoDate_init, b_NoDate_init, _, _, F_Calendar_day_of, b_Calendar_day_of, _, _, F_Laimed, (PySem.W.mg_of X G a_Laimed), b_Laimed, _, _, F_Lwhole, (PySem.W.mg_of X G a_Lwhole), b_Lwhole, _, _, F_Measure_seek, b_Measure_seek, _, _, F_Sun_year_at, b_Sun_year_at, _, _, F_Moon_year_at, b_Moon_year_at, _, _, F_Calendar_date_of, b_Calendar_date_of, _, _, F_Ldue, (PySem.W.mg_of X G a_Ldue), b_Ldue, _, _, F_law, (PySem.W.mg_of X G a_law), b_law, _, (PySem.W.mg_of X G q_MOST_N), _, (PySem.W.mg_of X G q_MOST_BASE), _, (PySem.W.mg_of X G q_MOST_TERMS), _, (PySem.W.mg_of X G q_MOST_MONTHS), _, (PySem.W.mg_of X G q_MOST_DAYS), _, (PySem.W.mg_of X G q_LIMIT), (PySem.W.mg_none_of X G z_abs), (PySem.W.mg_none_of X G z_all), (PySem.W.mg_none_of X G z_bool), (PySem.W.mg_none_of X G z_divmod), (PySem.W.mg_none_of X G z_enumerate), (PySem.W.mg_none_of X G z_int), (PySem.W.mg_none_of X G z_isinstance), (PySem.W.mg_none_of X G z_len), (PySem.W.mg_none_of X G z_list), (PySem.W.mg_none_of X G z_max), (PySem.W.mg_none_of X G z_min), (PySem.W.mg_none_of X G z_range), (PySem.W.mg_none_of X G z_sum), (PySem.W.mg_none_of X G z_tuple), _, (PySem.W.mg_of X G gc_FeastError), kc_FeastError, bc_FeastError, tc_FeastError, ic_FeastError, sc_FeastError, _, (PySem.W.mg_of X G gc_NoDate), kc_NoDate, bc_NoDate, tc_NoDate, ic_NoDate, sc_NoDate, _, (PySem.W.mg_of X G gc_Measure), cl_Measure, mk_Measure, na_Measure_base, na_Measure_terms, me_Measure_at, me_Measure_upto, me_Measure_period, me_Measure_seek, _, (PySem.W.mg_of X G gc_Sun), cl_Sun, mk_Sun, na_Sun_start, na_Sun_months, na_Sun_leap, na_Sun_years, me_Sun_year_start, me_Sun_lengths, me_Sun_year_at, me_Sun_cycle, me_Sun_date_of, me_Sun_day_of, _, (PySem.W.mg_of X G gc_Moon), cl_Moon, mk_Moon, na_Moon_start, na_Moon_days, na_Moon_many, me_Moon_year_start, me_Moon_lengths, me_Moon_year_at, me_Moon_cycle, me_Moon_date_of, me_Moon_day_of, in_NoDate_init, ti_NoDate_init, xf_NoDate, no_NoDate_date, ⟨⟨_, _, _, _, _, _, _, _, _, _, _, _, _, _, _, xl_NoDate, by first | rfl | decide +kernel⟩, sa_NoDate, bc_NoDate, tc_NoDate, kc_NoDate⟩, cr_FeastError, vi_FeastError⟩ : Txt K mg base)
end FW
open PySem PySem.W PyProof.Rows
set_option pp.maxSteps 300 in
set_option maxRecDepth 100000 in
set_option maxHeartbeats 0 in
theorem PySem.Challenge.cw_feastwheel_k40_days_by_date_holds : PySem.Challenge.rw_feastwheel_k40_days_by_date.Holds := by
  w_on; o_law; k_head; (case hw => w_witness2)
  k_fill
  refine LamX.walk_ofTs (l := PySem.Challenge.rw_feastwheel_k40_days_by_date) (n := 63) (k := 9) (x := "_law_script") (CX := fun _ => L2.CX0) rfl (by decide) rfl ⟨rfl, by decide, by decide⟩ (fun w h Y => PySem.W.km_in_of Y) ?F (fun _ _ _ _ _ h => h)
  case F =>
    intro w mg fa h Y KX G hmg
    refine' FW.all_mk KX G hmg ?gc_FeastError ?gc_NoDate ?gc_Measure ?gc_Sun ?gc_Moon ?in_Measure_upto ?in_Measure_period ?in_Measure_init ?in_Sun_init ?in_Sun_cycle ?in_Moon_cycle ?in_Measure_at ?in_Sun_lengths ?in_Moon_lengths ?in_Sun_year_start ?in_Moon_year_start ?in_Moon_init ?in_Calendar_day_of ?in_Measure_seek ?in_Sun_year_at ?in_Moon_year_at ?in_Calendar_date_of ?in_NoDate_init ?a_list_of ?a_counter ?a_many_fall ?a_is_term ?a_is_measure ?a_sized ?a_divisor ?a_common ?a_are_months ?a_Lnumber ?a_Lcell_at ?a_Lterm ?a_Lsun ?a_Lwanted ?a_allowed ?a_term_on ?a_mask ?a_later ?a_month_bits ?a_year_bits ?a_dated ?a_Lmade ?a_Lmoon ?a_Lis_short ?a_Lmixed ?a_Lany_term ?a_Lany_terms ?a_Lany_measure ?a_Lany ?a_Lyears ?a_Lsize ?a_Lstep ?a_Laimed ?a_Lwhole ?a_Ldue ?a_law ?l_list_of ?l_counter ?l_Measure_upto ?l_many_fall ?l_is_term ?l_is_measure ?l_sized ?l_divisor ?l_common ?l_Measure_period ?l_Measure_init ?l_are_months ?l_Sun_init ?l_Lnumber ?l_Lcell_at ?l_Lterm ?l_Lsun ?l_Lwanted ?l_Sun_cycle ?l_Moon_cycle ?l_allowed ?l_term_on ?l_Measure_at ?l_Sun_lengths ?l_Moon_lengths ?l_mask ?l_later ?l_Sun_year_start ?l_Moon_year_start ?l_month_bits ?l_year_bits ?l_dated ?l_Lmade ?l_Moon_init ?l_Lmoon ?l_Lis_short ?l_Lmixed ?l_Lany_term ?l_Lany_terms ?l_Lany_measure ?l_Lany ?l_Lyears ?l_Lsize ?l_Lstep ?l_NoDate_init ?l_Calendar_day_of ?l_Laimed ?l_Lwhole ?l_Measure_seek ?l_Sun_year_at ?l_Moon_year_at ?l_Calendar_date_of ?l_Ldue ?l_law ?dl_Measure_init ?dl_Sun_init ?dl_dated ?dd_Measure_init ?dd_Sun_init ?dd_dated ?c_list_of ?k_list_of ?tt_counter ?c_counter ?k_counter ?c_Measure_upto ?k_Measure_upto ?c_many_fall ?k_many_fall ?c_is_term ?k_is_term ?c_is_measure ?k_is_measure ?c_sized ?k_sized ?c_divisor ?k_divisor ?c_common ?k_common ?c_Measure_period ?k_Measure_period ?dv_Measure_init ?c_Measure_init ?k_Measure_init ?c_are_months ?k_are_months ?dv_Sun_init ?c_Sun_init ?k_Sun_init ?c_Lnumber ?k_Lnumber ?c_Lcell_at ?k_Lcell_at ?c_Lterm ?k_Lterm ?c_Lsun ?k_Lsun ?c_Lwanted ?k_Lwanted ?c_Sun_cycle ?k_Sun_cycle ?c_Moon_cycle ?k_Moon_cycle ?c_allowed ?k_allowed ?c_term_on ?k_term_on ?c_Measure_at ?k_Measure_at ?c_Sun_lengths ?k_Sun_lengths ?c_Moon_lengths ?k_Moon_lengths ?c_mask ?k_mask ?c_later ?k_later ?c_Sun_year_start ?k_Sun_year_start ?c_Moon_year_start ?k_Moon_year_start ?c_month_bits ?k_month_bits ?c_year_bits ?k_year_bits ?dv_dated ?c_dated ?k_dated ?c_Lmade ?k_Lmade ?c_Moon_init ?k_Moon_init ?c_Lmoon ?k_Lmoon ?c_Lis_short ?k_Lis_short ?c_Lmixed ?k_Lmixed ?c_Lany_term ?k_Lany_term ?c_Lany_terms ?k_Lany_terms ?c_Lany_measure ?k_Lany_measure ?c_Lany ?k_Lany ?c_Lyears ?k_Lyears ?c_Lsize ?k_Lsize ?c_Lstep ?k_Lstep ?c_NoDate_init ?k_NoDate_init ?c_Calendar_day_of ?k_Calendar_day_of ?c_Laimed ?k_Laimed ?c_Lwhole ?k_Lwhole ?c_Measure_seek ?k_Measure_seek ?c_Sun_year_at ?k_Sun_year_at ?c_Moon_year_at ?k_Moon_year_at ?c_Calendar_date_of ?k_Calendar_date_of ?c_Ldue ?k_Ldue ?c_law ?k_law ?q_MOST_N ?q_MOST_BASE ?q_MOST_TERMS ?q_MOST_MONTHS ?q_MOST_DAYS ?q_LIMIT ?z_abs ?z_all ?z_bool ?z_divmod ?z_enumerate ?z_int ?z_isinstance ?z_len ?z_list ?z_max ?z_min ?z_range ?z_sum ?z_tuple ?kc_FeastError ?bc_FeastError ?tc_FeastError ?ic_FeastError ?sc_FeastError ?kc_NoDate ?bc_NoDate ?tc_NoDate ?ic_NoDate ?sc_NoDate ?xl_NoDate ?sa_NoDate ?cl_Measure ?mk_Measure ?na_Measure_base ?na_Measure_terms ?me_Measure_at ?me_Measure_upto ?me_Measure_period ?me_Measure_seek ?cl_Sun ?mk_Sun ?na_Sun_start ?na_Sun_months ?na_Sun_leap ?na_Sun_years ?me_Sun_year_start ?me_Sun_lengths ?me_Sun_year_at ?me_Sun_cycle ?me_Sun_date_of ?me_Sun_day_of ?cl_Moon ?mk_Moon ?na_Moon_start ?na_Moon_days ?na_Moon_many ?me_Moon_year_start ?me_Moon_lengths ?me_Moon_year_at ?me_Moon_cycle ?me_Moon_date_of ?me_Moon_day_of ?ti_NoDate_init ?xf_NoDate ?no_NoDate_date ?cr_FeastError ?vi_FeastError ?tabs
    (case tabs => intro c P e; have e2 := PySem.W.km_tabs_of Y; exact FW.tabs_of e2 e (by kernel_rfl))
    (case gc_FeastError => first | k_is | rfl)
    (case gc_NoDate => first | k_is | rfl)
    (case gc_Measure => first | k_is | rfl)
    (case gc_Sun => first | k_is | rfl)
    (case gc_Moon => first | k_is | rfl)
    (case in_Measure_upto => first | k_is | rfl)
    (case in_Measure_period => first | k_is | rfl)
    (case in_Measure_init => first | k_is | rfl)
    (case in_Sun_init => first | k_is | rfl)
    (case in_Sun_cycle => first | k_is | rfl)
    (case in_Moon_cycle => first | k_is | rfl)
    (case in_Measure_at => first | k_is | rfl)
    (case in_Sun_lengths => first | k_is | rfl)
    (case in_Moon_lengths => first | k_is | rfl)
    (case in_Sun_year_start => first | k_is | rfl)
    (case in_Moon_year_start => first | k_is | rfl)
    (case in_Moon_init => first | k_is | rfl)
    (case in_Calendar_day_of => first | k_is | rfl)
    (case in_Measure_seek => first | k_is | rfl)
    (case in_Sun_year_at => first | k_is | rfl)
    (case in_Moon_year_at => first | k_is | rfl)
    (case in_Calendar_date_of => first | k_is | rfl)
    (case in_NoDate_init => first | k_is | rfl)
    (case a_list_of => first | k_is | rfl)
    (case a_counter => first | k_is | rfl)
    (case a_many_fall => first | k_is | rfl)
    (case a_is_term => first | k_is | rfl)
    (case a_is_measure => first | k_is | rfl)
    (case a_sized => first | k_is | rfl)
    (case a_divisor => first | k_is | rfl)
    (case a_common => first | k_is | rfl)
    (case a_are_months => first | k_is | rfl)
    (case a_Lnumber => first | k_is | rfl)
    (case a_Lcell_at => first | k_is | rfl)
    (case a_Lterm => first | k_is | rfl)
    (case a_Lsun => first | k_is | rfl)
    (case a_Lwanted => first | k_is | rfl)
    (case a_allowed => first | k_is | rfl)
    (case a_term_on => first | k_is | rfl)
    (case a_mask => first | k_is | rfl)
    (case a_later => first | k_is | rfl)
    (case a_month_bits => first | k_is | rfl)
    (case a_year_bits => first | k_is | rfl)
    (case a_dated => first | k_is | rfl)
    (case a_Lmade => first | k_is | rfl)
    (case a_Lmoon => first | k_is | rfl)
    (case a_Lis_short => first | k_is | rfl)
    (case a_Lmixed => first | k_is | rfl)
    (case a_Lany_term => first | k_is | rfl)
    (case a_Lany_terms => first | k_is | rfl)
    (case a_Lany_measure => first | k_is | rfl)
    (case a_Lany => first | k_is | rfl)
    (case a_Lyears => first | k_is | rfl)
    (case a_Lsize => first | k_is | rfl)
    (case a_Lstep => first | k_is | rfl)
    (case a_Laimed => first | k_is | rfl)
    (case a_Lwhole => first | k_is | rfl)
    (case a_Ldue => first | k_is | rfl)
    (case a_law => first | k_is | rfl)
    (case l_list_of => first | k_is | rfl)
    (case l_counter => first | k_is | rfl)
    (case l_Measure_upto => first | k_is | rfl)
    (case l_many_fall => first | k_is | rfl)
    (case l_is_term => first | k_is | rfl)
    (case l_is_measure => first | k_is | rfl)
    (case l_sized => first | k_is | rfl)
    (case l_divisor => first | k_is | rfl)
    (case l_common => first | k_is | rfl)
    (case l_Measure_period => first | k_is | rfl)
    (case l_Measure_init => first | k_is | rfl)
    (case l_are_months => first | k_is | rfl)
    (case l_Sun_init => first | k_is | rfl)
    (case l_Lnumber => first | k_is | rfl)
    (case l_Lcell_at => first | k_is | rfl)
    (case l_Lterm => first | k_is | rfl)
    (case l_Lsun => first | k_is | rfl)
    (case l_Lwanted => first | k_is | rfl)
    (case l_Sun_cycle => first | k_is | rfl)
    (case l_Moon_cycle => first | k_is | rfl)
    (case l_allowed => first | k_is | rfl)
    (case l_term_on => first | k_is | rfl)
    (case l_Measure_at => first | k_is | rfl)
    (case l_Sun_lengths => first | k_is | rfl)
    (case l_Moon_lengths => first | k_is | rfl)
    (case l_mask => first | k_is | rfl)
    (case l_later => first | k_is | rfl)
    (case l_Sun_year_start => first | k_is | rfl)
    (case l_Moon_year_start => first | k_is | rfl)
    (case l_month_bits => first | k_is | rfl)
    (case l_year_bits => first | k_is | rfl)
    (case l_dated => first | k_is | rfl)
    (case l_Lmade => first | k_is | rfl)
    (case l_Moon_init => first | k_is | rfl)
    (case l_Lmoon => first | k_is | rfl)
    (case l_Lis_short => first | k_is | rfl)
    (case l_Lmixed => first | k_is | rfl)
    (case l_Lany_term => first | k_is | rfl)
    (case l_Lany_terms => first | k_is | rfl)
    (case l_Lany_measure => first | k_is | rfl)
    (case l_Lany => first | k_is | rfl)
    (case l_Lyears => first | k_is | rfl)
    (case l_Lsize => first | k_is | rfl)
    (case l_Lstep => first | k_is | rfl)
    (case l_NoDate_init => first | k_is | rfl)
    (case l_Calendar_day_of => first | k_is | rfl)
    (case l_Laimed => first | k_is | rfl)
    (case l_Lwhole => first | k_is | rfl)
    (case l_Measure_seek => first | k_is | rfl)
    (case l_Sun_year_at => first | k_is | rfl)
    (case l_Moon_year_at => first | k_is | rfl)
    (case l_Calendar_date_of => first | k_is | rfl)
    (case l_Ldue => first | k_is | rfl)
    (case l_law => first | k_is | rfl)
    (case dl_Measure_init => first | k_is | rfl)
    (case dl_Sun_init => first | k_is | rfl)
    (case dl_dated => first | k_is | rfl)
    (case dd_Measure_init => first | rfl | (repeat (first | exact .nil | refine .cons (by first | rfl | exact ⟨_, rfl⟩) ?_)))
    (case dd_Sun_init => first | rfl | (repeat (first | exact .nil | refine .cons (by first | rfl | exact ⟨_, rfl⟩) ?_)))
    (case dd_dated => first | rfl | (repeat (first | exact .nil | refine .cons (by first | rfl | exact ⟨_, rfl⟩) ?_)))
    (case c_list_of => first | k_is | rfl)
    (case k_list_of => first | k_is | rfl)
    (case tt_counter => first | k_is | rfl)
    (case c_counter => first | k_is | rfl)
    (case k_counter => first | k_is | rfl)
    (case c_Measure_upto => first | k_is | rfl)
    (case k_Measure_upto => first | k_is | rfl)
    (case c_many_fall => first | k_is | rfl)
    (case k_many_fall => first | k_is | rfl)
    (case c_is_term => first | k_is | rfl)
    (case k_is_term => first | k_is | rfl)
    (case c_is_measure => first | k_is | rfl)
    (case k_is_measure => first | k_is | rfl)
    (case c_sized => first | k_is | rfl)
    (case k_sized => first | k_is | rfl)
    (case c_divisor => first | k_is | rfl)
    (case k_divisor => first | k_is | rfl)
    (case c_common => first | k_is | rfl)
    (case k_common => first | k_is | rfl)
    (case c_Measure_period => first | k_is | rfl)
    (case k_Measure_period => first | k_is | rfl)
    (case dv_Measure_init => first | rfl | (repeat (first | exact .nil | refine .cons (by first | rfl | exact ⟨_, rfl⟩) ?_)))
    (case c_Measure_init => first | k_is | rfl)
    (case k_Measure_init => first | k_is | rfl)
    (case c_are_months => first | k_is | rfl)
    (case k_are_months => first | k_is | rfl)
    (case dv_Sun_init => first | rfl | (repeat (first | exact .nil | refine .cons (by first | rfl | exact ⟨_, rfl⟩) ?_)))
    (case c_Sun_init => first | k_is | rfl)
    (case k_Sun_init => first | k_is | rfl)
    (case c_Lnumber => first | k_is | rfl)
    (case k_Lnumber => first | k_is | rfl)
    (case c_Lcell_at => first | k_is | rfl)
    (case k_Lcell_at => first | k_is | rfl)
    (case c_Lterm => first | k_is | rfl)
    (case k_Lterm => first | k_is | rfl)
    (case c_Lsun => first | k_is | rfl)
    (case k_Lsun => first | k_is | rfl)
    (case c_Lwanted => first | k_is | rfl)
    (case k_Lwanted => first | k_is | rfl)
    (case c_Sun_cycle => first | k_is | rfl)
    (case k_Sun_cycle => first | k_is | rfl)
    (case c_Moon_cycle => first | k_is | rfl)
    (case k_Moon_cycle => first | k_is | rfl)
    (case c_allowed => first | k_is | rfl)
    (case k_allowed => first | k_is | rfl)
    (case c_term_on => first | k_is | rfl)
    (case k_term_on => first | k_is | rfl)
    (case c_Measure_at => first | k_is | rfl)
    (case k_Measure_at => first | k_is | rfl)
    (case c_Sun_lengths => first | k_is | rfl)
    (case k_Sun_lengths => first | k_is | rfl)
    (case c_Moon_lengths => first | k_is | rfl)
    (case k_Moon_lengths => first | k_is | rfl)
    (case c_mask => first | k_is | rfl)
    (case k_mask => first | k_is | rfl)
    (case c_later => first | k_is | rfl)
    (case k_later => first | k_is | rfl)
    (case c_Sun_year_start => first | k_is | rfl)
    (case k_Sun_year_start => first | k_is | rfl)
    (case c_Moon_year_start => first | k_is | rfl)
    (case k_Moon_year_start => first | k_is | rfl)
    (case c_month_bits => first | k_is | rfl)
    (case k_month_bits => first | k_is | rfl)
    (case c_year_bits => first | k_is | rfl)
    (case k_year_bits => first | k_is | rfl)
    (case dv_dated => first | rfl | (repeat (first | exact .nil | refine .cons (by first | rfl | exact ⟨_, rfl⟩) ?_)))
    (case c_dated => first | k_is | rfl)
    (case k_dated => first | k_is | rfl)
    (case c_Lmade => first | k_is | rfl)
    (case k_Lmade => first | k_is | rfl)
    (case c_Moon_init => first | k_is | rfl)
    (case k_Moon_init => first | k_is | rfl)
    (case c_Lmoon => first | k_is | rfl)
    (case k_Lmoon => first | k_is | rfl)
    (case c_Lis_short => first | k_is | rfl)
    (case k_Lis_short => first | k_is | rfl)
    (case c_Lmixed => first | k_is | rfl)
    (case k_Lmixed => first | k_is | rfl)
    (case c_Lany_term => first | k_is | rfl)
    (case k_Lany_term => first | k_is | rfl)
    (case c_Lany_terms => first | k_is | rfl)
    (case k_Lany_terms => first | k_is | rfl)
    (case c_Lany_measure => first | k_is | rfl)
    (case k_Lany_measure => first | k_is | rfl)
    (case c_Lany => first | k_is | rfl)
    (case k_Lany => first | k_is | rfl)
    (case c_Lyears => first | k_is | rfl)
    (case k_Lyears => first | k_is | rfl)
    (case c_Lsize => first | k_is | rfl)
    (case k_Lsize => first | k_is | rfl)
    (case c_Lstep => first | k_is | rfl)
    (case k_Lstep => first | k_is | rfl)
    (case c_NoDate_init => first | k_is | rfl)
    (case k_NoDate_init => first | k_is | rfl)
    (case c_Calendar_day_of => first | k_is | rfl)
    (case k_Calendar_day_of => first | k_is | rfl)
    (case c_Laimed => first | k_is | rfl)
    (case k_Laimed => first | k_is | rfl)
    (case c_Lwhole => first | k_is | rfl)
    (case k_Lwhole => first | k_is | rfl)
    (case c_Measure_seek => first | k_is | rfl)
    (case k_Measure_seek => first | k_is | rfl)
    (case c_Sun_year_at => first | k_is | rfl)
    (case k_Sun_year_at => first | k_is | rfl)
    (case c_Moon_year_at => first | k_is | rfl)
    (case k_Moon_year_at => first | k_is | rfl)
    (case c_Calendar_date_of => first | k_is | rfl)
    (case k_Calendar_date_of => first | k_is | rfl)
    (case c_Ldue => first | k_is | rfl)
    (case k_Ldue => first | k_is | rfl)
    (case c_law => first | k_is | rfl)
    (case k_law => first | k_is | rfl)
    (case q_MOST_N => first | k_is | rfl)
    (case q_MOST_BASE => first | k_is | rfl)
    (case q_MOST_TERMS => first | k_is | rfl)
    (case q_MOST_MONTHS => first | k_is | rfl)
    (case q_MOST_DAYS => first | k_is | rfl)
    (case q_LIMIT => first | k_is | rfl)
    (case z_abs => first | k_is | rfl)
    (case z_all => first | k_is | rfl)
    (case z_bool => first | k_is | rfl)
    (case z_divmod => first | k_is | rfl)
    (case z_enumerate => first | k_is | rfl)
    (case z_int => first | k_is | rfl)
    (case z_isinstance => first | k_is | rfl)
    (case z_len => first | k_is | rfl)
    (case z_list => first | k_is | rfl)
    (case z_max => first | k_is | rfl)
    (case z_min => first | k_is | rfl)
    (case z_range => first | k_is | rfl)
    (case z_sum => first | k_is | rfl)
    (case z_tuple => first | k_is | rfl)
    (case kc_FeastError => first | k_is | rfl)
    (case bc_FeastError => first | k_is | rfl)
    (case tc_FeastError => first | k_is | rfl)
    (case ic_FeastError => first | k_is | rfl)
    (case sc_FeastError => first | k_is | rfl)
    (case kc_NoDate => first | k_is | rfl)
    (case bc_NoDate => first | k_is | rfl)
    (case tc_NoDate => first | k_is | rfl)
    (case ic_NoDate => first | k_is | rfl)
    (case sc_NoDate => first | k_is | rfl)
    (case xl_NoDate => first | k_is | rfl)
    (case sa_NoDate => first | k_is | rfl)
    (case cl_Measure => constructor <;> first | k_is | rfl)
    (case mk_Measure => constructor <;> first | k_is | rfl)
    (case na_Measure_base => first | k_is | rfl)
    (case na_Measure_terms => first | k_is | rfl)
    (case me_Measure_at => constructor <;> first | k_is | rfl)
    (case me_Measure_upto => constructor <;> first | k_is | rfl)
    (case me_Measure_period => constructor <;> first | k_is | rfl)
    (case me_Measure_seek => constructor <;> first | k_is | rfl)
    (case cl_Sun => constructor <;> first | k_is | rfl)
    (case mk_Sun => constructor <;> first | k_is | rfl)
    (case na_Sun_start => first | k_is | rfl)
    (case na_Sun_months => first | k_is | rfl)
    (case na_Sun_leap => first | k_is | rfl)
    (case na_Sun_years => first | k_is | rfl)
    (case me_Sun_year_start => constructor <;> first | k_is | rfl)
    (case me_Sun_lengths => constructor <;> first | k_is | rfl)
    (case me_Sun_year_at => constructor <;> first | k_is | rfl)
    (case me_Sun_cycle => constructor <;> first | k_is | rfl)
    (case me_Sun_date_of => constructor <;> first | k_is | rfl)
    (case me_Sun_day_of => constructor <;> first | k_is | rfl)
    (case cl_Moon => constructor <;> first | k_is | rfl)
    (case mk_Moon => constructor <;> first | k_is | rfl)
    (case na_Moon_start => first | k_is | rfl)
    (case na_Moon_days => first | k_is | rfl)
    (case na_Moon_many => first | k_is | rfl)
    (case me_Moon_year_start => constructor <;> first | k_is | rfl)
    (case me_Moon_lengths => constructor <;> first | k_is | rfl)
    (case me_Moon_year_at => constructor <;> first | k_is | rfl)
    (case me_Moon_cycle => constructor <;> first | k_is | rfl)
    (case me_Moon_date_of => constructor <;> first | k_is | rfl)
    (case me_Moon_day_of => constructor <;> first | k_is | rfl)
    (case ti_NoDate_init => first | k_is | rfl)
    (case xf_NoDate => constructor <;> first | k_is | rfl)
    (case no_NoDate_date => first | k_is | rfl)
    (case cr_FeastError => constructor <;> first | k_is | rfl)
    (case vi_FeastError => first | k_is | rfl)
