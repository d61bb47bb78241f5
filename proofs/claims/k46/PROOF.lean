import PyProof.Rows.All
import Wide.All
import OpenK.AllK
import Wide.FinOn
import HandS.ForMost
import HandS.Exc
import HandS.Wide
import HandS.WideBits
import HandS.IsInst
import HandS.Flow
import HandS.EndBits
import HandS.Conv
import HandS.Nested
import HandS.EndTab
import KE.KNestM
import HandS.Defaults
import HandS.ExcIs
import HandS.ExcField
import HandS.TryMany
import KE.KExcIs
import HandS.HotCalls
import HandS.ForExc
import HandS.ExcInit
import HandS.ClsMeth
import HandS.CallSlots
import HandS.ExcOwn
import HandS.TupLe
import PySem.Challenge.RW_feastwheel_k46_a_change_of_years
set_option Elab.async false
set_option linter.all false
set_option maxRecDepth 100000
set_option maxHeartbeats 4000000
namespace FW
open PySem PySem.Spec PyProof.Rows L2
/-! ### heaps -/
theorem same_t {K : PySem.W.Frag} {H H' : Hp} {a : Addr} {xs : List V} (e : Same H H') (h : SqT K H a xs) : SqT K H' a xs := by
  rcases h with (h | ⟨o, h⟩) | h
  · exact .inl (.inl (e _ _ h))
  · exact .inl (.inr ⟨o, e _ _ h⟩)
  · exact .inr h
theorem same_l {K : PySem.W.Frag} {H H' : Hp} {a : Addr} {xs : List V} (e : Same H H') (h : SqL K H a xs) : SqL K H' a xs := e.seq h
theorem same_at {H H' : Hp} {a : Addr} {o : HO} (e : Same H H') (h : H a = some o) : H' a = some o := e _ _ h
theorem same_new {H : Hp} {p : Addr} {o : HO} (h : H p = none) : Same H (upd H p o) := fun b x e => by
  rw [upd_ne (ne_of_none e h)]
  exact e
theorem same_mut {H H' : Hp} {p : Addr} {o : HO} (e : Same H H') (h : H p = none) : Same H (upd H' p o) := fun a u ha => by
  rw [upd_ne (ne_of_none ha h)]
  exact e a u ha
section
variable {K : PySem.W.Frag} {σ : L2.St} {H H1 : Hp} {Q : VK} {D : Ends} {i : Nat} {v x y : V} {ta tb tc te : TE} {t u : TT} {tr : TA} {m n : Int} {a b : Int} {r r' : R2}
/-! ### steps: expressions -/
theorem k_var (h : σ[i]? = some (some v)) (q : Q v H) : tVar i σ H Q := ⟨v, h, q⟩
theorem k_c (q : Q v H) : tC v σ H Q := q
theorem k_op (h : ta σ H fun x H1 => tb σ H1 fun y H2 => r x y H2 Q) : tOp r ta tb σ H Q := h
theorem k_un {r : V → Hp → VK → Prop} (h : ta σ H fun x H1 => r x H1 Q) : tUn r ta σ H Q := h
theorem k_I0 {g : Int → Int → V} (q : Q (g a b) H) : rI0 g (.int a) (.int b) H Q := ⟨a, b, rfl, rfl, q⟩
theorem k_I {C : Int → Int → Prop} {g : Int → Int → V} (c : C a b) (q : Q (g a b) H) : rI C g (.int a) (.int b) H Q := ⟨a, b, rfl, rfl, c, q⟩
theorem k_U {g : Int → V} (q : Q (g a) H) : rU g (.int a) H Q := ⟨a, rfl, q⟩
theorem k_nil {Q : List V → Hp → Prop} (q : Q [] H) : tNil σ H Q := q
theorem k_cons {Q : List V → Hp → Prop} (h : ta σ H fun x H1 => tr σ H1 fun xs H2 => Q (x :: xs) H2) : tCons ta tr σ H Q := h
theorem k_cb {r : List V → Hp → VK → Prop} (h : tr σ H fun vs H1 => r vs H1 Q) : tCB r tr σ H Q := h
theorem k_call {sp : Sp} {E : XK} (h : tr σ H fun vs H1 => sp vs H1 Q E) : tCall sp [] E tr σ H Q := by
  show tr σ H fun vs H1 => sp (vs ++ []) H1 Q E
  simp only [List.append_nil]
  exact h
def NewT (xs : List V) (H : Hp) (Q : VK) : Prop := xs.length ≤ sizeLine ∧ ∀ p, H p = none → Q (.ref p) (upd H p (.tup xs))
def NewL (xs : List V) (H : Hp) (Q : VK) : Prop := xs.length ≤ sizeLine ∧ ∀ p, H p = none → Q (.ref p) (upd H p (.lst xs))
theorem k_tup (h : tr σ H fun xs H1 => NewT xs H1 Q) : tTup tr σ H Q := h
theorem k_lst (h : tr σ H fun xs H1 => NewL xs H1 Q) : tLst tr σ H Q := h
theorem k_newtup {xs : List V} (hl : xs.length ≤ 1000) (h : ∀ p H2, H p = none → Same H H2 → H2 p = some (.tup xs) → Q (.ref p) H2) : NewT xs H Q :=
  ⟨Nat.le_trans hl (by decide), fun p hp => h p _ hp (same_new hp) upd_same⟩
theorem k_newlst {xs : List V} (hl : xs.length ≤ 1000) (h : ∀ p H2, H p = none → Same H H2 → H2 p = some (.lst xs) → Q (.ref p) H2) : NewL xs H Q :=
  ⟨Nat.le_trans hl (by decide), fun p hp => h p _ hp (same_new hp) upd_same⟩
theorem k_ifx {Q : VK} (h : t σ H fun c H1 => if c = true then ta σ H1 Q else tb σ H1 Q) : tIf t ta tb σ H Q := h
theorem k_andV (h : ta σ H fun x H1 => ∃ c, x = .bl c ∧ if c = true then tb σ H1 Q else Q (.bl false) H1) : tAndV ta tb σ H Q := h
theorem k_orV (h : ta σ H fun x H1 => ∃ c, x = .bl c ∧ if c = true then Q (.bl true) H1 else tb σ H1 Q) : tOrV ta tb σ H Q := h
theorem k_notV (h : ta σ H fun x H1 => ∃ c, x = .bl c ∧ Q (.bl (!c)) H1) : tNotV ta σ H Q := h
theorem k_chain (h : ta σ H fun x H1 => tb σ H1 fun y H2 => r x y H2 fun z H3 => ∃ k, z = .bl k ∧ (if k = true then tc σ H3 fun w' H4 => r' y w' H4 Q else Q (.bl false) H3)) : tChain r r' ta tb tc σ H Q := h
theorem k_and2 {i j : Nat} {x y : Bool} (h1 : σ[i]? = some (some (.bl x))) (h2 : σ[j]? = some (some (.bl y))) (q : Q (.bl (x && y)) H) : tAndV (tVar i) (tVar j) σ H Q :=
  ⟨_, h1, x, rfl, by cases x with
    | true => rw [if_pos rfl]; exact ⟨_, h2, q⟩
    | false => rw [if_neg Bool.false_ne_true]; exact q⟩
theorem k_or2 {i j : Nat} {x y : Bool} (h1 : σ[i]? = some (some (.bl x))) (h2 : σ[j]? = some (some (.bl y))) (q : Q (.bl (x || y)) H) : tOrV (tVar i) (tVar j) σ H Q :=
  ⟨_, h1, x, rfl, by cases x with
    | true => rw [if_pos rfl]; exact q
    | false => rw [if_neg Bool.false_ne_true]; exact ⟨_, h2, q⟩⟩
theorem k_andn2 {i j : Nat} {x y : Bool} (h1 : σ[i]? = some (some (.bl x))) (h2 : σ[j]? = some (some (.bl y))) (q : Q (.bl (x && !y)) H) : tAndV (tVar i) (tNotV (tVar j)) σ H Q :=
  ⟨_, h1, x, rfl, by cases x with
    | true => rw [if_pos rfl]; exact ⟨_, h2, _, rfl, q⟩
    | false => rw [if_neg Bool.false_ne_true]; exact q⟩
/-- a truth value told -/
theorem k_bl {p : Bool → Prop} {c : Bool} (h : p c) : ∃ k, V.bl c = .bl k ∧ p k := ⟨c, rfl, h⟩
/-! ### steps: tests -/
theorem k_test {Q : Bool → Hp → Prop} (h : ta σ H fun x H' => ∃ k, x = .bl k ∧ Q k H') : tTest ta σ H Q := h
theorem k_B {Q : Bool → Hp → Prop} (h : ta σ H fun x H' => ∃ k, x = .bl k ∧ Q k H') : tB ta σ H Q := h
theorem k_and {Q : Bool → Hp → Prop} (h : t σ H fun c H1 => if c = true then u σ H1 Q else Q false H1) : tAnd t u σ H Q := h
theorem k_or {Q : Bool → Hp → Prop} (h : t σ H fun c H1 => if c = true then Q true H1 else u σ H1 Q) : tOr t u σ H Q := h
theorem k_not {Q : Bool → Hp → Prop} (h : t σ H fun c H1 => Q (!c) H1) : tNot t σ H Q := h
/-! ### branches -/
theorem if_dec {p A B : Prop} [Decidable p] (h1 : p → A) (h2 : ¬ p → B) : if decide p = true then A else B := by
  by_cases h : p
  · rw [if_pos (decide_eq_true h)]; exact h1 h
  · rw [if_neg (by rw [decide_eq_false h]; decide)]; exact h2 h
theorem if_ndec {p A B : Prop} [Decidable p] (h1 : ¬ p → A) (h2 : p → B) : if (!decide p) = true then A else B := by
  by_cases h : p
  · rw [if_neg (by rw [decide_eq_true h]; decide)]; exact h2 h
  · rw [if_pos (by rw [decide_eq_false h]; rfl)]; exact h1 h
theorem if_b {c : Bool} {A B : Prop} (h1 : c = true → A) (h2 : c = false → B) : if c = true then A else B := by
  cases c with
  | true => rw [if_pos rfl]; exact h1 rfl
  | false => rw [if_neg Bool.false_ne_true]; exact h2 rfl
theorem if_t {A B : Prop} (h : A) : if true = true then A else B := iteT h
theorem if_f {A B : Prop} (h : B) : if false = true then A else B := iteF h
theorem if_nt {A B : Prop} (h : A) : if (!false) = true then A else B := iteT h
theorem if_nf {A B : Prop} (h : B) : if (!true) = true then A else B := iteF h
theorem fin_t {c : Bool} (hc : c = true) (q : Q (.bl true) H) : Q (.bl c) H := by rw [hc]; exact q
/-! ### steps: statements -/
theorem k_seq {t u : TS} (h : t { D with nx := u D } σ H) : tSeq t u D σ H := h
theorem k_seqA {g : TG} {u : TS} (h : tAsg te g { D with nx := u D } σ H) : tSeq (tAsg te g) u D σ H := h
theorem k_seqD {u : TS} (h : tDrop te { D with nx := u D } σ H) : tSeq (tDrop te) u D σ H := h
theorem k_seqP {i j : Nat} {u : TS} (h : tPar i j tr { D with nx := u D } σ H) : tSeq (tPar i j tr) u D σ H := h
theorem k_seqI {t u : TS} {c : TT} {w : TS} (h : c σ H fun b H1 => if b = true then t { D with nx := w D } σ H1 else u { D with nx := w D } σ H1) : tSeq (tIfS c t u) w D σ H := h
theorem k_nx {f : L2.St → Hp → Prop} {r : VK} {b c : L2.St → Hp → Prop} (h : f σ H) : Ends.nx ⟨f, r, b, c⟩ σ H := h
theorem k_rt {f : L2.St → Hp → Prop} {r : VK} {b c : L2.St → Hp → Prop} (h : r v H) : Ends.rt ⟨f, r, b, c⟩ v H := h
theorem k_next (h : D.nx σ H) : tNext D σ H := h
theorem k_asg {i : Nat} (h : te σ H fun x H1 => D.nx (σ.set i (some x)) H1) : tAsg te (gName i) D σ H := h
theorem k_asgG {g : TG} (h : te σ H fun x H1 => g x σ H1 D.nx) : tAsg te g D σ H := h
theorem k_gname {Q : L2.St → Hp → Prop} (h : Q (σ.set i (some v)) H) : gName i v σ H Q := h
theorem k_gtup {tg : TGs} {n : Nat} {p : Addr} {xs : List V} {Q : L2.St → Hp → Prop} (h : SqT K H p xs) (hl : xs.length = n) (q : tg xs σ H Q) : gTup K n tg (.ref p) σ H Q := ⟨p, xs, rfl, h, hl, q⟩
theorem k_gcons {tg : TG} {ug : TGs} {vs : List V} {Q : L2.St → Hp → Prop} (q : tg v σ H fun σ' H' => ug vs σ' H' Q) : gCons tg ug (v :: vs) σ H Q := ⟨v, vs, rfl, q⟩
theorem k_gnil {Q : L2.St → Hp → Prop} (q : Q σ H) : gNil [] σ H Q := ⟨rfl, q⟩
theorem k_par {i j : Nat} (h : tr σ H fun vs H1 => ∃ v w, vs = [v, w] ∧ D.nx ((σ.set i (some v)).set j (some w)) H1) : tPar i j tr D σ H := h
theorem k_par2 {P : V → V → Prop} {x y : V} (h : P x y) : ∃ v w, [x, y] = [v, w] ∧ P v w := ⟨x, y, rfl, h⟩
theorem k_drop (h : te σ H fun _ H1 => D.nx σ H1) : tDrop te D σ H := h
theorem k_ret (h : te σ H D.rt) : tRet te D σ H := h
theorem k_retN (h : D.rt .non H) : tRetN D σ H := h
theorem k_if {t u : TS} {c : TT} (h : c σ H fun b H1 => if b = true then t D σ H1 else u D σ H1) : tIfS c t u D σ H := h
theorem k_cutI {t u w : TS} {c : TT} (P : L2.St → Hp → Prop) (h1 : ∀ N : L2.St → Hp → Prop, (∀ σ' H', P σ' H' → N σ' H') → c σ H fun b H1 => if b = true then t { D with nx := N } σ H1 else u { D with nx := N } σ H1) (h2 : ∀ σ' H', P σ' H' → w D σ' H') : tSeq (tIfS c t u) w D σ H := h1 _ h2
/-- the ways of a statement meet again: what holds behind it -/
theorem k_cut {t u : TS} (P : L2.St → Hp → Prop) (h1 : ∀ N : L2.St → Hp → Prop, (∀ σ' H', P σ' H' → N σ' H') → t { D with nx := N } σ H) (h2 : ∀ σ' H', P σ' H' → u D σ' H') : tSeq t u D σ H := h1 _ h2
/-! ### loops -/
theorem k_seqW {t : TT} {tb u : TS} (h : tWhile t tb { D with nx := u D } σ H) : tSeq (tWhile t tb) u D σ H := h
theorem k_seqF {wi : TI} {g : TG} {tb u : TS} (h : tFor wi g tb { D with nx := u D } σ H) : tSeq (tFor wi g tb) u D σ H := h
theorem k_while {t : TT} {tb : TS} (W : Nat → L2.St → Hp → Prop) (m : Nat) (h0 : W m σ H) (hs : ∀ m σ H, W m σ H → t σ H fun b H1 => if b = true then ∃ N : L2.St → Hp → Prop, (∀ σ' H', N σ' H' → ∃ m', m' < m ∧ W m' σ' H') ∧ tb { D with nx := N, ct := N, bk := D.nx } σ H1 else D.nx σ H1) : tWhile t tb D σ H := ⟨W, ⟨m, h0⟩, hs⟩
theorem k_turn {tb : TS} {W : Nat → L2.St → Hp → Prop} {m : Nat} (h : tb { D with nx := fun σ' H' => ∃ m', m' < m ∧ W m' σ' H', ct := fun σ' H' => ∃ m', m' < m ∧ W m' σ' H', bk := D.nx } σ H) : ∃ N : L2.St → Hp → Prop, (∀ σ' H', N σ' H' → ∃ m', m' < m ∧ W m' σ' H') ∧ tb { D with nx := N, ct := N, bk := D.nx } σ H := ⟨_, fun _ _ h => h, h⟩
def ForG (J : It) (g : TG) (tb : TS) (D : Ends) (σ : L2.St) (H1 : Hp) : Prop := ∃ W : Nat → Nat → L2.St → Hp → Prop, (∃ m, W 0 m σ H1) ∧ ∀ i m σ H, W i m σ H →
  (J.stop i H ∧ D.nx σ H) ∨ (J.go i H ∧ ∃ N : L2.St → Hp → Prop, (∀ σ' H', N σ' H' → ∃ m', m' < m ∧ W (i + 1) m' σ' H') ∧ ∀ x H', J.yld i H x H' → g x σ H' fun σ2 H2 => tb { D with nx := N, ct := N, bk := D.nx } σ2 H2)
theorem k_for {wi : TI} {g : TG} {tb : TS} (h : wi σ H fun J H1 => ForG J g tb D σ H1) : tFor wi g tb D σ H := h
/-! ### comprehensions over a range -/
def Rng1 (vs : List V) (H : Hp) (R : It → Hp → Prop) : Prop := ∃ j : Int, vs = [.int j] ∧ -(2 ^ 62) ≤ j ∧ j < 2 ^ 62 ∧ R (Itr 0 j.toNat) H
def Rng2 (vs : List V) (H : Hp) (R : It → Hp → Prop) : Prop := ∃ i j : Int, vs = [.int i, .int j] ∧ (-(2 ^ 62) ≤ i ∧ i < 2 ^ 62 ∧ -(2 ^ 62) ≤ j ∧ j < 2 ^ 62) ∧ R (Itr i (j - i).toNat) H
theorem k_irng1 {R : It → Hp → Prop} (h : tr σ H fun vs H1 => Rng1 vs H1 R) : iRng1 tr σ H R := h
theorem k_irng2 {R : It → Hp → Prop} (h : tr σ H fun vs H1 => Rng2 vs H1 R) : iRng2 tr σ H R := h
theorem k_rng1 {n : Int} {R : It → Hp → Prop} (h0 : -(2 ^ 62) ≤ n ∧ n < 2 ^ 62) (h : R (Itr 0 n.toNat) H) : Rng1 [V.int n] H R := ⟨n, rfl, h0.1, h0.2, h⟩
theorem k_rng2 {n : Int} {R : It → Hp → Prop} (h0 : -(2 ^ 62) ≤ m ∧ m < 2 ^ 62 ∧ -(2 ^ 62) ≤ n ∧ n < 2 ^ 62) (h : R (Itr m (n - m).toNat) H) : Rng2 [V.int m, V.int n] H R := ⟨m, n, rfl, h0, h⟩
def LcG (J : It) (H1 : Hp) (g : TG) (tt : TT) (te : TE) (vs : List Nat) (σ : L2.St) (Q : VK) : Prop := ∀ D, H1 D = none → ∃ W : Nat → Nat → Hp → Prop, (∃ m, W 0 m (upd H1 D (.lst []))) ∧ ∀ i m H, W i m H →
  (J.stop i H ∧ Q (.ref D) H) ∨ (J.go i H ∧ ∃ Nx : Hp → Prop, (∀ H', Nx H' → ∃ m', m' < m ∧ W (i + 1) m' H') ∧ ∀ x H', J.yld i H x H' → g x (wipe σ vs) H' fun σ2 H2 => wipe σ2 vs = wipe σ vs ∧ tt σ2 H2 fun b H3 =>
    if b = true then te σ2 H3 fun y H4 => ∃ acc, H4 D = some (.lst acc) ∧ acc.length < sizeLine ∧ Nx (upd H4 D (.lst (acc ++ [y]))) else Nx H3)
theorem k_lc {wi : TI} {g : TG} {tt : TT} {vs : List Nat} (h : wi σ H fun J H1 => LcG J H1 g tt te vs σ Q) : tLc wi g tt te vs σ H Q := h
/-- [e for k in range(..)]: the list of the values, each told by its place -/
theorem k_lcr {lo : Int} {n j : Nat} (L : List V) (hl : L.length = n) (hz : n ≤ 1000000)
    (hs : ∀ (i : Nat) (v : V) (H2 : Hp) (R : VK), L[i]? = some v → Same H1 H2 → (∀ H3, Same H2 H3 → R v H3) → te (σ.set j (some (.int (lo + i)))) H2 R)
    (q : ∀ D H2, H1 D = none → Same H1 H2 → H2 D = some (.lst L) → Q (.ref D) H2) :
    LcG (Itr lo n) H1 (gName j) tYes te [j] σ Q := by
  intro D hD
  refine lc_range (fun i H' => Same H1 H' ∧ H' D = some (.lst (L.take i))) ⟨same_new hD, by rw [upd_same]; rfl⟩ (fun i H' hi ⟨sm, hd⟩ => ?_) (fun H' ⟨sm, hd⟩ => q D H' hD sm (by rw [hd, List.take_of_length_le (by omega)]))
  have ew : ∀ y : V, (wipe σ [j]).set j (some y) = σ.set j (some y) := fun y => by
    show ((σ.set j none).set j (some y)) = _
    rw [List.set_set]
  show wipe ((wipe σ [j]).set j _) [j] = wipe σ [j] ∧ _
  rw [ew]
  refine ⟨by show (σ.set j _).set j none = σ.set j none; rw [List.set_set], ?_⟩
  refine hs i (L[i]'(by omega)) H' _ (List.getElem?_eq_getElem (by omega)) sm fun H3 s3 => ?_
  refine ⟨L.take i, s3 _ _ hd, Nat.lt_of_le_of_lt (Nat.le_trans (by rw [List.length_take]; exact Nat.min_le_left _ _) (show i ≤ 1000000 by omega)) (by rw [sizeLine_eq]; decide), same_mut (sm.trans s3) hD, ?_⟩
  rw [upd_same, List.take_add_one, List.getElem?_eq_getElem (show i < L.length by omega)]
  rfl
/-! ### comprehensions and loops over a list, a tuple -/
def SqI (J : Addr → It) (ok : Addr → Hp → Prop) (x : V) (H : Hp) (R : It → Hp → Prop) : Prop := ∃ a, x = .ref a ∧ ok a H ∧ R (J a) H
theorem k_itup {tl : TE} {R : It → Hp → Prop} (h : tl σ H fun x H1 => SqI (Itt K) (fun a H => ∃ xs, SqT K H a xs) x H1 R) : iTup K tl σ H R := h
theorem k_ilst {tl : TE} {R : It → Hp → Prop} (h : tl σ H fun x H1 => SqI (Itl K) (fun a H => ∃ xs, SqL K H a xs) x H1 R) : iList K tl σ H R := h
theorem k_sqt {p : Addr} {xs : List V} {R : It → Hp → Prop} (h : SqT K H p xs) (q : R (Itt K p) H) : SqI (Itt K) (fun a H => ∃ xs, SqT K H a xs) (.ref p) H R := ⟨p, rfl, ⟨xs, h⟩, q⟩
theorem k_sql {p : Addr} {xs : List V} {R : It → Hp → Prop} (h : SqL K H p xs) (q : R (Itl K p) H) : SqI (Itl K) (fun a H => ∃ xs, SqL K H a xs) (.ref p) H R := ⟨p, rfl, ⟨xs, h⟩, q⟩
theorem wipe_set {σ : L2.St} {j : Nat} {y : V} : (wipe σ [j]).set j (some y) = σ.set j (some y) := by
  show ((σ.set j none).set j (some y)) = _
  rw [List.set_set]
theorem wipe_set2 {σ : L2.St} {j : Nat} {y : V} : wipe (σ.set j (some y)) [j] = wipe σ [j] := by
  show (σ.set j _).set j none = σ.set j none
  rw [List.set_set]
/-- [e for x in t], t a tuple: the list of the values -/
theorem k_lct {a : Addr} {xs : List V} {j : Nat} (hx : SqT K H1 a xs) (L : List V) (hl : L.length = xs.length) (hz : xs.length ≤ 1000000)
    (hs : ∀ (i : Nat) (x v : V) (H2 : Hp) (R : VK), xs[i]? = some x → L[i]? = some v → Same H1 H2 → (∀ H3, Same H2 H3 → R v H3) → te (σ.set j (some x)) H2 R)
    (q : ∀ D H2, H1 D = none → Same H1 H2 → H2 D = some (.lst L) → Q (.ref D) H2) : LcG (Itt K a) H1 (gName j) tYes te [j] σ Q := by
  intro D hD
  refine lc_tup (fun i H' => Same H1 H' ∧ H' D = some (.lst (L.take i))) ⟨same_new hD, by rw [upd_same]; rfl⟩ (fun i H' _ ⟨sm, _⟩ => same_t sm hx) (fun i x H' hi ⟨sm, hd⟩ => ?_) (fun H' ⟨sm, hd⟩ => q D H' hD sm (by rw [hd, List.take_of_length_le (by omega)]))
  have hil := (List.getElem?_eq_some_iff.mp hi).1
  show wipe ((wipe σ [j]).set j _) [j] = wipe σ [j] ∧ _
  rw [wipe_set]
  refine ⟨wipe_set2, ?_⟩
  refine hs i x (L[i]'(by omega)) H' _ hi (List.getElem?_eq_getElem (by omega)) sm fun H3 s3 => ?_
  refine ⟨L.take i, s3 _ _ hd, Nat.lt_of_le_of_lt (Nat.le_trans (by rw [List.length_take]; exact Nat.min_le_left _ _) (show i ≤ 1000000 by omega)) (by rw [sizeLine_eq]; decide), same_mut (sm.trans s3) hD, ?_⟩
  rw [upd_same, List.take_add_one, List.getElem?_eq_getElem (show i < L.length by omega)]
  rfl
/-- [e for x in xs], xs a list -/
theorem k_lcl {a : Addr} {xs : List V} {j : Nat} (hx : SqL K H1 a xs) (L : List V) (hl : L.length = xs.length) (hz : xs.length ≤ 1000000)
    (hs : ∀ (i : Nat) (x v : V) (H2 : Hp) (R : VK), xs[i]? = some x → L[i]? = some v → Same H1 H2 → (∀ H3, Same H2 H3 → R v H3) → te (σ.set j (some x)) H2 R)
    (q : ∀ D H2, H1 D = none → Same H1 H2 → H2 D = some (.lst L) → Q (.ref D) H2) : LcG (Itl K a) H1 (gName j) tYes te [j] σ Q := by
  intro D hD
  refine lc_list (fun i H' => Same H1 H' ∧ H' D = some (.lst (L.take i))) ⟨same_new hD, by rw [upd_same]; rfl⟩ (fun i H' _ ⟨sm, _⟩ => same_l sm hx) (fun i x H' hi ⟨sm, hd⟩ => ?_) (fun H' ⟨sm, hd⟩ => q D H' hD sm (by rw [hd, List.take_of_length_le (by omega)]))
  have hil := (List.getElem?_eq_some_iff.mp hi).1
  show wipe ((wipe σ [j]).set j _) [j] = wipe σ [j] ∧ _
  rw [wipe_set]
  refine ⟨wipe_set2, ?_⟩
  refine hs i x (L[i]'(by omega)) H' _ hi (List.getElem?_eq_getElem (by omega)) sm fun H3 s3 => ?_
  refine ⟨L.take i, s3 _ _ hd, Nat.lt_of_le_of_lt (Nat.le_trans (by rw [List.length_take]; exact Nat.min_le_left _ _) (show i ≤ 1000000 by omega)) (by rw [sizeLine_eq]; decide), same_mut (sm.trans s3) hD, ?_⟩
  rw [upd_same, List.take_add_one, List.getElem?_eq_getElem (show i < L.length by omega)]
  rfl
theorem rgc_pos {a b c : Int} (ha : 0 ≤ a) (ha' : a ≤ 1000000000) (hb : 0 ≤ b) (hb' : b ≤ 1000000000) (hc : 1 ≤ c) (hc' : c ≤ 1000000000) :
    ∃ n : Nat, RgC a b c n ∧ (n : Int) ≤ b ∧ ∀ i : Nat, i < n ↔ a + i * c < b := by
  have hpos : (0 : Int) ≤ Builtin.Range.rangeSize a b c := by
    unfold Builtin.Range.rangeSize
    rw [if_pos (by omega)]
    split
    · have := Int.ediv_nonneg (a := b - a - 1) (b := c) (by omega) (by omega); omega
    · omega
  have hle : Builtin.Range.rangeSize a b c ≤ b := by
    unfold Builtin.Range.rangeSize
    rw [if_pos (by omega)]
    split
    · have := Int.ediv_le_self c (show 0 ≤ b - a - 1 by omega); omega
    · omega
  obtain ⟨n, hn⟩ := Int.eq_ofNat_of_zero_le hpos
  refine ⟨n, ⟨by omega, by omega, ?_, hn⟩, by omega, fun i => ?_⟩
  · unfold Builtin.Range.small
    simp only [Builtin.Range.rangeFitsLong, Bool.and_eq_true, Bool.or_eq_true, decide_eq_true_eq, beq_iff_eq]
    rw [if_pos (show c > 0 by omega)]
    simp only [Bool.and_eq_true, decide_eq_true_eq]
    refine ⟨⟨⟨⟨?_, ?_⟩, ?_⟩, ?_⟩, .inr ?_⟩ <;> omega
  · unfold Builtin.Range.rangeSize at hn
    rw [if_pos (show c > 0 by omega)] at hn
    have e1 := Int.emod_add_mul_ediv (b - a - 1) c
    have e2 := Int.emod_nonneg (b - a - 1) (show c ≠ 0 by omega)
    have e3 := Int.emod_lt_of_pos (b - a - 1) (show 0 < c by omega)
    by_cases hab : a < b
    · rw [if_pos hab] at hn
      generalize (b - a - 1) / c = q at *
      constructor
      · intro hi
        have : c * (i : Int) ≤ c * q := Int.mul_le_mul_of_nonneg_left (by omega) (by omega)
        rw [Int.mul_comm (i : Int)]; omega
      · intro hi
        by_cases h : (i : Int) ≤ q
        · omega
        · have : c * (q + 1) ≤ c * (i : Int) := Int.mul_le_mul_of_nonneg_left (by omega) (by omega)
          rw [Int.mul_add] at this
          rw [Int.mul_comm (i : Int)] at hi; omega
    · rw [if_neg hab] at hn
      constructor
      · intro hi; omega
      · intro hi
        have : 0 ≤ (i : Int) * c := Int.mul_nonneg (by omega) (by omega)
        omega
def Rng3 (vs : List V) (H : Hp) (R : It → Hp → Prop) : Prop := ∃ (i j c : Int) (n : Nat), vs = [.int i, .int j, .int c] ∧ RgC i j c n ∧ R (Itc i c n) H
theorem k_irng3 {R : It → Hp → Prop} (h : tr σ H fun vs H1 => Rng3 vs H1 R) : iRng3 tr σ H R := h
theorem k_rng3 {i j c : Int} {n : Nat} {R : It → Hp → Prop} (h0 : RgC i j c n) (h : R (Itc i c n) H) : Rng3 [V.int i, V.int j, V.int c] H R := ⟨i, j, c, n, rfl, h0, h⟩
/-! ### list(range(..)), list + list -/
def LstRg (x : V) (H : Hp) (Q : VK) : Prop := ∃ n, x = .int n ∧ (RgOk 0 n ∧ ∀ q, H q = none → Q (.ref q) (upd H q (.lst (rgV 0 n))))
theorem k_lstrg (h : ta σ H fun x H1 => LstRg x H1 Q) : tLstRg (tRg1 ta) σ H Q := h
theorem k_lstrgV (h0 : 0 ≤ a ∧ a ≤ 16777216) (h : ∀ p H2, H p = none → Same H H2 → H2 p = some (.lst (rgV 0 a)) → Q (.ref p) H2) : LstRg (.int a) H Q :=
  ⟨a, rfl, RgOk.of_le (by omega) h0.2 (by omega) h0.1, fun p hp => h p _ hp (same_new hp) upd_same⟩
/-! ### any comprehension: over what tells n items one by one, with a test -/
theorem k_lcG {J : It} {n j : Nat} {item : Nat → V} {tt : TT} (p : Nat → Bool) (g : Nat → V) (hz : n ≤ 1000000)
    (hgo : ∀ i H2, Same H1 H2 → i < n → J.go i H2) (hy : ∀ i H2 x H', Same H1 H2 → i < n → J.yld i H2 x H' → H' = H2 ∧ x = item i) (hst : ∀ H2, Same H1 H2 → J.stop n H2)
    (ht : ∀ i H2 (R : Bool → Hp → Prop), i < n → Same H1 H2 → (∀ H3, Same H2 H3 → R (p i) H3) → tt (σ.set j (some (item i))) H2 R)
    (hv : ∀ i H2 (R : VK), i < n → p i = true → Same H1 H2 → (∀ H3, Same H2 H3 → R (g i) H3) → te (σ.set j (some (item i))) H2 R)
    (q : ∀ D H2, H1 D = none → Same H1 H2 → H2 D = some (.lst (((List.range n).filter p).map g)) → Q (.ref D) H2) : LcG J H1 (gName j) tt te [j] σ Q := by
  intro D hD
  refine ⟨fun i m H' => m = n - i ∧ i ≤ n ∧ Same H1 H' ∧ H' D = some (.lst (((List.range i).filter p).map g)), ⟨n, rfl, Nat.zero_le _, same_new hD, by rw [upd_same]; rfl⟩, ?_⟩
  rintro i m H' ⟨rfl, hi, sm, hd⟩
  by_cases hlt : i < n
  · refine .inr ⟨hgo i H' sm hlt, fun H'' => i + 1 ≤ n ∧ Same H1 H'' ∧ H'' D = some (.lst (((List.range (i + 1)).filter p).map g)), fun H'' ⟨a, b, c⟩ => ⟨n - (i + 1), by omega, rfl, a, b, c⟩, fun x H'' y => ?_⟩
    obtain ⟨rfl, rfl⟩ := hy i H' x H'' sm hlt y
    show wipe ((wipe σ [j]).set j _) [j] = wipe σ [j] ∧ _
    rw [wipe_set]
    refine ⟨wipe_set2, ht i H'' _ hlt sm fun H3 s3 => ?_⟩
    have er : ((List.range (i + 1)).filter p).map g = ((List.range i).filter p).map g ++ (if p i = true then [g i] else []) := by
      rw [List.range_succ, List.filter_append, List.map_append]
      congr 1
      by_cases h : p i = true <;> simp [h]
    cases hp : p i with
    | true =>
      refine hv i H3 _ hlt hp (sm.trans s3) fun H4 s4 => ?_
      refine ⟨_, s4 _ _ (s3 _ _ hd), ?_, hlt, same_mut ((sm.trans s3).trans s4) hD, ?_⟩
      · rw [List.length_map]
        refine Nat.lt_of_le_of_lt (Nat.le_trans (List.length_filter_le _ _) (by rw [List.length_range]; exact (show i ≤ 1000000 by omega))) (by rw [sizeLine_eq]; decide)
      · rw [upd_same, er, if_pos hp]
    | false =>
      refine ⟨hlt, sm.trans s3, ?_⟩
      rw [s3 _ _ hd, er, if_neg (by rw [hp]; decide), List.append_nil]
  · have e : i = n := by omega
    subst e
    exact .inl ⟨hst H' sm, q D H' hD sm hd⟩
theorem k_lcrf {lo : Int} {n j : Nat} {tt : TT} (p : Nat → Bool) (g : Nat → V) (hz : n ≤ 1000000)
    (ht : ∀ i H2 (R : Bool → Hp → Prop), i < n → Same H1 H2 → (∀ H3, Same H2 H3 → R (p i) H3) → tt (σ.set j (some (.int (lo + i)))) H2 R)
    (hv : ∀ i H2 (R : VK), i < n → p i = true → Same H1 H2 → (∀ H3, Same H2 H3 → R (g i) H3) → te (σ.set j (some (.int (lo + i)))) H2 R)
    (q : ∀ D H2, H1 D = none → Same H1 H2 → H2 D = some (.lst (((List.range n).filter p).map g)) → Q (.ref D) H2) : LcG (Itr lo n) H1 (gName j) tt te [j] σ Q :=
  k_lcG (item := fun i => .int (lo + i)) p g hz (fun i H2 _ h => h) (fun i H2 x H' _ _ y => ⟨y.1, y.2⟩) (fun H2 _ => Nat.le_refl _) ht hv q
theorem k_lccf {lo c : Int} {n j : Nat} {tt : TT} (p : Nat → Bool) (g : Nat → V) (hz : n ≤ 1000000)
    (ht : ∀ i H2 (R : Bool → Hp → Prop), i < n → Same H1 H2 → (∀ H3, Same H2 H3 → R (p i) H3) → tt (σ.set j (some (.int (lo + (i : Nat) * c)))) H2 R)
    (hv : ∀ i H2 (R : VK), i < n → p i = true → Same H1 H2 → (∀ H3, Same H2 H3 → R (g i) H3) → te (σ.set j (some (.int (lo + (i : Nat) * c)))) H2 R)
    (q : ∀ D H2, H1 D = none → Same H1 H2 → H2 D = some (.lst (((List.range n).filter p).map g)) → Q (.ref D) H2) : LcG (Itc lo c n) H1 (gName j) tt te [j] σ Q :=
  k_lcG (item := fun i => .int (lo + (i : Nat) * c)) p g hz (fun i H2 _ h => h) (fun i H2 x H' _ _ y => ⟨y.1, y.2⟩) (fun H2 _ => Nat.le_refl _) ht hv q
theorem k_lclf {a : Addr} {xs : List V} {j : Nat} {tt : TT} (hx : SqL K H1 a xs) (p : Nat → Bool) (g : Nat → V) (hz : xs.length ≤ 1000000)
    (ht : ∀ i H2 (R : Bool → Hp → Prop), i < xs.length → Same H1 H2 → (∀ H3, Same H2 H3 → R (p i) H3) → tt (σ.set j (some (xs.getD i .non))) H2 R)
    (hv : ∀ i H2 (R : VK), i < xs.length → p i = true → Same H1 H2 → (∀ H3, Same H2 H3 → R (g i) H3) → te (σ.set j (some (xs.getD i .non))) H2 R)
    (q : ∀ D H2, H1 D = none → Same H1 H2 → H2 D = some (.lst (((List.range xs.length).filter p).map g)) → Q (.ref D) H2) : LcG (Itl K a) H1 (gName j) tt te [j] σ Q :=
  k_lcG (item := fun i => xs.getD i .non) p g hz (fun i H2 s h => ⟨xs, xs[i], same_l s hx, by simp [h]⟩) (fun i H2 x H' s h y => by
    obtain ⟨e, y⟩ := y
    refine ⟨e, ?_⟩
    have := y xs (same_l s hx)
    rw [List.getD_eq_getElem?_getD, this]; rfl) (fun H2 s => ⟨xs, same_l s hx, Nat.le_refl _⟩) ht hv q
theorem range_all {α : Type} (xs : List α) (d : α) : ((List.range xs.length).filter fun _ => true).map (fun i => xs.getD i d) = xs := by
  rw [List.filter_eq_self.mpr (fun _ _ => rfl)]
  apply List.ext_getElem
  · simp
  · intro i h1 h2
    simp [List.getD_eq_getElem?_getD, List.getElem?_eq_getElem h2]
/-! ### operators by values -/
def rAddA : R2 := fun x y H Q => rI0 (fun i j => .int (i + j)) x y H Q ∨ (∃ i j, x = .str i ∧ y = .str j ∧ i.length + j.length ≤ sizeLine ∧ Q (.str (i ++ j)) H) ∨ rCat x y H Q
theorem op_addA {X : Cx} : OpR X (binaryOp .Add) rAddA := op_add.or (op_add_str.or op_cat)
theorem k_add (q : Q (.int (a + b)) H) : rAddA (.int a) (.int b) H Q := .inl ⟨a, b, rfl, rfl, q⟩
theorem k_cat {l c : Addr} {xs zs : List V} (h1 : H l = some (.lst xs)) (h2 : H c = some (.lst zs)) (hl : xs.length + zs.length ≤ 16000000) (h : ∀ p H2, H p = none → Same H H2 → H2 p = some (.lst (xs ++ zs)) → Q (.ref p) H2) : rAddA (.ref l) (.ref c) H Q :=
  .inr (.inr ⟨l, c, xs, zs, rfl, rfl, h1, h2, Nat.le_trans hl (by rw [sizeLine_eq]; decide), fun p hp => h p _ hp (same_new hp) upd_same⟩)
def rEqA (K : PySem.W.Frag) : R2 := fun x y H Q => rEq x y H Q ∨ rEqD K x y H Q
def rNeA (K : PySem.W.Frag) : R2 := fun x y H Q => rNe x y H Q ∨ rNeD K x y H Q
theorem op_eqA {X : Cx} (hu : X.A.units + 64 < cLine) : OpR X (compareOp .Eq) (rEqA X.K) := op_eq.or (op_eqD hu)
theorem op_neA {X : Cx} (hu : X.A.units + 64 < cLine) : OpR X (compareOp .NotEq) (rNeA X.K) := op_ne.or (op_neD hu)
theorem dec_i : decide (V.int a = V.int b) = decide (a = b) := by
  by_cases h : a = b
  · subst h; simp
  · rw [decide_eq_false h, decide_eq_false (fun e => h (V.int.inj e))]
theorem dec_b {a b : Bool} : decide (V.bl a = V.bl b) = decide (a = b) := by
  by_cases h : a = b
  · subst h; simp
  · rw [decide_eq_false h, decide_eq_false (fun e => h (V.bl.inj e))]
theorem dec_s {a b : Str} : decide (V.str a = V.str b) = decide (a = b) := by
  by_cases h : a = b
  · subst h; simp
  · rw [decide_eq_false h, decide_eq_false (fun e => h (V.str.inj e))]
theorem k_eq (q : Q (.bl (decide (a = b))) H) : rEqA K (.int a) (.int b) H Q := .inl ⟨rfl, by rw [dec_i]; exact q⟩
theorem k_ne (q : Q (.bl (!decide (a = b))) H) : rNeA K (.int a) (.int b) H Q := .inl ⟨rfl, by rw [dec_i]; exact q⟩
theorem k_eqb {a b : Bool} (q : Q (.bl (decide (a = b))) H) : rEqA K (.bl a) (.bl b) H Q := .inl ⟨rfl, by rw [dec_b]; exact q⟩
theorem k_neb {a b : Bool} (q : Q (.bl (!decide (a = b))) H) : rNeA K (.bl a) (.bl b) H Q := .inl ⟨rfl, by rw [dec_b]; exact q⟩
theorem k_eqs {a b : Str} (q : Q (.bl (decide (a = b))) H) : rEqA K (.str a) (.str b) H Q := .inl ⟨rfl, by rw [dec_s]; exact q⟩
theorem k_nes {a b : Str} (q : Q (.bl (!decide (a = b))) H) : rNeA K (.str a) (.str b) H Q := .inl ⟨rfl, by rw [dec_s]; exact q⟩
theorem k_ixT {p : Addr} {xs : List V} {i : Int} (h : SqT K H p xs) (ha : atI xs i = some v) (q : Q v H) : rIx K (.ref p) (.int i) H Q := .inr (.inl ⟨p, xs, i, v, rfl, rfl, h, ha, q⟩)
theorem k_ixL {p : Addr} {xs : List V} {i : Int} (h : SqL K H p xs) (ha : atI xs i = some v) (q : Q v H) : rIx K (.ref p) (.int i) H Q := .inl ⟨p, xs, i, v, rfl, rfl, h, ha, q⟩
theorem inV_ints {a : Int} : ∀ l : List Int, inV (.int a) (l.map V.int) = decide (a ∈ l)
  | [] => rfl
  | x :: r => by
    have ih := inV_ints (a := a) r
    show (inV (.int a) (.int x :: r.map V.int)) = _
    unfold inV at ih ⊢
    rw [List.any_cons, ih]
    have e : eqV (.int x) (.int a) = decide (a = x) := by
      show (x == a) = decide (a = x)
      by_cases h : a = x
      · subst h; simp
      · rw [decide_eq_false h]; simpa using fun e => h e.symm
    by_cases h : a = x
    · subst h; simp [e]
    · simp [e, h]
theorem flat_ints : ∀ l : List Int, (l.map V.int).all flatV = true
  | [] => rfl
  | x :: r => by rw [List.map_cons, List.all_cons, flat_ints r]; rfl
theorem k_inL {neg : Bool} {p : Addr} {l : List Int} (h : SqL K H p (l.map V.int)) (q : Q (.bl (if neg then !decide (a ∈ l) else decide (a ∈ l))) H) : rIn K neg (.int a) (.ref p) H Q :=
  ⟨p, l.map V.int, rfl, .inl h, rfl, flat_ints l, by rw [inV_ints]; exact q⟩
theorem k_notinL {p : Addr} {l : List Int} (h : SqL K H p (l.map V.int)) (q : Q (.bl (!decide (a ∈ l))) H) : rIn K true (.int a) (.ref p) H Q := k_inL (neg := true) h q
theorem k_inL' {p : Addr} {l : List Int} (h : SqL K H p (l.map V.int)) (q : Q (.bl (decide (a ∈ l))) H) : rIn K false (.int a) (.ref p) H Q := k_inL (neg := false) h q
theorem inV2 {x y : Int} : inV (.int a) [.int x, .int y] = decide (a = x ∨ a = y) := by
  have h := inV_ints (a := a) [x, y]
  have e : (decide (a ∈ [x, y])) = decide (a = x ∨ a = y) := by
    have : a ∈ [x, y] ↔ (a = x ∨ a = y) := by simp
    simp [this]
  exact h.trans e
theorem k_notin2 {p : Addr} {x y : Int} (h : SqL K H p [.int x, .int y]) (q : Q (.bl (!decide (a = x ∨ a = y))) H) : rIn K true (.int a) (.ref p) H Q :=
  ⟨p, _, rfl, .inl h, rfl, rfl, by rw [inV2]; exact q⟩
theorem k_in2 {p : Addr} {x y : Int} (h : SqL K H p [.int x, .int y]) (q : Q (.bl (decide (a = x ∨ a = y))) H) : rIn K false (.int a) (.ref p) H Q :=
  ⟨p, _, rfl, .inl h, rfl, rfl, by rw [inV2]; exact q⟩
def rIsN : R2 := fun x y H Q => y = .non ∧ Q (.bl (decide (x = .non))) H
def rNotN : R2 := fun x y H Q => y = .non ∧ Q (.bl (!decide (x = .non))) H
theorem kb_isN {X : Cx} : OpR X (compareOp .Is) rIsN := op_isN
theorem kb_notN {X : Cx} : OpR X (compareOp .IsNot) rNotN := op_notN
theorem k_isN_n (q : Q (.bl true) H) : rIsN .non .non H Q := ⟨rfl, q⟩
theorem k_isN_i (q : Q (.bl false) H) : rIsN (.int a) .non H Q := ⟨rfl, q⟩
theorem k_isN_r {p : Addr} (q : Q (.bl false) H) : rIsN (.ref p) .non H Q := ⟨rfl, q⟩
theorem k_notN_n (q : Q (.bl false) H) : rNotN .non .non H Q := ⟨rfl, q⟩
theorem k_notN_i (q : Q (.bl true) H) : rNotN (.int a) .non H Q := ⟨rfl, q⟩
theorem k_notN_r {p : Addr} (q : Q (.bl true) H) : rNotN (.ref p) .non H Q := ⟨rfl, q⟩
/-! ### == of pairs and lists of ints -/
theorem dp_ints : ∀ l : List Int, DpAll K H (l.map V.int) (l.map PyData.int)
  | [] => .nil
  | x :: r => .cons (.int x) (dp_ints r)
theorem eqv_ints : ∀ l m : List Int, PyData.eqvAll (l.map PyData.int) (m.map PyData.int) = decide (l = m)
  | [], [] => by simp [PyData.eqvAll]
  | [], _ :: _ => by simp [PyData.eqvAll]
  | _ :: _, [] => by simp [PyData.eqvAll]
  | x :: r, y :: t => by
    rw [List.map_cons, List.map_cons, PyData.eqvAll, eqv_ints r t, PyData.eqv]
    by_cases h : x = y <;> simp [h]
theorem shaped_tints (l : List Int) : SeqAt.shaped (.tuple (l.map PyData.int)) = true := by
  have h1 : ∀ l : List Int, PyData.canLayAll0 (l.map PyData.int) = true := fun l => by
    induction l with
    | nil => rfl
    | cons x r ih => rw [List.map_cons]; simp [PyData.canLayAll0, PyData.canLay0, ih]
  have h2 : ∀ l : List Int, PyData.depthAll (l.map PyData.int) ≤ 1 := fun l => by
    induction l with
    | nil => simp [PyData.depthAll]
    | cons x r ih => rw [List.map_cons]; simp [PyData.depthAll, PyData.depth]; omega
  have := h2 l
  simp [SeqAt.shaped, PyData.canLay0, PyData.depth, h1 l]
  omega
theorem shaped_lints (l : List Int) : SeqAt.shaped (.list (l.map PyData.int)) = true := by
  have h1 : ∀ l : List Int, PyData.canLayAll0 (l.map PyData.int) = true := fun l => by
    induction l with
    | nil => rfl
    | cons x r ih => rw [List.map_cons]; simp [PyData.canLayAll0, PyData.canLay0, ih]
  have h2 : ∀ l : List Int, PyData.depthAll (l.map PyData.int) ≤ 1 := fun l => by
    induction l with
    | nil => simp [PyData.depthAll]
    | cons x r ih => rw [List.map_cons]; simp [PyData.depthAll, PyData.depth]; omega
  have := h2 l
  simp [SeqAt.shaped, PyData.canLay0, PyData.depth, h1 l]
  omega
theorem k_eqT {p q : Addr} {l m : List Int} (h1 : SqT K H p (l.map V.int)) (h2 : SqT K H q (m.map V.int)) (r : Q (.bl (decide (l = m))) H) : rEqA K (.ref p) (.ref q) H Q :=
  .inr ⟨_, _, .tup h1 (dp_ints l), .tup h2 (dp_ints m), shaped_tints l, shaped_tints m, by rw [PyData.eqv, eqv_ints]; exact r⟩
theorem k_neT {p q : Addr} {l m : List Int} (h1 : SqT K H p (l.map V.int)) (h2 : SqT K H q (m.map V.int)) (r : Q (.bl (!decide (l = m))) H) : rNeA K (.ref p) (.ref q) H Q :=
  .inr ⟨_, _, .tup h1 (dp_ints l), .tup h2 (dp_ints m), shaped_tints l, shaped_tints m, by rw [PyData.eqv, eqv_ints]; exact r⟩
theorem k_eqL {p q : Addr} {l m : List Int} (h1 : SqL K H p (l.map V.int)) (h2 : SqL K H q (m.map V.int)) (r : Q (.bl (decide (l = m))) H) : rEqA K (.ref p) (.ref q) H Q :=
  .inr ⟨_, _, .lst h1 (dp_ints l), .lst h2 (dp_ints m), shaped_lints l, shaped_lints m, by rw [PyData.eqv, eqv_ints]; exact r⟩
theorem k_neL {p q : Addr} {l m : List Int} (h1 : SqL K H p (l.map V.int)) (h2 : SqL K H q (m.map V.int)) (r : Q (.bl (!decide (l = m))) H) : rNeA K (.ref p) (.ref q) H Q :=
  .inr ⟨_, _, .lst h1 (dp_ints l), .lst h2 (dp_ints m), shaped_lints l, shaped_lints m, by rw [PyData.eqv, eqv_ints]; exact r⟩
theorem k_eqP {p q : Addr} {c d : Int} (h1 : SqT K H p [.int a, .int b]) (h2 : SqT K H q [.int c, .int d]) (r : Q (.bl (decide (a = c ∧ b = d))) H) : rEqA K (.ref p) (.ref q) H Q :=
  k_eqT (l := [a, b]) (m := [c, d]) h1 h2 (by
    have e : decide ([a, b] = [c, d]) = decide (a = c ∧ b = d) := by simp
    rw [e]; exact r)
theorem k_neP {p q : Addr} {c d : Int} (h1 : SqT K H p [.int a, .int b]) (h2 : SqT K H q [.int c, .int d]) (r : Q (.bl (!decide (a = c ∧ b = d))) H) : rNeA K (.ref p) (.ref q) H Q :=
  k_neT (l := [a, b]) (m := [c, d]) h1 h2 (by
    have e : decide ([a, b] = [c, d]) = decide (a = c ∧ b = d) := by simp
    rw [e]; exact r)
/-! ### calls of built-ins by values -/
def rAbs : List V → Hp → VK → Prop := fun xs H Q => ∃ i, xs = [.int i] ∧ Q (.int (if i < 0 then -i else i)) H
theorem cb_abs {X : Cx} : CallR X (.builtin "abs") rAbs := call_abs
theorem k_abs (q : Q (.int (if a < 0 then -a else a)) H) : rAbs [.int a] H Q := ⟨a, rfl, q⟩
def rMax2 : List V → Hp → VK → Prop := fun xs H Q => ∃ i j, xs = [.int i, .int j] ∧ Q (.int (if j > i then j else i)) H
theorem cb_max2 {X : Cx} (hc : X.calm = true) : CallR X (.builtin "max") rMax2 := call_max2 hc
theorem k_max2 (q : ∀ k : Int, (k = a ∨ k = b) → a ≤ k → b ≤ k → Q (.int k) H) : rMax2 [.int a, .int b] H Q := ⟨a, b, rfl, by split <;> exact q _ (by omega) (by omega) (by omega)⟩
def rMin2 : List V → Hp → VK → Prop := fun xs H Q => ∃ i j, xs = [.int i, .int j] ∧ Q (.int (if j < i then j else i)) H
theorem cb_min2 {X : Cx} (hc : X.calm = true) : CallR X (.builtin "min") rMin2 := call_min2 hc
theorem k_min2 (q : ∀ k : Int, (k = a ∨ k = b) → k ≤ a → k ≤ b → Q (.int k) H) : rMin2 [.int a, .int b] H Q := ⟨a, b, rfl, by split <;> exact q _ (by omega) (by omega) (by omega)⟩
def rLen (K : PySem.W.Frag) : List V → Hp → VK → Prop := fun xs H Q => ∃ x n, xs = [x] ∧ LenV K x H n ∧ Q (.int n) H
theorem cb_len {X : Cx} : CallR X (.builtin "len") (rLen X.K) := call_len
theorem k_lenL {p : Addr} {xs : List V} (h : SqL K H p xs) (q : Q (.int (xs.length : Int)) H) : rLen K [.ref p] H Q := ⟨.ref p, xs.length, rfl, .inl ⟨xs, h, rfl⟩, q⟩
theorem k_lenT {p : Addr} {xs : List V} (h : SqT K H p xs) (q : Q (.int (xs.length : Int)) H) : rLen K [.ref p] H Q := ⟨.ref p, xs.length, rfl, .inr ⟨xs, h, rfl⟩, q⟩
def rDivmod : List V → Hp → VK → Prop := fun xs H Q => ∃ i j, xs = [.int i, .int j] ∧ CDivP i j ∧ ∀ p, H p = none → Q (.ref p) (upd H p (.tup [.int (i / j), .int (i % j)]))
theorem cb_divmod {X : Cx} : CallR X (.builtin "divmod") rDivmod := call_divmodW
theorem k_divmod (c : CDivP a b) (h : ∀ p H2, H p = none → Same H H2 → H2 p = some (.tup [.int (a / b), .int (a % b)]) → Q (.ref p) H2) : rDivmod [.int a, .int b] H Q :=
  ⟨a, b, rfl, c, fun p hp => h p _ hp (same_new hp) upd_same⟩
theorem k_sum {p : Addr} {l : List Int} (h : SqL K H p (l.map V.int)) (q : Q (.int l.sum) H) : rSum K [.ref p] H Q := ⟨p, l, rfl, h, q⟩
theorem k_all {p : Addr} {l : List Bool} (h : SqL K H p (l.map V.bl)) (q : Q (.bl (l.all id)) H) : rAll K [.ref p] H Q := ⟨p, l, rfl, h, q⟩
theorem k_any {p : Addr} {l : List Bool} (h : SqL K H p (l.map V.bl)) (q : Q (.bl (l.any id)) H) : rAny K [.ref p] H Q := ⟨p, l, rfl, h, q⟩
def BitsV (x : V) (H : Hp) (Q : VK) : Prop := ∃ i, x = .int i ∧ Q (.int (Builtin.Int.intBits i : Nat)) H
theorem k_bits (h : ta σ H fun x H1 => BitsV x H1 Q) : tBits ta σ H Q := h
theorem k_bitsV (q : Q (.int (Builtin.Int.intBits a : Nat)) H) : BitsV (.int a) H Q := ⟨a, rfl, q⟩
def rInt : List V → Hp → VK → Prop := fun xs H Q => (∃ i, xs = [.int i] ∧ Q (.int i) H) ∨ ∃ k, xs = [.bl k] ∧ Q (.int (if k then 1 else 0)) H
theorem cb_int {X : Cx} : CallR X (.type "int") rInt := call_int1
theorem k_intI (q : Q (.int a) H) : rInt [.int a] H Q := .inl ⟨a, rfl, q⟩
theorem k_intB {c : Bool} (q : Q (.int (if c then 1 else 0)) H) : rInt [.bl c] H Q := .inr ⟨c, rfl, q⟩
theorem k_isi_ii (q : Q (.bl true) H) : rIsi K [.int a, .ty "int"] H Q := ⟨.int a, .ty "int", .type "int", .type "int", true, rfl, .ty _, .base (.int _), kit_ty (by decide +kernel), q⟩
theorem k_isi_ib (q : Q (.bl false) H) : rIsi K [.int a, .ty "bool"] H Q := ⟨.int a, .ty "bool", .type "int", .type "bool", false, rfl, .ty _, .base (.int _), kit_ty (by decide +kernel), q⟩
theorem k_isi_bb {c : Bool} (q : Q (.bl true) H) : rIsi K [.bl c, .ty "bool"] H Q := ⟨.bl c, .ty "bool", .type "bool", .type "bool", true, rfl, .ty _, .base (.bl _), kit_ty (by decide +kernel), q⟩
theorem k_isi_it (q : Q (.bl false) H) : rIsi K [.int a, .ty "tuple"] H Q := ⟨.int a, .ty "tuple", .type "int", .type "tuple", false, rfl, .ty _, .base (.int _), kit_ty (by decide +kernel), q⟩
theorem tyx_t {p : Addr} {xs : List V} (h : SqT K H p xs) : TyX K H (.ref p) (.type "tuple") := by
  rcases h with (h | ⟨o, h⟩) | ⟨o, its, n, l, c, _⟩
  · exact .base (.tup h)
  · exact .fTuple h
  · exact .kTuple l c
theorem k_isi_tt {p : Addr} {xs : List V} (h : SqT K H p xs) (q : Q (.bl true) H) : rIsi K [.ref p, .ty "tuple"] H Q := ⟨.ref p, .ty "tuple", .type "tuple", .type "tuple", true, rfl, .ty _, tyx_t h, kit_ty (by decide +kernel), q⟩
/-! ### the rules that speak of the written part, by its own letter -/
section
variable {X : Cx} (K : PySem.W.Frag) (hK : X.K = K := by rfl)
include hK
theorem kb_ix : IxR X (rIx K) := hK ▸ ix_seq
theorem kb_eq (hu : X.A.units + 64 < cLine) : OpR X (compareOp .Eq) (rEqA K) := hK ▸ op_eqA hu
theorem kb_ne (hu : X.A.units + 64 < cLine) : OpR X (compareOp .NotEq) (rNeA K) := hK ▸ op_neA hu
theorem kb_in : OpR X (compareOp .In) (rIn K false) := hK ▸ op_in_seq
theorem kb_notIn : OpR X (compareOp .NotIn) (rIn K true) := hK ▸ op_notIn_seq
theorem kb_len : CallR X (.builtin "len") (rLen K) := hK ▸ cb_len
theorem kb_isi : CallR X (.builtin "isinstance") (rIsi K) := hK ▸ call_isi
theorem kb_sum (hc : X.calm = true) : CallR X (.builtin "sum") (rSum K) := hK ▸ cr_sum hc
theorem kb_max (hc : X.calm = true) : CallR X (.builtin "max") (rMax K) := hK ▸ cr_max hc
theorem kb_min (hc : X.calm = true) : CallR X (.builtin "min") (rMin K) := hK ▸ cr_min hc
theorem kb_all (hc : X.calm = true) : CallR X (.builtin "all") (rAll K) := hK ▸ cr_all hc
theorem kb_any (hc : X.calm = true) : CallR X (.builtin "any") (rAny K) := hK ▸ cr_any hc
end
/-- // by any divisor but 0, below 2 ^ 9000 -/
def CDivX (_ j : Int) : Prop := j ≠ 0 ∧ j.natAbs.log2 < 9000
theorem op_fdivX {X : Cx} : OpR X (binaryOp .FloorDiv) (rI CDivX fun i j => .int (i.fdiv j)) := opI fun i j _ _ _ _ _ hc q => floordiv_int hc.1 q (.inl (PyProof.noPylong_of_log2 hc.2))
/-- a power of written numbers -/
theorem pe_powc {X : Cx} {b e n : Int} {j1 j2 : Nat} {p1 p2 pos : Pos} (h : (0 ≤ e ∧ e ≤ 1000000 ∧ b.natAbs < 2 ^ 64) ∧ b ^ e.toNat = n) : PE X (.BinOp (.Constant (.int b) j1 p1) .Pow (.Constant (.int e) j2 p2) pos) (tC (.int n)) :=
  ⟨fun pins s σ H Q I q => (pe_op (X := X) op_pow pe_int pe_int).run pins s σ H Q I ⟨b, e, rfl, rfl, h.1, by show Q (.int (b ^ e.toNat)) H; rw [h.2]; exact q⟩⟩
end
/-! ### sizes -/
structure Sm (n : Nat) (i : Int) : Prop where
  h : i.natAbs < 2 ^ n
theorem sm_lit {i : Int} (h : i.natAbs < 2 ^ 400) : Sm 400 i := ⟨h⟩
theorem sm_mono {a b : Nat} {i : Int} (h : Sm a i) (hab : a ≤ b) : Sm b i := ⟨Nat.lt_of_lt_of_le h.h (Nat.pow_le_pow_right (by decide) hab)⟩
theorem sm41 {i : Int} (h1 : -1000000000000000000000000000000000000000000000000000000000000 ≤ i) (h2 : i ≤ 1000000000000000000000000000000000000000000000000000000000000) : Sm 200 i := by
  have e : (2 : Nat) ^ 200 = 1606938044258990275541962092341162602522202993782792835301376 := by decide
  refine ⟨?_⟩
  rw [e]; omega
theorem mul_bd {x k X Y : Int} (h1 : 1 ≤ x) (h2 : x ≤ X) (h3 : 1 ≤ k) (h4 : k ≤ Y) : 1 ≤ x * k ∧ x * k ≤ X * Y := by
  refine ⟨Int.mul_pos (by omega) (by omega), ?_⟩
  exact Int.mul_le_mul h2 h4 (by omega) (by omega)
theorem mul_bd2 {x k X Y : Int} (h1 : -X ≤ x) (h2 : x ≤ X) (h3 : -Y ≤ k) (h4 : k ≤ Y) : -(X * Y) ≤ x * k ∧ x * k ≤ X * Y := by
  have e : (x * k).natAbs ≤ X.natAbs * Y.natAbs := by rw [Int.natAbs_mul]; exact Nat.mul_le_mul (by omega) (by omega)
  have e2 : ((X.natAbs * Y.natAbs : Nat) : Int) = X * Y := by
    rw [Int.natCast_mul, show ((X.natAbs : Nat) : Int) = X by omega, show ((Y.natAbs : Nat) : Int) = Y by omega]
  omega
theorem sm_mul {i j : Int} {a b : Nat} (ha : Sm a i) (hb : Sm b j) : Sm (a + b) (i * j) := ⟨wide_lt ha.h hb.h⟩
theorem sm_bits {i : Int} {n : Nat} (h : Builtin.Int.intBits i ≤ n) : Sm n i := by
  unfold Builtin.Int.intBits at h
  split at h
  · rename_i z
    have : i = 0 := by simpa using z
    subst this
    exact ⟨Nat.pow_pos (by decide)⟩
  · rename_i z
    have hz : i.natAbs ≠ 0 := by
      intro q
      apply z
      have : i = 0 := by omega
      subst this
      decide
    exact ⟨Nat.lt_of_lt_of_le ((Nat.log2_lt hz).mp (Nat.lt_succ_self _)) (Nat.pow_le_pow_right (by decide) h)⟩
theorem sm_mulx {i j : Int} {a b : Nat} (ha : Sm a i) (hb : Sm b j) (h : a + b ≤ 134217728) : CMulX i j := mulx_ok ha.h hb.h h
theorem modbd {y n B : Int} (hn : 1 ≤ n) (h : n ≤ B) : 0 ≤ y % n ∧ y % n ≤ B := ⟨Int.emod_nonneg _ (by omega), by have := Int.emod_lt_of_pos y (show 0 < n by omega); omega⟩
theorem sm_divx {i j : Int} {b : Nat} (h : j ≠ 0) (hb : Sm b j) (h0 : 0 < b) (h9 : b ≤ 9000) : CDivX i j := ⟨h, Nat.lt_of_lt_of_le (PySem.Flt.log2_lt_of h0 hb.h) h9⟩
theorem sm_div {i j : Int} {b : Nat} (h : 0 < j) (hb : Sm b j) (h0 : 0 < b) (h9 : b ≤ 9000) : CDivW i j := wide_div h hb.h h0 h9
/-! ### range of great numbers -/
theorem turn_rangeL {P : Program} {w : World} {K : PySem.W.Frag} {tg : Expr} (it : Addr) (lo c : Int) (n : Nat) : Turn P w K tg (Itc lo c n) [it] it (fun i h => PySem.IsLongIter h it (lo + (i : Nat) * c) ((n : Int) - (i : Nat)) c) where
  mem := by simp
  obj := fun i h st b hb => by
    have e : b = it := by simpa using hb
    subst e
    exact ⟨_, st, fun v z => nomatch z⟩
  keep := fun i h h' st k => k it (by simp) _ st
  item := by
    intro X hP hw hK hc i pins s σ H E I hf st hg
    subst hP hw hK
    obtain ⟨f0, f1, f2, f3, f4, f5⟩ := hf it (by simp)
    have W := Walks.longrange (prog := X.prog) (w := X.w) (I.ok.hd hc) it lo c n
    refine W.item i s _ _ hg st fun v h' tk hv st' kk => ?_
    obtain ⟨t, rfl⟩ := hv
    have I1 : Inv X pins σ H { s with heap := h', toks := tk } := I.turned (fun b o hb e => kk b o (by simpa using hb) e) f0 f1 f3 f4 f5
    exact ⟨_, rfl, go_of (s := { s with heap := h', toks := tk }) (n := "longrange_iterator") st' rfl rfl (by decide) ⟨.int (lo + (i : Nat) * c), H, I1, ⟨t, rfl⟩, ⟨rfl, rfl⟩, st', fun b hb => (hf b hb).1⟩⟩
  done := by
    intro X hP hw hK hc i pins s σ H E I hf st hg
    subst hP hw hK
    obtain ⟨f0, f1, f2, f3, f4, f5⟩ := hf it (by simp)
    exact PySem.wpAny_pyNext_long_end (I.ok.hd hc) st (by have : n ≤ i := hg; omega) fun h' eb => ⟨rfl, I.turned (t' := s.toks) (fun b o hb e => eb b o hb e) f0 f1 f3 f4 f5⟩
  self := fun A i s Q E st h => PySem.wpAny_pyIter_longiter st h
theorem itc_one (lo : Int) (n : Nat) : Itc lo 1 n = Itr lo n := by
  unfold Itc Itr
  simp only [Int.mul_one]
def Rng2L (vs : List V) (H : Hp) (R : It → Hp → Prop) : Prop := ∃ i j : Int, vs = [.int i, .int j] ∧ R (Itr i (j - i).toNat) H
def iRng2L (ta : TA) : TI := fun σ H R => ta σ H fun vs H1 => Rng2L vs H1 R
theorem pi_range2L {X : Cx} {tg : Expr} {a b : Expr} {ta : TA} {p pos : Pos} (hg : Gl X "range") (hm : X.mg "range" = none) (ha : PA X [a, b] ta) (hs : starEach [a, b] X.env = [(false, eval a X.env), (false, eval b X.env)] := by rfl) (hs2 : starEach [b] X.env = [(false, eval b X.env)] := by rfl) :
    PI X tg (.Call (.Name "range" p) [a, b] [] pos) (iRng2L ta) := by
  refine ⟨fun pins s σ H R I h => ?_⟩
  refine Call_ (ld_blt I hg hm boot_range (PyProof.Rows.callWith_type1 (thn (ha.run pos pins s σ H _ I h) fun us s1 ⟨vs, H1, I1, r1, q1⟩ => ?_) (by rw [hs, hs2]) (by rw [hs2]; rfl)))
  obtain ⟨i, j, e, q⟩ := q1
  subst e
  cases r1 with
  | cons r rr =>
    cases rr with
    | cons r' rr =>
      cases rr
      obtain ⟨t, rfl⟩ := r
      obtain ⟨t', rfl⟩ := r'
      refine PySem.call_range_2 ?_
      have I2 : Inv X pins σ H1 { s1 with heap := s1.heap.push { cls := .type "range", data := .fields #[.int i t, .int j t', .int 1 s1.toks] }, toks := s1.toks + 1 } := I1.kept (t' := s1.toks + 1) fun b o e => Heap.get?_push_of_some _ e
      have e1 : i + ((0 : Nat) : Int) * 1 = i := by simp
      have e2 : (((j - i).toNat : Nat) : Int) - ((0 : Nat) : Int) = Builtin.Range.rangeSize i j 1 := by rw [PyProof.Rows.rangeSize_nat]; simp
      rw [← itc_one] at q
      cases hsm : Builtin.Range.small i j 1 with
      | true =>
        refine wpAny_pyIter_range (IsRange.new ..) hsm ?_
        refine pi_one (tk := s1.toks + 1) I2 _ (turn_rangeC _ i 1 (j - i).toNat) ?_ q
        show IsRangeIter _ _ (i + ((0 : Nat) : Int) * 1) ((((j - i).toNat : Nat) : Int) - ((0 : Nat) : Int)) 1
        rw [e1, e2]
        exact Heap.get?_push_size _ rfl
      | false =>
        refine wpAny_pyIter_longrange (IsRange.new ..) hsm ?_
        refine pi_one (tk := s1.toks + 1) I2 _ (turn_rangeL _ i 1 (j - i).toNat) ?_ q
        show IsLongIter _ _ (i + ((0 : Nat) : Int) * 1) ((((j - i).toNat : Nat) : Int) - ((0 : Nat) : Int)) 1
        rw [e1, e2]
        exact Heap.get?_push_size _ rfl
section
variable {σ : L2.St} {H : Hp} {tr : TA} {m n : Int}
theorem k_irng2L {R : It → Hp → Prop} (h : tr σ H fun vs H1 => Rng2L vs H1 R) : iRng2L tr σ H R := h
theorem k_rng2L {R : It → Hp → Prop} (h : R (Itr m (n - m).toNat) H) : Rng2L [V.int m, V.int n] H R := ⟨m, n, rfl, h⟩
end
theorem b_dec {b : Bool} {p : Prop} [Decidable p] (h : b = true ↔ p) : b = decide p := by
  by_cases hp : p
  · rw [decide_eq_true hp]; exact h.mpr hp
  · rw [decide_eq_false hp]
    cases hb : b with
    | false => rfl
    | true => exact absurd (h.mp hb) hp
/-- a test that something differs, where it does not -/
theorem if_same {p A B : Prop} [Decidable p] (h : p) (h2 : B) : if (!decide p) = true then A else B := if_ndec (fun hn => absurd h hn) (fun _ => h2)
theorem inV3 {a x y z : Int} : inV (.int a) [.int x, .int y, .int z] = decide (a = x ∨ a = y ∨ a = z) := by
  have h := inV_ints (a := a) [x, y, z]
  have e : (decide (a ∈ [x, y, z])) = decide (a = x ∨ a = y ∨ a = z) := by
    have : a ∈ [x, y, z] ↔ (a = x ∨ a = y ∨ a = z) := by simp
    simp [this]
  exact h.trans e
theorem k_in3 {K : PySem.W.Frag} {H : Hp} {Q : VK} {a : Int} {p : Addr} {x y z : Int} (h : SqL K H p [.int x, .int y, .int z]) (q : Q (.bl (decide (a = x ∨ a = y ∨ a = z))) H) : rIn K false (.int a) (.ref p) H Q :=
  ⟨p, _, rfl, .inl h, rfl, rfl, by rw [inV3]; exact q⟩
/-! ### words that are known -/
theorem if_seq {a b : Str} {A B : Prop} (h : a = b) (x : A) : if decide (a = b) = true then A else B := if_dec (fun _ => x) (fun hn => absurd h hn)
theorem if_sne {a b : Str} {A B : Prop} (h : ¬ a = b) (x : B) : if decide (a = b) = true then A else B := if_dec (fun he => absurd he h) (fun _ => x)
theorem if_nseq {a b : Str} {A B : Prop} (h : a = b) (x : B) : if (!decide (a = b)) = true then A else B := if_ndec (fun hn => absurd h hn) (fun _ => x)
theorem if_nsne {a b : Str} {A B : Prop} (h : ¬ a = b) (x : A) : if (!decide (a = b)) = true then A else B := if_ndec (fun _ => x) (fun he => absurd he h)
theorem or_split {t u : TT} {σ : L2.St} {H : Hp} {R : Bool → Hp → Prop} (p : Prop) (hT : p → R true H) (hF : ¬ p → R false H) (h : ∀ R' : Bool → Hp → Prop, (p → R' true H) → (¬ p → R' false H) → tOr t u σ H R') : tOr t u σ H R := h R hT hF
theorem and_split {t u : TT} {σ : L2.St} {H : Hp} {R : Bool → Hp → Prop} (p : Prop) (hT : p → R true H) (hF : ¬ p → R false H) (h : ∀ R' : Bool → Hp → Prop, (p → R' true H) → (¬ p → R' false H) → tAnd t u σ H R') : tAnd t u σ H R := h R hT hF
theorem dec_two {p : Prop} [Decidable p] {R : Bool → Prop} (a : p → R true) (b : ¬ p → R false) : R (decide p) := by
  by_cases h : p
  · rw [decide_eq_true h]; exact a h
  · rw [decide_eq_false h]; exact b h
theorem dec_twoN {p : Prop} [Decidable p] {R : Bool → Prop} (a : p → R false) (b : ¬ p → R true) : R (!decide p) := by
  by_cases h : p
  · rw [decide_eq_true h]; exact a h
  · rw [decide_eq_false h]; exact b h
section
variable {σ : L2.St} {H : Hp}
def PartV (x : V) (H : Hp) (Q : Option Int → Hp → Prop) : Prop := ∃ i, x = .int i ∧ Q (some i) H
theorem k_part {t : TE} {Q : Option Int → Hp → Prop} (h : t σ H fun x H1 => PartV x H1 Q) : tPart t σ H Q := h
theorem k_partV {i : Int} {Q : Option Int → Hp → Prop} (h : Q (some i) H) : PartV (.int i) H Q := ⟨i, rfl, h⟩
theorem k_nopart {Q : Option Int → Hp → Prop} (h : Q none H) : tNoPart σ H Q := h
end

section
open Int
/-! ### remainders: the mathematics -/
theorem gcd_abs (a b : Int) : Int.gcd (if a < 0 then -a else a) (if b < 0 then -b else b) = Int.gcd a b := by
  split <;> split <;> simp
theorem abs_nn (a : Int) : 0 ≤ (if a < 0 then -a else a) := by split <;> omega
theorem abs_le {a b : Int} (h1 : -b ≤ a) (h2 : a ≤ b) : (if a < 0 then -a else a) ≤ b := by split <;> omega
theorem gcd_mod (x y : Int) : Int.gcd y (x % y) = Int.gcd x y := by
  have e : x % y = x - y * (x / y) := Int.emod_def x y
  rw [e, Int.gcd_comm, Int.mul_comm, Int.gcd_sub_mul_right_left]
theorem gcd_zero (x : Int) (h : 0 ≤ x) : ((Int.gcd x 0 : Nat) : Int) = x := by
  rw [Int.gcd_zero_right]; omega
/-- the least common multiple of two numbers from 1 on, as the program reckons it -/
def lcmI (a b : Int) : Int := a / (Int.gcd a b : Nat) * b
theorem gcd_pos {a b : Int} (ha : 1 ≤ a) : 1 ≤ ((Int.gcd a b : Nat) : Int) := by
  have : Int.gcd a b ≠ 0 := fun h => by
    have := Int.gcd_eq_zero_iff.mp h
    omega
  omega
theorem gcd_le {a b : Int} (ha : 1 ≤ a) : ((Int.gcd a b : Nat) : Int) ≤ a := Int.le_of_dvd (by omega) (Int.gcd_dvd_left a b)
theorem gcd_le' {a b : Int} (hb : 1 ≤ b) : ((Int.gcd a b : Nat) : Int) ≤ b := Int.le_of_dvd (by omega) (Int.gcd_dvd_right a b)
theorem lcm_mul_gcd {a b : Int} (ha : 1 ≤ a) : lcmI a b * (Int.gcd a b : Nat) = a * b := by
  have h := Int.ediv_mul_cancel (Int.gcd_dvd_left a b)
  unfold lcmI
  rw [Int.mul_assoc, Int.mul_comm b, ← Int.mul_assoc, h]
theorem lcm_pos {a b : Int} (ha : 1 ≤ a) (hb : 1 ≤ b) : 1 ≤ lcmI a b := by
  have h := lcm_mul_gcd (b := b) ha
  have h1 := gcd_pos (b := b) ha
  have h2 : 0 < a * b := Int.mul_pos (by omega) (by omega)
  rw [← h] at h2
  have := Int.pos_of_mul_pos_left h2 (by omega)
  omega
theorem dvd_lcm_right (a b : Int) : b ∣ lcmI a b := ⟨_, Int.mul_comm _ _⟩
theorem dvd_lcm_left {a b : Int} (ha : 1 ≤ a) : a ∣ lcmI a b := by
  obtain ⟨k, hk⟩ := Int.gcd_dvd_right a b
  have h := lcm_mul_gcd (b := b) ha
  have h1 := gcd_pos (b := b) ha
  refine ⟨k, ?_⟩
  have e : lcmI a b * (Int.gcd a b : Nat) = a * k * (Int.gcd a b : Nat) := by
    rw [h, Int.mul_assoc, Int.mul_comm k, ← hk]
  exact Int.eq_of_mul_eq_mul_right (by omega) e
theorem lcm_comm {a b : Int} (ha : 1 ≤ a) (hb : 1 ≤ b) : lcmI a b = lcmI b a := by
  have h := lcm_mul_gcd (b := b) ha
  have h' := lcm_mul_gcd (b := a) hb
  have h1 := gcd_pos (b := b) ha
  rw [Int.gcd_comm b a, Int.mul_comm b a, ← h] at h'
  exact (Int.eq_of_mul_eq_mul_right (by omega) h').symm
theorem bezout_dvd {a b u v g x : Int} (e : u * a + v * b = g) (ha : x ∣ a) (hb : x ∣ b) : x ∣ g := by
  rw [← e]; exact Int.dvd_add (Int.dvd_mul_of_dvd_right ha) (Int.dvd_mul_of_dvd_right hb)
theorem lcm_least {a b x : Int} (ha : 1 ≤ a) (hb : 1 ≤ b) (h1 : a ∣ x) (h2 : b ∣ x) : lcmI a b ∣ x := by
  -- a * b divides x * gcd
  have hg := gcd_pos (b := b) ha
  have h := lcm_mul_gcd (b := b) ha
  have hd : a * b ∣ x * (Int.gcd a b : Nat) := by
    have e : x * ((Int.gcd a b : Nat) : Int) = ((Int.gcd (x * a) (x * b) : Nat) : Int) ∨ x * ((Int.gcd a b : Nat) : Int) = -((Int.gcd (x * a) (x * b) : Nat) : Int) := by
      rw [Int.gcd_mul_left, Int.natCast_mul]
      rcases Int.natAbs_eq x with hx | hx
      · left; rw [← hx]
      · right
        have : ((x.natAbs : Nat) : Int) = -x := by omega
        rw [this, Int.neg_mul, Int.neg_neg]
    have d1 : a * b ∣ x * a := by rw [Int.mul_comm x a]; exact Int.mul_dvd_mul (Int.dvd_refl a) h2
    have d2 : a * b ∣ x * b := by exact Int.mul_dvd_mul h1 (Int.dvd_refl b)
    have d3 := Int.dvd_coe_gcd d1 d2
    rcases e with e | e
    · rw [e]; exact d3
    · rw [e]; exact Int.dvd_neg.mpr d3
  rw [← h] at hd
  exact Int.dvd_of_mul_dvd_mul_right (by omega) hd
theorem lcm_le_mul {a b : Int} (ha : 1 ≤ a) (hb : 1 ≤ b) : lcmI a b ≤ a * b := by
  have h := lcm_mul_gcd (b := b) ha
  have hg := gcd_pos (b := b) ha
  have hl := lcm_pos ha hb
  have := Int.mul_le_mul_of_nonneg_left hg (show (0 : Int) ≤ lcmI a b by omega)
  omega
/-! ### the equation: one step, and how great its numbers grow -/
theorem eq_rest {r1 r2 : Int} (h : r2 ≠ 0) : (0 < r2 → 0 ≤ r1 - r1.fdiv r2 * r2 ∧ r1 - r1.fdiv r2 * r2 < r2) ∧ (r2 < 0 → r2 < r1 - r1.fdiv r2 * r2 ∧ r1 - r1.fdiv r2 * r2 ≤ 0) := by
  constructor
  · intro h0
    rw [Int.fdiv_eq_ediv_of_nonneg _ (by omega)]
    have e := Int.emod_def r1 r2
    rw [Int.mul_comm] at e
    rw [← e]
    exact ⟨Int.emod_nonneg _ h, Int.emod_lt_of_pos _ h0⟩
  · intro h0
    have e1 : r1.fdiv r2 = (-r1) / (-r2) := by
      rw [← Int.fdiv_eq_ediv_of_nonneg (-r1) (show 0 ≤ -r2 by omega), Int.neg_fdiv_neg]
    have e := Int.emod_def (-r1) (-r2)
    have p1 := Int.emod_nonneg (-r1) (show -r2 ≠ 0 by omega)
    have p2 := Int.emod_lt_of_pos (-r1) (show 0 < -r2 by omega)
    rw [e1]
    have : r1 - (-r1) / (-r2) * r2 = -((-r1) % (-r2)) := by
      rw [e, Int.neg_mul, Int.mul_comm r2]; omega
    rw [this]
    omega
theorem gcd_rest (r1 r2 q : Int) : Int.gcd r2 (r1 - q * r2) = Int.gcd r1 r2 := by
  rw [Int.gcd_comm, Int.gcd_sub_mul_right_left]
/-- the sum of both rests times the quotient is no more than four times the sum ahead -/
theorem eq_quot {r1 r2 : Int} (h : r2 ≠ 0) : (r1.fdiv r2).natAbs * r2.natAbs ≤ r1.natAbs + r2.natAbs := by
  have hr := eq_rest (r1 := r1) h
  rw [← Int.natAbs_mul]
  generalize r1.fdiv r2 * r2 = z at *
  rcases Int.lt_or_gt_of_ne h with h0 | h0
  · have := hr.2 h0; omega
  · have := hr.1 h0; omega
/-- numbers so far are at most M, M times the cube of the rests' sum at most B: it stays so -/
theorem eq_grow {r1 r2 : Int} {M B : Nat} (h : r2 ≠ 0) (hs : (0 < r1 ∧ 0 < r2) ∨ (r1 < 0 ∧ r2 < 0)) (hlt : r2.natAbs < r1.natAbs)
    (hB : M * (r1.natAbs + r2.natAbs) ^ 3 ≤ B) : (M * (1 + (r1.fdiv r2).natAbs)) * (r2.natAbs + (r1 - r1.fdiv r2 * r2).natAbs) ^ 3 ≤ B := by
  have hr := eq_rest (r1 := r1) h
  have key : (r1.fdiv r2).natAbs * r2.natAbs + (r1 - r1.fdiv r2 * r2).natAbs = r1.natAbs ∧ 1 ≤ (r1.fdiv r2).natAbs := by
    have e := Int.natAbs_mul (r1.fdiv r2) r2
    rw [← e]
    have q1 : r1.fdiv r2 ≠ 0 := by
      intro z
      rw [z, Int.zero_mul] at hr
      omega
    refine ⟨?_, by omega⟩
    have hq : 0 ≤ r1.fdiv r2 * r2 ∧ 0 < r2 ∨ r1.fdiv r2 * r2 ≤ 0 ∧ r2 < 0 := by
      rcases hs with hs | hs
      · left; refine ⟨?_, hs.2⟩
        have := hr.1 hs.2
        rw [Int.fdiv_eq_ediv_of_nonneg _ (by omega)]
        exact Int.mul_nonneg (Int.ediv_nonneg (by omega) (by omega)) (by omega)
      · right; refine ⟨?_, hs.2⟩
        have e1 : r1.fdiv r2 = (-r1) / (-r2) := by
          rw [← Int.fdiv_eq_ediv_of_nonneg (-r1) (show 0 ≤ -r2 by omega), Int.neg_fdiv_neg]
        rw [e1]
        exact Int.mul_nonpos_of_nonneg_of_nonpos (Int.ediv_nonneg (by omega) (by omega)) (by omega)
    generalize r1.fdiv r2 * r2 = z at *
    rcases hs with hs | hs
    · have := hr.1 hs.2; omega
    · have := hr.2 hs.2; omega
  have h3 : (r1 - r1.fdiv r2 * r2).natAbs < r2.natAbs := by
    generalize r1.fdiv r2 * r2 = z at *
    rcases hs with hs | hs
    · have := hr.1 hs.2; omega
    · have := hr.2 hs.2; omega
  generalize (r1 - r1.fdiv r2 * r2).natAbs = c at *
  generalize (r1.fdiv r2).natAbs = q at *
  generalize r2.natAbs = b at *
  generalize r1.natAbs = a at *
  obtain ⟨k1, k2⟩ := key
  -- S = a + b, S' = b + c; S' (1 + q) ≤ 2 S ; 3 S' ≤ 2 S
  have t1 : (b + c) * (1 + q) ≤ 2 * (a + b) := by
    have : (b + c) * (1 + q) ≤ (2 * b) * (1 + q) := Nat.mul_le_mul_right _ (by omega)
    have e : (2 * b) * (1 + q) = 2 * b + 2 * (q * b) := by rw [Nat.mul_add, Nat.mul_one, Nat.mul_assoc, Nat.mul_comm b q]
    omega
  have t2 : 3 * (b + c) ≤ 2 * (a + b) := by
    have : b ≤ q * b := Nat.le_mul_of_pos_left _ k2
    omega
  have t3 : (3 * (b + c)) * (3 * (b + c)) ≤ (2 * (a + b)) * (2 * (a + b)) := Nat.mul_le_mul t2 t2
  generalize a + b = S at *
  generalize b + c = S' at *
  have t4 : (M * (1 + q) * S') ≤ M * (2 * S) := by
    rw [Nat.mul_assoc, Nat.mul_comm (1 + q)]; exact Nat.mul_le_mul_left _ t1
  have t5 : (M * (1 + q) * S') * ((3 * S') * (3 * S')) ≤ (M * (2 * S)) * ((2 * S) * (2 * S)) := Nat.mul_le_mul t4 t3
  have e1 : (M * (1 + q) * S') * ((3 * S') * (3 * S')) = 9 * (M * (1 + q) * S' ^ 3) := by
    simp only [Nat.pow_succ, Nat.pow_zero, Nat.one_mul]; simp only [Nat.mul_assoc, Nat.mul_comm, Nat.mul_left_comm]
  have e2 : (M * (2 * S)) * ((2 * S) * (2 * S)) = 8 * (M * S ^ 3) := by
    simp only [Nat.pow_succ, Nat.pow_zero, Nat.one_mul]; simp only [Nat.mul_assoc, Nat.mul_comm, Nat.mul_left_comm]
  rw [e1, e2] at t5
  omega
/-- between two turns of the equation, behind the first one -/
structure Later (B : Nat) (u1 v1 r1 u2 v2 r2 : Int) : Prop where
  sg : (0 < r1 ∧ 0 < r2) ∨ (r1 < 0 ∧ r2 < 0) ∨ (r2 = 0 ∧ r1 ≠ 0)
  lt : r2.natAbs < r1.natAbs
  bd : ∃ M : Nat, u1.natAbs ≤ M ∧ v1.natAbs ≤ M ∧ u2.natAbs ≤ M ∧ v2.natAbs ≤ M ∧ M * (r1.natAbs + r2.natAbs) ^ 3 ≤ B
theorem Later.le {B : Nat} {u1 v1 r1 u2 v2 r2 : Int} (h : Later B u1 v1 r1 u2 v2 r2) : u1.natAbs ≤ B ∧ v1.natAbs ≤ B ∧ u2.natAbs ≤ B ∧ v2.natAbs ≤ B := by
  obtain ⟨M, a1, a2, a3, a4, hM⟩ := h.bd
  have hp : 0 < (r1.natAbs + r2.natAbs) ^ 3 := Nat.pow_pos (by have := h.lt; omega)
  have : M ≤ B := Nat.le_trans (Nat.le_mul_of_pos_right M hp) hM
  omega
theorem mul_sub_abs {u1 u2 q : Int} {M : Nat} (h1 : u1.natAbs ≤ M) (h2 : u2.natAbs ≤ M) : (u1 - q * u2).natAbs ≤ M * (1 + q.natAbs) := by
  have e : (q * u2).natAbs ≤ M * q.natAbs := by rw [Int.natAbs_mul, Nat.mul_comm]; exact Nat.mul_le_mul_right _ h2
  rw [Nat.mul_add, Nat.mul_one]
  omega
theorem Later.step {B : Nat} {u1 v1 r1 u2 v2 r2 : Int} (h : Later B u1 v1 r1 u2 v2 r2) (h0 : r2 ≠ 0) :
    Later B u2 v2 r2 (u1 - r1.fdiv r2 * u2) (v1 - r1.fdiv r2 * v2) (r1 - r1.fdiv r2 * r2) := by
  obtain ⟨M, a1, a2, a3, a4, hM⟩ := h.bd
  have hs : (0 < r1 ∧ 0 < r2) ∨ (r1 < 0 ∧ r2 < 0) := by have := h.sg; omega
  have hr := eq_rest (r1 := r1) h0
  refine ⟨?_, ?_, ⟨M * (1 + (r1.fdiv r2).natAbs), ?_, ?_, mul_sub_abs a1 a3, mul_sub_abs a2 a4, eq_grow h0 hs h.lt hM⟩⟩
  · generalize r1 - r1.fdiv r2 * r2 = z at *
    rcases hs with hs | hs
    · have := hr.1 hs.2; omega
    · have := hr.2 hs.2; omega
  · generalize r1 - r1.fdiv r2 * r2 = z at *
    rcases hs with hs | hs
    · have := hr.1 hs.2; omega
    · have := hr.2 hs.2; omega
  · exact Nat.le_trans a3 (Nat.le_mul_of_pos_right M (by omega))
  · exact Nat.le_trans a4 (Nat.le_mul_of_pos_right M (by omega))
theorem Later.first {a b : Int} {n : Nat} (ha : a.natAbs ≤ 2 ^ n) (hb : b.natAbs ≤ 2 ^ n) (h0 : b ≠ 0) :
    Later (2 ^ (4 * n + 6)) 0 1 b (1 - a.fdiv b * 0) (0 - a.fdiv b * 1) (a - a.fdiv b * b) := by
  have hr := eq_rest (r1 := a) h0
  have hq := eq_quot (r1 := a) h0
  have h1 : (a.fdiv b).natAbs ≤ 2 ^ n + 2 ^ n := by
    have : (a.fdiv b).natAbs * 1 ≤ (a.fdiv b).natAbs * b.natAbs := Nat.mul_le_mul_left _ (by omega)
    omega
  refine ⟨?_, ?_, ⟨1 + (a.fdiv b).natAbs, by omega, by omega, ?_, ?_, ?_⟩⟩
  · generalize a - a.fdiv b * b = z at *
    rcases Int.lt_or_gt_of_ne h0 with h | h
    · have := hr.2 h; omega
    · have := hr.1 h; omega
  · generalize a - a.fdiv b * b = z at *
    rcases Int.lt_or_gt_of_ne h0 with h | h
    · have := hr.2 h; omega
    · have := hr.1 h; omega
  · rw [Int.mul_zero]; omega
  · rw [Int.mul_one]; omega
  · have h2 : b.natAbs + (a - a.fdiv b * b).natAbs ≤ 2 * 2 ^ n := by
      generalize a - a.fdiv b * b = z at *
      rcases Int.lt_or_gt_of_ne h0 with h | h
      · have := hr.2 h; omega
      · have := hr.1 h; omega
    have hp : 1 ≤ 2 ^ n := Nat.pow_pos (by decide)
    have h3 : 1 + (a.fdiv b).natAbs ≤ 2 ^ (n + 2) := by rw [Nat.pow_add]; omega
    have h4 : (b.natAbs + (a - a.fdiv b * b).natAbs) ^ 3 ≤ (2 ^ (n + 1)) ^ 3 := Nat.pow_le_pow_left (by rw [Nat.pow_add]; omega) 3
    have h5 := Nat.mul_le_mul h3 h4
    rw [← Nat.pow_mul, ← Nat.pow_add] at h5
    exact Nat.le_trans h5 (Nat.pow_le_pow_right (by decide) (by omega))
theorem fdiv_abs_le {r1 r2 : Int} (h : r2 ≠ 0) : (r1.fdiv r2).natAbs ≤ r1.natAbs + r2.natAbs := by
  have hq := eq_quot (r1 := r1) h
  have : (r1.fdiv r2).natAbs * 1 ≤ (r1.fdiv r2).natAbs * r2.natAbs := Nat.mul_le_mul_left _ (by omega)
  omega
theorem rest_lt {r1 r2 : Int} (h : r2 ≠ 0) : (r1 - r1.fdiv r2 * r2).natAbs < r2.natAbs := by
  have hr := eq_rest (r1 := r1) h
  generalize r1 - r1.fdiv r2 * r2 = z at *
  rcases Int.lt_or_gt_of_ne h with h | h
  · have := hr.2 h; omega
  · have := hr.1 h; omega
theorem bez_step {a b u1 v1 r1 u2 v2 r2 q : Int} (h1 : u1 * a + v1 * b = r1) (h2 : u2 * a + v2 * b = r2) : (u1 - q * u2) * a + (v1 - q * v2) * b = r1 - q * r2 := by
  rw [← h1, ← h2, Int.sub_mul, Int.sub_mul, Int.mul_add, Int.mul_assoc, Int.mul_assoc]
  omega
theorem met_ok {n m r s u v : Int} (hn : 1 ≤ n) (hm : 1 ≤ m) (hb : u * n + v * m = (Int.gcd n m : Nat)) (hd : (s - r) % (Int.gcd n m : Nat) = 0) :
    n ∣ (r + n * u * ((s - r) / (Int.gcd n m : Nat))) % lcmI n m - r ∧ m ∣ (r + n * u * ((s - r) / (Int.gcd n m : Nat))) % lcmI n m - s := by
  have hg := gcd_pos (b := m) hn
  have hk : (Int.gcd n m : Nat) * ((s - r) / (Int.gcd n m : Nat)) = s - r := by
    have := Int.emod_add_mul_ediv (s - r) (Int.gcd n m : Nat)
    omega
  generalize ((Int.gcd n m : Nat) : Int) = g at *
  generalize (s - r) / g = k at *
  have hL1 := dvd_lcm_left (b := m) hn
  have hL2 := dvd_lcm_right n m
  have e := Int.emod_def (r + n * u * k) (lcmI n m)
  rw [e]
  generalize (r + n * u * k) / lcmI n m = z
  constructor
  · have : r + n * u * k - lcmI n m * z - r = n * (u * k) - lcmI n m * z := by rw [Int.mul_assoc]; omega
    rw [this]
    exact Int.dvd_sub (Int.dvd_mul_right _ _) (Int.dvd_mul_of_dvd_left hL1)
  · have h2 : n * u * k = g * k - m * (v * k) := by
      have : n * u = g - m * v := by rw [← hb, Int.mul_comm u n, Int.mul_comm v m]; omega
      rw [this, Int.sub_mul, Int.mul_assoc]
    have : r + n * u * k - lcmI n m * z - s = -(m * (v * k)) - lcmI n m * z := by omega
    rw [this]
    exact Int.dvd_sub (Int.dvd_neg.mpr (Int.dvd_mul_right _ _)) (Int.dvd_mul_of_dvd_left hL2)
theorem alike_both {n m r s x d : Int} (hn : 1 ≤ n) (hm : 1 ≤ m) (h1 : n ∣ x - r) (h2 : m ∣ x - s) : ((d - r) % n = 0 ∧ (d - s) % m = 0) ↔ (d - x) % lcmI n m = 0 := by
  constructor
  · rintro ⟨a1, a2⟩
    have b1 := Int.dvd_of_emod_eq_zero a1
    have b2 := Int.dvd_of_emod_eq_zero a2
    refine Int.emod_eq_zero_of_dvd (lcm_least hn hm ?_ ?_)
    · have := Int.dvd_sub b1 h1; rwa [show d - r - (x - r) = d - x by omega] at this
    · have := Int.dvd_sub b2 h2; rwa [show d - s - (x - s) = d - x by omega] at this
  · intro a
    have b := Int.dvd_of_emod_eq_zero a
    refine ⟨Int.emod_eq_zero_of_dvd ?_, Int.emod_eq_zero_of_dvd ?_⟩
    · have := Int.dvd_add (Int.dvd_trans (dvd_lcm_left hn) b) h1; rwa [show d - x + (x - r) = d - r by omega] at this
    · have := Int.dvd_add (Int.dvd_trans (dvd_lcm_right n m) b) h2; rwa [show d - x + (x - s) = d - s by omega] at this

end

/-! ### numbers by their bits -/
def ofB (f : Nat → Bool) : Nat → Nat
  | 0 => 0
  | k + 1 => ofB f k + if f k then 2 ^ k else 0
theorem ofB_lt (f : Nat → Bool) : ∀ n, ofB f n < 2 ^ n
  | 0 => by simp [ofB]
  | k + 1 => by
    have := ofB_lt f k
    unfold ofB
    rw [Nat.pow_succ]
    split <;> omega
theorem tb_ofB (f : Nat → Bool) : ∀ n i, (ofB f n).testBit i = (decide (i < n) && f i)
  | 0, i => by simp [ofB]
  | k + 1, i => by
    have ih := tb_ofB f k
    have hl := ofB_lt f k
    unfold ofB
    by_cases hf : f k = true
    · rw [if_pos hf]
      have e : ofB f k + 2 ^ k = 2 ^ k * 1 + ofB f k := by omega
      rw [e, Nat.testBit_two_pow_mul_add _ hl]
      by_cases h : i < k
      · rw [if_pos h, ih, decide_eq_true h, decide_eq_true (show i < k + 1 by omega)]
      · rw [if_neg h]
        by_cases h2 : i = k
        · subst h2; simp [hf]
        · rw [decide_eq_false (show ¬ i < k + 1 by omega)]
          have : i - k ≠ 0 := by omega
          
          have t1 : Nat.testBit 1 (i - k) = false := by
            cases e1 : Nat.testBit 1 (i - k) with
            | false => rfl
            | true => exact absurd (Nat.testBit_one_eq_true_iff_self_eq_zero.mp e1) this
          simp [t1]
    · rw [if_neg hf, Nat.add_zero, ih]
      by_cases h2 : i = k
      · subst h2
        have hf' : f i = false := by simpa using hf
        simp [hf']
      · have : (decide (i < k)) = decide (i < k + 1) := by
          by_cases h : i < k
          · rw [decide_eq_true h, decide_eq_true (show i < k + 1 by omega)]
          · rw [decide_eq_false h, decide_eq_false (show ¬ i < k + 1 by omega)]
        rw [this]
theorem ofB_ext {f g : Nat → Bool} {n : Nat} (h : ∀ i, i < n → f i = g i) : ofB f n = ofB g n := by
  apply Nat.eq_of_testBit_eq
  intro i
  rw [tb_ofB, tb_ofB]
  by_cases hi : i < n
  · rw [h i hi]
  · rw [decide_eq_false hi]; rfl
theorem eq_ofB {x n : Nat} {f : Nat → Bool} (hx : ∀ i, x.testBit i = (decide (i < n) && f i)) : x = ofB f n := by
  apply Nat.eq_of_testBit_eq
  intro i
  rw [tb_ofB]; exact hx i
theorem ofB_self {x n : Nat} (hx : x < 2 ^ n) : ofB x.testBit n = x := by
  symm
  apply eq_ofB
  intro i
  by_cases hi : i < n
  · rw [decide_eq_true hi]; rfl
  · rw [decide_eq_false hi, Bool.false_and]
    exact Nat.testBit_lt_two_pow (Nat.lt_of_lt_of_le hx (Nat.pow_le_pow_right (by decide) (by omega)))
/-- whether a round holds on a day -/
def hold (n b : Nat) (d : Int) : Bool := b.testBit (d % (n : Int)).toNat
/-- the bits of the days of one round -/
def bitsOf (n : Nat) (f : Int → Bool) : Nat := ofB (fun i => f i) n
theorem bitsOf_lt (n : Nat) (f : Int → Bool) : bitsOf n f < 2 ^ n := ofB_lt _ _
theorem mod_lt' {n : Nat} (hn : 1 ≤ n) (d : Int) : (d % (n : Int)).toNat < n ∧ (((d % (n : Int)).toNat : Nat) : Int) = d % (n : Int) := by
  have h1 := Int.emod_nonneg d (show (n : Int) ≠ 0 by omega)
  have h2 := Int.emod_lt_of_pos d (show (0 : Int) < n by omega)
  omega
theorem hold_bitsOf {n : Nat} (hn : 1 ≤ n) (f : Int → Bool) (d : Int) : hold n (bitsOf n f) d = f (d % (n : Int)) := by
  obtain ⟨h1, h2⟩ := mod_lt' hn d
  unfold hold bitsOf
  rw [tb_ofB, decide_eq_true h1, Bool.true_and, h2]
theorem hold_per (n b : Nat) (d : Int) : hold n b (d % (n : Int)) = hold n b d := by
  unfold hold
  rw [Int.emod_emod_of_dvd _ (Int.dvd_refl _)]
theorem hold_eq {n b : Nat} {d e : Int} (h : d % (n : Int) = e % (n : Int)) : hold n b d = hold n b e := by
  unfold hold; rw [h]
theorem hold_nat {n b i : Nat} (hi : i < n) : hold n b (i : Int) = b.testBit i := by
  unfold hold
  have : ((i : Int) % (n : Int)) = i := Int.emod_eq_of_lt (by omega) (by omega)
  rw [this]; rfl
theorem bitsOf_self {n b : Nat} (hb : b < 2 ^ n) : bitsOf n (hold n b) = b := by
  unfold bitsOf
  rw [ofB_ext (g := b.testBit) (fun i hi => hold_nat hi)]
  exact ofB_self hb
theorem bitsOf_ext {n : Nat} {f g : Int → Bool} (h : ∀ i : Nat, i < n → f i = g i) : bitsOf n f = bitsOf n g := ofB_ext h
theorem eq_bitsOf {x n : Nat} {f : Int → Bool} (hx : x < 2 ^ n) (h : ∀ i : Nat, i < n → x.testBit i = f i) : x = bitsOf n f := by
  apply eq_ofB
  intro i
  by_cases hi : i < n
  · rw [decide_eq_true hi, h i hi]; rfl
  · rw [decide_eq_false hi, Bool.false_and]
    exact Nat.testBit_lt_two_pow (Nat.lt_of_lt_of_le hx (Nat.pow_le_pow_right (by decide) (by omega)))
theorem hold_mod {n : Nat} {f : Int → Bool} (hn : 1 ≤ n) (hf : ∀ d : Int, f (d % (n : Int)) = f d) (d : Int) : hold n (bitsOf n f) d = f d := by
  rw [hold_bitsOf hn, hf]
/-! ### the machine's operators on numbers from 0 on -/
theorem and_c (a b : Nat) : Builtin.bitAnd (a : Int) (b : Int) = ((a &&& b : Nat) : Int) := by
  rw [bitAnd_pp (Int.natCast_nonneg _) (Int.natCast_nonneg _), Int.toNat_natCast, Int.toNat_natCast]
theorem or_c (a b : Nat) : Builtin.bitOr (a : Int) (b : Int) = ((a ||| b : Nat) : Int) := by
  rw [bitOr_nn (Int.natCast_nonneg _) (Int.natCast_nonneg _), Int.toNat_natCast, Int.toNat_natCast]
theorem xor_c (a b : Nat) : Builtin.bitXor (a : Int) (b : Int) = ((a ^^^ b : Nat) : Int) := by
  rw [Bits.bitXor_pp (Int.natCast_nonneg _) (Int.natCast_nonneg _), Int.toNat_natCast, Int.toNat_natCast]
theorem pow_c (k : Nat) : (2 : Int) ^ k = ((2 ^ k : Nat) : Int) := (PySem.W.kbt_cast k).symm
theorem shl_c (a k : Nat) : (a : Int) * 2 ^ k = ((a * 2 ^ k : Nat) : Int) := by rw [pow_c, Int.natCast_mul]
theorem shr_c (a k : Nat) : (a : Int) / 2 ^ k = ((a / 2 ^ k : Nat) : Int) := by rw [pow_c, Int.natCast_ediv]
theorem mask_c (k : Nat) : (2 : Int) ^ k - 1 = ((2 ^ k - 1 : Nat) : Int) := by
  have := Nat.two_pow_pos k
  rw [pow_c]; omega
/-- (bits >> place) & 1 == 1 -/
theorem on_val (b : Nat) (z : Int) : decide (Builtin.bitAnd ((b : Int) / 2 ^ z.toNat) 1 = 1) = b.testBit z.toNat := by
  rw [shr_c, bitAnd_m1, Nat.testBit_eq_decide_div_mod_eq]
  congr 1
  apply propext
  omega
/-- (bits >> place) % 2 == 1 -/
theorem on_val2 (b : Nat) (z : Int) : decide ((b : Int) / 2 ^ z.toNat % 2 = 1) = b.testBit z.toNat := by
  rw [shr_c, Nat.testBit_eq_decide_div_mod_eq]
  congr 1
  apply propext
  omega
theorem and_mask (a k : Nat) : Builtin.bitAnd (a : Int) (2 ^ k - 1) = ((a % 2 ^ k : Nat) : Int) := by
  rw [mask_c, and_c, Nat.and_two_pow_sub_one_eq_mod]
theorem sm_nat {x n : Nat} (h : x < 2 ^ n) : Sm n (x : Int) := ⟨by rw [Int.natAbs_natCast]; exact h⟩
theorem sm_ofB {f : Nat → Bool} {m : Nat} (h : m ≤ 400000) : Sm 400000 ((ofB f m : Nat) : Int) := sm_mono (sm_nat (ofB_lt f m)) h
theorem sm_bitsOf {f : Int → Bool} {m : Nat} (h : m ≤ 400000) : Sm 400000 ((bitsOf m f : Nat) : Int) := sm_mono (sm_nat (bitsOf_lt m f)) h
theorem cshl {i j : Int} {n : Nat} (hi : Sm n i) (h0 : 0 ≤ j) (hj : j ≤ 100000000) (hn : n ≤ 34217728) : CShl i j := by
  obtain ⟨k, rfl⟩ := Int.eq_ofNat_of_zero_le h0
  exact shl_ok hi.h (by omega)
theorem sm_modp {x k n : Nat} (h : Sm n (x : Int)) : Sm n ((x % 2 ^ k : Nat) : Int) := by
  have h1 := h.h
  rw [Int.natAbs_natCast] at h1
  exact sm_nat (Nat.lt_of_le_of_lt (Nat.mod_le _ _) h1)
theorem sm_divp {x k n : Nat} (h : Sm n (x : Int)) : Sm n ((x / 2 ^ k : Nat) : Int) := by
  have h1 := h.h
  rw [Int.natAbs_natCast] at h1
  exact sm_nat (Nat.lt_of_le_of_lt (Nat.div_le_self _ _) h1)
theorem sm_shl {x n : Nat} {j : Int} (h : Sm n (x : Int)) (hj : j ≤ 400000) : Sm (n + 400000) ((x * 2 ^ j.toNat : Nat) : Int) := by
  have h1 := h.h
  rw [Int.natAbs_natCast] at h1
  refine sm_nat ?_
  rw [Nat.pow_add]
  exact Nat.mul_lt_mul_of_lt_of_le h1 (Nat.pow_le_pow_right (by decide) (by omega)) (Nat.two_pow_pos _)
theorem sm_or {x y n m : Nat} (h : Sm n (x : Int)) (h' : Sm m (y : Int)) : Sm (n + m) ((x ||| y : Nat) : Int) := by
  have h1 := (sm_mono h (Nat.le_add_right n m)).h
  have h2 := (sm_mono h' (Nat.le_add_left m n)).h
  rw [Int.natAbs_natCast] at h1 h2
  exact sm_nat (Nat.or_lt_two_pow h1 h2)
theorem sm_xor {x y n m : Nat} (h : Sm n (x : Int)) (h' : Sm m (y : Int)) : Sm (n + m) ((x ^^^ y : Nat) : Int) := by
  have h1 := (sm_mono h (Nat.le_add_right n m)).h
  have h2 := (sm_mono h' (Nat.le_add_left m n)).h
  rw [Int.natAbs_natCast] at h1 h2
  exact sm_nat (Nat.xor_lt_two_pow h1 h2)
theorem sm_and {x y n : Nat} (h : Sm n (x : Int)) : Sm n ((x &&& y : Nat) : Int) := by
  have h1 := h.h
  rw [Int.natAbs_natCast] at h1
  exact sm_nat (Nat.lt_of_le_of_lt Nat.and_le_left h1)
theorem sm_mask {j : Int} (hj : j ≤ 400000) : Sm 400001 ((2 : Int) ^ j.toNat - 1) := by
  rw [mask_c]
  refine sm_nat ?_
  have : 2 ^ j.toNat ≤ 2 ^ 400000 := Nat.pow_le_pow_right (by decide) (by omega)
  have h2 : (2 : Nat) ^ 400001 = 2 ^ 400000 * 2 := Nat.pow_succ ..
  have := Nat.two_pow_pos 400000
  generalize (2 : Nat) ^ 400000 = X at *
  omega
/-! ### steps: the operators on numbers from 0 on -/
section
variable {H : Hp} {Q : VK} {x y k : Nat} {j : Int}
theorem k_andm (q : Q (.int ((x % 2 ^ k : Nat) : Int)) H) : rI0 (fun i j => .int (Builtin.bitAnd i j)) (.int (x : Int)) (.int (2 ^ k - 1)) H Q := ⟨_, _, rfl, rfl, by dsimp only; rw [and_mask]; exact q⟩
theorem k_andc (q : Q (.int ((x &&& y : Nat) : Int)) H) : rI0 (fun i j => .int (Builtin.bitAnd i j)) (.int (x : Int)) (.int (y : Int)) H Q := ⟨_, _, rfl, rfl, by dsimp only; rw [and_c]; exact q⟩
theorem k_orc (q : Q (.int ((x ||| y : Nat) : Int)) H) : rI0 (fun i j => .int (Builtin.bitOr i j)) (.int (x : Int)) (.int (y : Int)) H Q := ⟨_, _, rfl, rfl, by dsimp only; rw [or_c]; exact q⟩
theorem k_xorc (q : Q (.int ((x ^^^ y : Nat) : Int)) H) : rI0 (fun i j => .int (Builtin.bitXor i j)) (.int (x : Int)) (.int (y : Int)) H Q := ⟨_, _, rfl, rfl, by dsimp only; rw [xor_c]; exact q⟩
theorem k_xorm (q : Q (.int ((x ^^^ (2 ^ k - 1) : Nat) : Int)) H) : rI0 (fun i j => .int (Builtin.bitXor i j)) (.int (x : Int)) (.int (2 ^ k - 1)) H Q := ⟨_, _, rfl, rfl, by dsimp only; rw [mask_c, xor_c]; exact q⟩
theorem k_shlc (c : CShl (x : Int) j) (q : Q (.int ((x * 2 ^ j.toNat : Nat) : Int)) H) : rI CShl (fun i j => .int (i * 2 ^ j.toNat)) (.int (x : Int)) (.int j) H Q := ⟨_, _, rfl, rfl, c, by dsimp only; rw [shl_c]; exact q⟩
theorem k_shrc (c : 0 ≤ j) (q : Q (.int ((x / 2 ^ j.toNat : Nat) : Int)) H) : rI (fun _ j => 0 ≤ j) (fun i j => .int (i / 2 ^ j.toNat)) (.int (x : Int)) (.int j) H Q := ⟨_, _, rfl, rfl, c, by dsimp only; rw [shr_c]; exact q⟩
/-- 1 << k -/
theorem k_shl1 (c : 0 ≤ j ∧ j ≤ 100000000) (q : Q (.int ((2 ^ j.toNat : Nat) : Int)) H) : rI CShl (fun i j => .int (i * 2 ^ j.toNat)) (.int 1) (.int j) H Q :=
  ⟨_, _, rfl, rfl, cshl (sm41 (by omega) (by omega)) c.1 c.2 (by decide), by dsimp only; rw [Int.one_mul, pow_c]; exact q⟩
end
/-! ### rounds -/
/-- a round at an address: its size and its bits -/
structure RT (K : PySem.W.Frag) (H : Hp) (a : Addr) (n b : Nat) : Prop where
  t : SqT K H a [.int (n : Int), .int (b : Int)]
  n1 : 1 ≤ n
  n2 : n ≤ 150000
  lt : b < 2 ^ n
theorem RT.mono {K : PySem.W.Frag} {H H' : Hp} {a : Addr} {n b : Nat} (r : RT K H a n b) (e : Same H H') : RT K H' a n b := ⟨same_t e r.t, r.n1, r.n2, r.lt⟩
theorem RT.sm {K : PySem.W.Frag} {H : Hp} {a : Addr} {n b : Nat} (r : RT K H a n b) : Sm 400000 (b : Int) := sm_mono (sm_nat r.lt) (by have := r.n2; omega)
/-! ### stretched -/
theorem str_step {g : Nat → Bool} {h k n : Nat} (hg : ∀ i, g (i % n) = g i) (hn : n ∣ h) (hk : k ≤ h) :
    (ofB g h) ||| (ofB g h % 2 ^ k * 2 ^ h) = ofB g (h + k) := by
  apply eq_ofB
  intro i
  rw [Nat.testBit_or, tb_ofB, Nat.testBit_mul_two_pow, Nat.testBit_mod_two_pow, tb_ofB]
  by_cases h1 : i < h
  · rw [decide_eq_true h1, decide_eq_false (show ¬ h ≤ i by omega), decide_eq_true (show i < h + k by omega)]
    simp
  · rw [decide_eq_false h1, decide_eq_true (show h ≤ i by omega)]
    by_cases h2 : i < h + k
    · rw [decide_eq_true h2, decide_eq_true (show i - h < k by omega), decide_eq_true (show i - h < h by omega)]
      have : g (i - h) = g i := by
        rw [← hg (i - h), ← hg i]
        obtain ⟨c, rfl⟩ := hn
        congr 1
        have e : i = (i - n * c) + n * c := by omega
        conv => rhs; rw [e]
        rw [Nat.add_mul_mod_self_left]
      simp [this]
    · rw [decide_eq_false h2, decide_eq_false (show ¬ i - h < k by omega)]
      simp
/-- the bits of a round told by a multiple of its size -/
theorem str_bits {n b m : Nat} (hn : 1 ≤ n) : ofB (fun i => b.testBit (i % n)) m = bitsOf m (hold n b) := by
  unfold bitsOf
  apply ofB_ext
  intro i _
  unfold hold
  congr 1
theorem str_start {n b : Nat} (hb : b < 2 ^ n) : b = ofB (fun i => b.testBit (i % n)) n := by
  apply eq_ofB
  intro i
  by_cases hi : i < n
  · rw [decide_eq_true hi, Nat.mod_eq_of_lt hi]; rfl
  · rw [decide_eq_false hi, Bool.false_and]
    exact Nat.testBit_lt_two_pow (Nat.lt_of_lt_of_le hb (Nat.pow_le_pow_right (by decide) (by omega)))
/-! ### the other functions over rounds -/
theorem on_valc (b : Nat) (z : Nat) : decide (Builtin.bitAnd ((b / 2 ^ z : Nat) : Int) 1 = 1) = b.testBit z := by
  rw [bitAnd_m1, Nat.testBit_eq_decide_div_mod_eq]
  congr 1
  apply propext
  omega
theorem on_valc2 (b : Nat) (z : Nat) : decide (((b / 2 ^ z : Nat) : Int) % 2 = 1) = b.testBit z := by
  rw [Nat.testBit_eq_decide_div_mod_eq]
  congr 1
  apply propext
  omega
theorem hold_dvd {n b m : Nat} (hd : n ∣ m) (d : Int) : hold n b (d % (m : Int)) = hold n b d := by
  unfold hold
  rw [Int.emod_emod_of_dvd _ (Int.natCast_dvd_natCast.mpr hd)]
theorem hold_str {n b m : Nat} (hm : 1 ≤ m) (hd : n ∣ m) (d : Int) : hold m (bitsOf m (hold n b)) d = hold n b d := hold_mod hm (fun d => hold_dvd hd d) d
theorem tb_bitsOf (n : Nat) (f : Int → Bool) (i : Nat) : (bitsOf n f).testBit i = (decide (i < n) && f i) := tb_ofB _ _ _
theorem both_bits (m : Nat) (f g : Int → Bool) : bitsOf m f &&& bitsOf m g = bitsOf m (fun d => f d && g d) := by
  apply Nat.eq_of_testBit_eq; intro i
  simp only [Nat.testBit_and, tb_bitsOf]
  cases decide (i < m) <;> simp
theorem either_bits (m : Nat) (f g : Int → Bool) : bitsOf m f ||| bitsOf m g = bitsOf m (fun d => f d || g d) := by
  apply Nat.eq_of_testBit_eq; intro i
  simp only [Nat.testBit_or, tb_bitsOf]
  cases decide (i < m) <;> simp
theorem unlike_bits (m : Nat) (f g : Int → Bool) : bitsOf m f ^^^ bitsOf m g = bitsOf m (fun d => f d != g d) := by
  apply Nat.eq_of_testBit_eq; intro i
  simp only [Nat.testBit_xor, tb_bitsOf]
  cases decide (i < m) <;> simp
theorem without_bits (m : Nat) (f g : Int → Bool) : bitsOf m f ^^^ (bitsOf m f &&& bitsOf m g) = bitsOf m (fun d => f d && !g d) := by
  apply Nat.eq_of_testBit_eq; intro i
  simp only [Nat.testBit_xor, Nat.testBit_and, tb_bitsOf]
  cases decide (i < m) <;> simp
  cases f i <;> cases g i <;> rfl
theorem other_bits {n b : Nat} (hb : b < 2 ^ n) : b ^^^ (2 ^ n - 1) = bitsOf n (fun d => !hold n b d) := by
  apply Nat.eq_of_testBit_eq; intro i
  rw [Nat.testBit_xor, Nat.testBit_two_pow_sub_one, tb_bitsOf]
  by_cases h : i < n
  · rw [decide_eq_true h, hold_nat h]; cases b.testBit i <;> rfl
  · rw [decide_eq_false h, Nat.testBit_lt_two_pow (Nat.lt_of_lt_of_le hb (Nat.pow_le_pow_right (by decide) (by omega)))]; rfl
/-- ((b << s) | (b >> (n - s))) & mask(n), s the remainder of the number -/
theorem later_bits {n b : Nat} (hn : 1 ≤ n) (hb : b < 2 ^ n) (k : Int) :
    ((b * 2 ^ (k % (n : Int)).toNat) ||| (b / 2 ^ ((n : Int) - k % (n : Int)).toNat)) % 2 ^ n = bitsOf n (fun d => hold n b (d - k)) := by
  obtain ⟨h1, h2⟩ := mod_lt' hn k
  have ed := Int.emod_add_mul_ediv k (n : Int)
  generalize hs : (k % (n : Int)).toNat = s at *
  have e2 : ((n : Int) - k % (n : Int)).toNat = n - s := by omega
  rw [e2]
  apply Nat.eq_of_testBit_eq; intro i
  rw [Nat.testBit_mod_two_pow, Nat.testBit_or, Nat.testBit_mul_two_pow, Nat.testBit_div_two_pow, tb_bitsOf]
  by_cases h : i < n
  · rw [decide_eq_true h, Bool.true_and, Bool.true_and]
    by_cases h3 : s ≤ i
    · have e : ((i : Int) - k) % (n : Int) = ((i - s : Nat) : Int) % (n : Int) := by
        have : (i : Int) - k = ((i - s : Nat) : Int) - n * (k / n) := by omega
        rw [this, Int.sub_mul_emod_self_left]
      rw [decide_eq_true h3, hold_eq e, hold_nat (by omega), Nat.testBit_lt_two_pow (x := b) (i := i + (n - s)) (Nat.lt_of_lt_of_le hb (Nat.pow_le_pow_right (by decide) (by omega)))]
      simp
    · have e : ((i : Int) - k) % (n : Int) = ((i + (n - s) : Nat) : Int) % (n : Int) := by
        have : (i : Int) - k = ((i + (n - s) : Nat) : Int) - n * (k / n + 1) := by rw [Int.mul_add]; omega
        rw [this, Int.sub_mul_emod_self_left]
      rw [decide_eq_false h3, hold_eq e, hold_nat (by omega)]
      simp
  · rw [decide_eq_false h]; rfl
theorem lcm_c {n m : Nat} (hn : 1 ≤ n) : lcmI (n : Int) (m : Int) = ((Nat.lcm n m : Nat) : Int) := by
  have h1 := lcm_mul_gcd (a := (n : Int)) (b := (m : Int)) (by omega)
  have hg := gcd_pos (a := (n : Int)) (b := (m : Int)) (by omega)
  have h2 := Nat.gcd_mul_lcm n m
  have e : ((Int.gcd (n : Int) (m : Int) : Nat) : Int) = ((Nat.gcd n m : Nat) : Int) := by rw [Int.gcd_natCast_natCast]
  rw [e] at h1 hg
  have h3 : ((Nat.lcm n m : Nat) : Int) * ((Nat.gcd n m : Nat) : Int) = (n : Int) * m := by
    rw [← Int.natCast_mul, ← Int.natCast_mul, Nat.mul_comm, h2]
  exact Int.eq_of_mul_eq_mul_right (by omega) (h1.trans h3.symm)
theorem lcm1 {n m : Nat} (hn : 1 ≤ n) (hm : 1 ≤ m) : 1 ≤ Nat.lcm n m := Nat.lcm_pos hn hm
/-! ### drawn rounds -/
theorem pow_pos_c (k : Nat) : (0 : Int) < ((2 ^ k : Nat) : Int) := by have := Nat.two_pow_pos k; omega
theorem natmod (i : Int) (n : Nat) : ∃ x : Nat, i % ((2 ^ (n : Int).toNat : Nat) : Int) = (x : Int) ∧ x < 2 ^ n := by
  rw [Int.toNat_natCast]
  have hp := Nat.two_pow_pos n
  have h1 := Int.emod_nonneg i (show ((2 ^ n : Nat) : Int) ≠ 0 by omega)
  have h2 := Int.emod_lt_of_pos i (show (0 : Int) < ((2 ^ n : Nat) : Int) by omega)
  exact ⟨(i % ((2 ^ n : Nat) : Int)).toNat, by omega, by omega⟩
theorem mask_nat (n : Nat) : ((2 ^ (n : Int).toNat : Nat) : Int) - 1 = ((2 ^ n - 1 : Nat) : Int) := by
  rw [Int.toNat_natCast]
  have hp := Nat.two_pow_pos n
  omega
theorem one_lt {n : Nat} (hn : 1 ≤ n) (z : Int) : 2 ^ (z % (n : Int)).toNat < 2 ^ n := Nat.pow_lt_pow_right (by decide) (mod_lt' hn z).1
theorem pow_le {n : Nat} : 2 ^ n - 1 < 2 ^ n := by have := Nat.two_pow_pos n; omega
/-- what a law asks of a told round: from 0 on and below 1 << size -/
theorem told_bits {n b : Nat} (h : b < 2 ^ n) : ((b : Nat) : Int) < ((2 ^ (n : Int).toNat : Nat) : Int) := by rw [Int.toNat_natCast]; exact Int.ofNat_lt.mpr h
def sp_round (K : PySem.W.Frag) (S : Nat) : Sp := fun vs H Q _ => ∃ (x y : Int), vs = [.int x, .int y] ∧ Sm 1048576 x ∧ Sm 1048576 y ∧
  ∀ (p : Addr) (H' : Hp) (n b : Nat), Same H H' → RT K H' p n b → n ≤ S → Q (.ref p) H'
theorem k_round {K : PySem.W.Frag} {S : Nat} {H : Hp} {Q : VK} {E : XK} {x y : Int} (h1 : Sm 1048576 x) (h2 : Sm 1048576 y)
    (q : ∀ (p : Addr) (H' : Hp) (n b : Nat), Same H H' → RT K H' p n b → n ≤ S → Q (.ref p) H') : sp_round K S [.int x, .int y] H Q E := ⟨x, y, rfl, h1, h2, q⟩
/-! ### folded -/
/-- the days of a round by a divisor of its size -/
def foldB (s b : Nat) : Nat → Nat
  | 0 => 0
  | k + 1 => (b % 2 ^ s) ||| foldB s (b / 2 ^ s) k
theorem tb_fold (s : Nat) : ∀ (k b i : Nat), (foldB s b k).testBit i = true ↔ (i < s ∧ ∃ j, j < k ∧ b.testBit (i + j * s) = true)
  | 0, b, i => by simp [foldB]
  | k + 1, b, i => by
    have ih := tb_fold s k (b / 2 ^ s) i
    unfold foldB
    rw [Nat.testBit_or, Bool.or_eq_true, ih, Nat.testBit_mod_two_pow, Bool.and_eq_true, decide_eq_true_eq]
    constructor
    · rintro (⟨h1, h2⟩ | ⟨h1, j, h2, h3⟩)
      · exact ⟨h1, 0, by omega, by simpa using h2⟩
      · refine ⟨h1, j + 1, by omega, ?_⟩
        rw [Nat.testBit_div_two_pow] at h3
        rw [Nat.add_mul, Nat.one_mul, ← Nat.add_assoc]; exact h3
    · rintro ⟨h1, j, h2, h3⟩
      cases j with
      | zero => exact .inl ⟨h1, by simpa using h3⟩
      | succ j =>
        refine .inr ⟨h1, j, by omega, ?_⟩
        rw [Nat.testBit_div_two_pow]
        rw [Nat.add_mul, Nat.one_mul, ← Nat.add_assoc] at h3; exact h3
theorem fold_lt (s b k : Nat) : foldB s b k < 2 ^ s := by
  apply Nat.lt_pow_two_of_testBit
  intro i hi
  cases h : (foldB s b k).testBit i with
  | false => rfl
  | true =>
    have := (tb_fold s k b i).mp h
    omega
theorem fold_zero (s : Nat) : ∀ k, foldB s 0 k = 0
  | 0 => rfl
  | k + 1 => by unfold foldB; rw [Nat.zero_div, fold_zero s k]; simp
/-- it holds where the round holds on some day that is alike -/
theorem fold_hold {n s b : Nat} (hn : 1 ≤ n) (hs : 1 ≤ s) (hd : s ∣ n) (hb : b < 2 ^ n) (d : Int) : hold s (foldB s b (n / s)) d = true ↔ ∃ e : Int, hold n b e = true ∧ (e - d) % (s : Int) = 0 := by
  obtain ⟨c, rfl⟩ := hd
  have hc : s * c / s = c := Nat.mul_div_cancel_left c (by omega)
  rw [hc]
  obtain ⟨h1, h2⟩ := mod_lt' hs d
  unfold hold
  rw [tb_fold]
  constructor
  · rintro ⟨_, j, hj, hjb⟩
    refine ⟨((((d % (s : Int)).toNat + j * s : Nat)) : Int), ?_, ?_⟩
    · have hlt : (d % (s : Int)).toNat + j * s < s * c := by
        have : (j + 1) * s ≤ c * s := Nat.mul_le_mul_right _ hj
        rw [Nat.add_mul, Nat.one_mul, Nat.mul_comm c s] at this
        omega
      rw [Int.emod_eq_of_lt (by omega) (by omega), Int.toNat_natCast]
      exact hjb
    · rw [Int.natCast_add, h2, Int.natCast_mul]
      have e := Int.emod_add_mul_ediv d (s : Int)
      have : d % (s : Int) + (j : Int) * (s : Int) - d = (s : Int) * (j - d / s) := by rw [Int.mul_sub, Int.mul_comm (s : Int) j]; omega
      rw [this, Int.mul_emod_right]
  · rintro ⟨e, he, hed⟩
    have hsc : (1 : Nat) ≤ s * c := hn
    obtain ⟨g1, g2⟩ := mod_lt' hsc e
    refine ⟨h1, (e % ((s * c : Nat) : Int)).toNat / s, ?_, ?_⟩
    · exact Nat.div_lt_of_lt_mul g1
    · have hm : (e % ((s * c : Nat) : Int)).toNat % s = (d % (s : Int)).toNat := by
        have a1 : (((e % ((s * c : Nat) : Int)).toNat % s : Nat) : Int) = d % (s : Int) := by
          rw [Int.natCast_emod, g2, Int.emod_emod_of_dvd _ (by exact ⟨(c : Int), by rw [Int.natCast_mul]⟩)]
          have := Int.emod_emod_of_dvd e (Int.dvd_refl (s : Int))
          have h3 := Int.dvd_of_emod_eq_zero hed
          obtain ⟨z, hz⟩ := h3
          have : e = d + s * z := by omega
          rw [this, Int.add_mul_emod_self_left]
        omega
      have e2 := Nat.mod_add_div (e % ((s * c : Nat) : Int)).toNat s
      rw [← hm, Nat.mul_comm _ s, e2]; exact he

/-! ### how many bits are 1 -/
def cnt (f : Nat → Bool) : Nat → Nat
  | 0 => 0
  | k + 1 => cnt f k + if f k then 1 else 0
theorem cnt_ext {f g : Nat → Bool} : ∀ {n : Nat}, (∀ i, i < n → f i = g i) → cnt f n = cnt g n
  | 0, _ => rfl
  | n + 1, h => by
    unfold cnt
    rw [cnt_ext (n := n) (fun i hi => h i (by omega)), h n (by omega)]
theorem cnt_add (f : Nat → Bool) (m : Nat) : ∀ n, cnt f (m + n) = cnt f m + cnt (fun i => f (m + i)) n
  | 0 => rfl
  | n + 1 => by
    show cnt f (m + n) + (if f (m + n) then 1 else 0) = cnt f m + (cnt (fun i => f (m + i)) n + if f (m + n) then 1 else 0)
    rw [cnt_add f m n, Nat.add_assoc]
theorem cnt_le (f : Nat → Bool) : ∀ n, cnt f n ≤ n
  | 0 => Nat.le_refl 0
  | n + 1 => by
    have := cnt_le f n
    unfold cnt; split <;> omega
theorem cnt_mono (f : Nat → Bool) {m n : Nat} (h : m ≤ n) : cnt f m ≤ cnt f n := by
  obtain ⟨k, rfl⟩ := Nat.exists_eq_add_of_le h
  rw [cnt_add]; omega
theorem cnt_zero {f : Nat → Bool} : ∀ {n : Nat}, (∀ i, i < n → f i = false) → cnt f n = 0
  | 0, _ => rfl
  | n + 1, h => by
    unfold cnt
    rw [cnt_zero (n := n) (fun i hi => h i (by omega)), h n (by omega)]; rfl
theorem cnt_pos {f : Nat → Bool} {n i : Nat} (hi : i < n) (h : f i = true) : 0 < cnt f n := by
  have : cnt f (i + 1) ≤ cnt f n := cnt_mono f (by omega)
  have e : cnt f (i + 1) = cnt f i + if f i then 1 else 0 := rfl
  rw [e, if_pos h] at this
  omega
def pop (x : Nat) : Nat := if x = 0 then 0 else x % 2 + pop (x / 2)
termination_by x
decreasing_by omega
theorem pop_zero : pop 0 = 0 := by unfold pop; simp
theorem pop_step (x : Nat) : pop x = x % 2 + pop (x / 2) := by
  by_cases h : x = 0
  · subst h; simp [pop_zero]
  · rw [pop]; simp [h]
theorem pop_pos {x : Nat} (h : 0 < x) : 0 < pop x := by
  induction x using Nat.strongRecOn with
  | _ x ih =>
    rw [pop_step]
    by_cases h2 : x % 2 = 1
    · omega
    · have := ih (x / 2) (by omega) (by omega); omega
theorem pop_clear {x : Nat} (h : 0 < x) : pop (x &&& (x - 1)) + 1 = pop x := by
  induction x using Nat.strongRecOn with
  | _ x ih =>
    by_cases h2 : x % 2 = 1
    · have e : x &&& (x - 1) = 2 * (x / 2) := by
        apply Nat.eq_of_testBit_eq
        intro i
        rw [Nat.testBit_and]
        cases i with
        | zero =>
          rw [Nat.testBit_zero, Nat.testBit_zero, Nat.testBit_zero, decide_eq_false (show ¬ (x - 1) % 2 = 1 by omega), decide_eq_false (show ¬ 2 * (x / 2) % 2 = 1 by omega), Bool.and_false]
        | succ i =>
          rw [Nat.testBit_succ, Nat.testBit_succ, Nat.testBit_succ, show (x - 1) / 2 = x / 2 by omega, show 2 * (x / 2) / 2 = x / 2 by omega, Bool.and_self]
      rw [e, pop_step (2 * (x / 2)), pop_step x, show 2 * (x / 2) / 2 = x / 2 by omega]
      omega
    · have e : x &&& (x - 1) = 2 * ((x / 2) &&& (x / 2 - 1)) := by
        apply Nat.eq_of_testBit_eq
        intro i
        rw [Nat.testBit_and]
        cases i with
        | zero =>
          rw [Nat.testBit_zero, Nat.testBit_zero, Nat.testBit_zero, decide_eq_false (show ¬ x % 2 = 1 by omega), decide_eq_false (show ¬ 2 * (x / 2 &&& (x / 2 - 1)) % 2 = 1 by omega), Bool.false_and]
        | succ i =>
          rw [Nat.testBit_succ, Nat.testBit_succ, Nat.testBit_succ, show (x - 1) / 2 = x / 2 - 1 by omega, show 2 * (x / 2 &&& (x / 2 - 1)) / 2 = x / 2 &&& (x / 2 - 1) by omega, Nat.testBit_and]
      have := ih (x / 2) (by omega) (by omega)
      rw [e, pop_step (2 * _), show 2 * (x / 2 &&& (x / 2 - 1)) / 2 = x / 2 &&& (x / 2 - 1) by omega, pop_step x]
      omega
theorem pop_split (x : Nat) : ∀ k, pop (x % 2 ^ k) + pop (x / 2 ^ k) = pop x
  | 0 => by simp [Nat.mod_one, pop_zero]
  | k + 1 => by
    have h1 := pop_split x k
    have h2 := pop_step (x / 2 ^ k)
    have e1 : x / 2 ^ k / 2 = x / 2 ^ (k + 1) := by rw [Nat.div_div_eq_div_mul, Nat.pow_succ]
    have e2 : pop (x % 2 ^ (k + 1)) = pop (x % 2 ^ k) + x / 2 ^ k % 2 := by
      have e3 : x % 2 ^ (k + 1) = x % 2 ^ k + 2 ^ k * (x / 2 ^ k % 2) := by rw [Nat.pow_succ, Nat.mod_mul]
      rcases Nat.mod_two_eq_zero_or_one (x / 2 ^ k) with h | h
      · rw [e3, h]; simp
      · rw [e3, h, Nat.mul_one]
        exact pop_top (Nat.mod_lt _ (Nat.two_pow_pos k))
    rw [e1] at h2
    omega
where
  pop_top : ∀ {k y : Nat}, y < 2 ^ k → pop (y + 2 ^ k) = pop y + 1
    | 0, y, h => by
      have : y = 0 := by simpa using h
      subst this
      rw [pop_step]; simp [pop_zero]
    | k + 1, y, h => by
      rw [Nat.pow_succ] at h
      have ih := pop_top (k := k) (y := y / 2) (by omega)
      rw [pop_step, pop_step y, Nat.pow_succ, show (y + 2 ^ k * 2) / 2 = y / 2 + 2 ^ k by omega, ih]
      omega
theorem pop_cnt {x : Nat} : ∀ n, pop (x % 2 ^ n) = cnt x.testBit n
  | 0 => by simp [Nat.mod_one, pop_zero, cnt]
  | k + 1 => by
    have ih := pop_cnt (x := x) k
    have e3 : x % 2 ^ (k + 1) = x % 2 ^ k + 2 ^ k * (x / 2 ^ k % 2) := by rw [Nat.pow_succ, Nat.mod_mul]
    unfold cnt
    rcases Nat.mod_two_eq_zero_or_one (x / 2 ^ k) with h | h
    · rw [e3, h, Nat.mul_zero, Nat.add_zero, ih, Nat.testBit_eq_decide_div_mod_eq, decide_eq_false (by omega)]; rfl
    · rw [e3, h, Nat.mul_one, pop_split.pop_top (Nat.mod_lt _ (Nat.two_pow_pos k)), ih, Nat.testBit_eq_decide_div_mod_eq, decide_eq_true h]; rfl
theorem pop_eq {x n : Nat} (h : x < 2 ^ n) : pop x = cnt x.testBit n := by
  rw [← pop_cnt, Nat.mod_eq_of_lt h]
theorem pop_le {x n : Nat} (h : x < 2 ^ n) : pop x ≤ n := by rw [pop_eq h]; exact cnt_le _ _
theorem and_pred {x : Nat} (h : 0 < x) : Builtin.bitAnd (x : Int) ((x : Int) - 1) = ((x &&& (x - 1) : Nat) : Int) := by
  have : (x : Int) - 1 = ((x - 1 : Nat) : Int) := by omega
  rw [this, and_c]
theorem and_pred_lt {x : Nat} (h : 0 < x) : x &&& (x - 1) < x := Nat.lt_of_le_of_lt Nat.and_le_right (by omega)
/-! ### the lowest bit -/
theorem low_bit {x : Nat} (h : 0 < x) : ∃ k, x - (x &&& (x - 1)) = 2 ^ k ∧ x.testBit k = true ∧ ∀ i, i < k → x.testBit i = false := by
  induction x using Nat.strongRecOn with
  | _ x ih =>
    by_cases h2 : x % 2 = 1
    · refine ⟨0, ?_, by rw [Nat.testBit_zero, decide_eq_true h2], fun i hi => by omega⟩
      have e : x &&& (x - 1) = 2 * (x / 2) := by
        apply Nat.eq_of_testBit_eq
        intro i
        rw [Nat.testBit_and]
        cases i with
        | zero =>
          rw [Nat.testBit_zero, Nat.testBit_zero, Nat.testBit_zero, decide_eq_false (show ¬ (x - 1) % 2 = 1 by omega), decide_eq_false (show ¬ 2 * (x / 2) % 2 = 1 by omega), Bool.and_false]
        | succ i =>
          rw [Nat.testBit_succ, Nat.testBit_succ, Nat.testBit_succ, show (x - 1) / 2 = x / 2 by omega, show 2 * (x / 2) / 2 = x / 2 by omega, Bool.and_self]
      rw [e]; omega
    · obtain ⟨k, h3, h4, h5⟩ := ih (x / 2) (by omega) (by omega)
      have e : x &&& (x - 1) = 2 * ((x / 2) &&& (x / 2 - 1)) := by
        apply Nat.eq_of_testBit_eq
        intro i
        rw [Nat.testBit_and]
        cases i with
        | zero =>
          rw [Nat.testBit_zero, Nat.testBit_zero, Nat.testBit_zero, decide_eq_false (show ¬ x % 2 = 1 by omega), decide_eq_false (show ¬ 2 * (x / 2 &&& (x / 2 - 1)) % 2 = 1 by omega), Bool.false_and]
        | succ i =>
          rw [Nat.testBit_succ, Nat.testBit_succ, Nat.testBit_succ, show (x - 1) / 2 = x / 2 - 1 by omega, show 2 * (x / 2 &&& (x / 2 - 1)) / 2 = x / 2 &&& (x / 2 - 1) by omega, Nat.testBit_and]
      refine ⟨k + 1, ?_, by rw [Nat.testBit_succ]; exact h4, fun i hi => ?_⟩
      · have h6 : x / 2 &&& (x / 2 - 1) ≤ x / 2 := Nat.and_le_left
        rw [e, Nat.pow_succ]; omega
      · cases i with
        | zero => rw [Nat.testBit_zero, decide_eq_false h2]
        | succ i => rw [Nat.testBit_succ]; exact h5 i (by omega)
theorem and_neg {x : Nat} (h : 0 < x) : Builtin.bitAnd (x : Int) (-(x : Int)) = ((x - (x &&& (x - 1)) : Nat) : Int) := by
  have e : Builtin.bitNot (-(x : Int)) = ((x - 1 : Nat) : Int) := by
    show -(-(x : Int)) - 1 = _
    omega
  have h6 : x &&& (x - 1) ≤ x := Nat.and_le_left
  rw [bitAnd_pn (by omega) (by omega), e, Int.toNat_natCast, Int.toNat_natCast]
  omega
theorem bits_pow (k : Nat) : Builtin.Int.intBits ((2 ^ k : Nat) : Int) = k + 1 := by
  unfold Builtin.Int.intBits
  have hp := Nat.two_pow_pos k
  rw [if_neg (show ¬ (((2 ^ k : Nat) : Int) == 0) = true by simpa using (show ((2 ^ k : Nat) : Int) ≠ 0 by omega)), Int.natAbs_natCast, Nat.log2_two_pow]
theorem bits_nat {x : Nat} (h : 0 < x) : Builtin.Int.intBits (x : Int) = x.log2 + 1 := by
  unfold Builtin.Int.intBits
  rw [if_neg (show ¬ ((x : Int) == 0) = true by simpa using (show (x : Int) ≠ 0 by omega)), Int.natAbs_natCast]
/-- the lowest bit's place, as the program finds it -/
theorem low_place {x : Nat} (h : 0 < x) : ∃ k, Builtin.Int.intBits (Builtin.bitAnd (x : Int) (-(x : Int))) = k + 1 ∧ x.testBit k = true ∧ ∀ i, i < k → x.testBit i = false := by
  obtain ⟨k, h1, h2, h3⟩ := low_bit h
  exact ⟨k, by rw [and_neg h, h1, bits_pow], h2, h3⟩
theorem high_place {x : Nat} (h : 0 < x) : ∃ k, Builtin.Int.intBits (x : Int) = k + 1 ∧ x.testBit k = true ∧ ∀ i, k < i → x.testBit i = false := by
  refine ⟨x.log2, bits_nat h, Nat.testBit_log2 (by omega), fun i hi => ?_⟩
  exact Nat.testBit_lt_two_pow (Nat.lt_of_lt_of_le (Nat.lt_log2_self) (Nat.pow_le_pow_right (by decide) (by omega)))
/-! ### how many days -/
/-- the days of a round from day 0 on and ahead of a day -/
def rankI (n b : Nat) (d : Int) : Int := d / (n : Int) * (pop b : Nat) + (pop (b % 2 ^ (d % (n : Int)).toNat) : Nat)
theorem rank_step {n b : Nat} (hn : 1 ≤ n) (hb : b < 2 ^ n) (d : Int) : rankI n b (d + 1) = rankI n b d + if hold n b d then 1 else 0 := by
  obtain ⟨h1, h2⟩ := mod_lt' hn d
  have e := Int.emod_add_mul_ediv d (n : Int)
  unfold rankI
  have hc : ∀ k, pop (b % 2 ^ k) = cnt b.testBit k := fun k => pop_cnt k
  have hh : hold n b d = b.testBit (d % (n : Int)).toNat := rfl
  rw [hh]
  generalize hk : (d % (n : Int)).toNat = k at *
  generalize hq : d / (n : Int) = q at *
  by_cases hlast : k + 1 < n
  · have e1 : (d + 1) % (n : Int) = ((k + 1 : Nat) : Int) := by
      have : d + 1 = ((k + 1 : Nat) : Int) + n * q := by omega
      rw [this, Int.add_mul_emod_self_left, Int.emod_eq_of_lt (by omega) (by omega)]
    have e2 : (d + 1) / (n : Int) = q := by
      have : d + 1 = ((k + 1 : Nat) : Int) + n * q := by omega
      rw [this, Int.add_mul_ediv_left _ _ (by omega), Int.ediv_eq_zero_of_lt (by omega) (by omega)]
      omega
    rw [e1, e2, Int.toNat_natCast, hc, hc]
    show q * (pop b : Nat) + ((cnt b.testBit k + if b.testBit k then 1 else 0 : Nat) : Int) = _
    split <;> omega
  · have e0 : k + 1 = n := by omega
    have e1 : (d + 1) % (n : Int) = 0 := by
      have : d + 1 = n * (q + 1) := by rw [Int.mul_add]; omega
      rw [this, Int.mul_emod_right]
    have e2 : (d + 1) / (n : Int) = q + 1 := by
      have : d + 1 = n * (q + 1) := by rw [Int.mul_add]; omega
      rw [this, Int.mul_ediv_cancel_left _ (by omega)]
    rw [e1, e2, hc, hc]
    have e3 : pop b = cnt b.testBit k + if b.testBit k then 1 else 0 := by
      rw [pop_eq hb, ← e0]; rfl
    have e4 : cnt b.testBit (0 : Int).toNat = 0 := rfl
    rw [e4, Int.add_mul, e3]
    split <;> omega
theorem rank_add {n b : Nat} (hn : 1 ≤ n) (hb : b < 2 ^ n) (d : Int) : ∀ k : Nat, rankI n b (d + k) = rankI n b d + (cnt (fun i => hold n b (d + i)) k : Nat)
  | 0 => by simp [cnt]
  | k + 1 => by
    have ih := rank_add hn hb d k
    have e : d + ((k + 1 : Nat) : Int) = (d + k) + 1 := by omega
    rw [e, rank_step hn hb, ih]
    show _ = _ + ((cnt (fun i => hold n b (d + i)) k + if hold n b (d + k) then 1 else 0 : Nat) : Int)
    split <;> omega
theorem rank_round {n b : Nat} (hn : 1 ≤ n) (d : Int) : rankI n b (d + n) = rankI n b d + (pop b : Nat) := by
  unfold rankI
  have e1 : (d + n) % (n : Int) = d % n := by rw [Int.add_emod_right]
  have e2 : (d + n) / (n : Int) = d / n + 1 := by
    have := Int.add_mul_ediv_left d 1 (show (n : Int) ≠ 0 by omega)
    rw [Int.mul_one] at this; exact this
  rw [e1, e2, Int.add_mul]; omega
theorem rank_mono {n b : Nat} (hn : 1 ≤ n) (hb : b < 2 ^ n) {d e : Int} (h : d ≤ e) : rankI n b d ≤ rankI n b e := by
  obtain ⟨k, hk⟩ := Int.eq_ofNat_of_zero_le (show 0 ≤ e - d by omega)
  have : e = d + k := by omega
  rw [this, rank_add hn hb]; omega
theorem rank_sm {n b : Nat} (hn : 1 ≤ n) (hn2 : n ≤ 150000) (hb : b < 2 ^ n) {d : Int} {s : Nat} (h : Sm s d) : Sm (s + 40) (rankI n b d) := by
  have h1 := pop_le hb
  have h2 : pop (b % 2 ^ (d % (n : Int)).toNat) ≤ n := pop_le (Nat.lt_of_le_of_lt (Nat.mod_le _ _) hb)
  have h3 : (d / (n : Int)).natAbs ≤ d.natAbs := Int.natAbs_ediv_le_natAbs d n
  have h4 := h.h
  refine ⟨?_⟩
  unfold rankI
  have h5 : (d / (n : Int) * (pop b : Nat)).natAbs ≤ d.natAbs * 150000 := by
    rw [Int.natAbs_mul, Int.natAbs_natCast]
    exact Nat.mul_le_mul h3 (by omega)
  have h6 : 2 ^ (s + 40) = 2 ^ s * 1099511627776 := by rw [Nat.pow_add]
  have h7 := Nat.two_pow_pos s
  rw [h6]
  generalize (2 : Nat) ^ s = X at *
  omega

/-! ### a list that is written: all else stays -/
def Mut (p : Addr) (H H' : Hp) : Prop := ∀ a o, a ≠ p → H a = some o → H' a = some o
theorem Mut.of {p : Addr} {H H' : Hp} (s : Same H H') : Mut p H H' := fun a o _ h => s a o h
theorem Mut.trans {p : Addr} {H H' H2 : Hp} (m : Mut p H H') (m2 : Mut p H' H2) : Mut p H H2 := fun a o n h => m2 a o n (m a o n h)
theorem Mut.same {p : Addr} {H0 H H' : Hp} (s : Same H0 H) (m : Mut p H H') (h : H0 p = none) : Same H0 H' := fun a o e => m a o (fun e2 => by subst e2; rw [h] at e; exact nomatch e) (s a o e)
theorem mut_upd {p : Addr} {H : Hp} {o : HO} : Mut p H (upd H p o) := fun a x n h => by rw [upd_ne n]; exact h
theorem mut_t {K : PySem.W.Frag} {H H' : Hp} {p a : Addr} {xs ys : List V} (m : Mut p H H') (hp : H p = some (.lst xs)) (h : SqT K H a ys) : SqT K H' a ys := by
  rcases h with (h | ⟨o, h⟩) | h
  · exact .inl (.inl (m _ _ (fun e => by subst e; rw [hp] at h; exact nomatch h) h))
  · exact .inl (.inr ⟨o, m _ _ (fun e => by subst e; rw [hp] at h; exact nomatch h) h⟩)
  · exact .inr h
theorem mut_l {K : PySem.W.Frag} {H H' : Hp} {p a : Addr} {ys : List V} (m : Mut p H H') (n : a ≠ p) (h : SqL K H a ys) : SqL K H' a ys := by
  rcases h with (h | ⟨o, h⟩) | h
  · exact .inl (.inl (m _ _ n h))
  · exact .inl (.inr ⟨o, m _ _ n h⟩)
  · exact .inr h
theorem RT.mut {K : PySem.W.Frag} {H H' : Hp} {p a : Addr} {xs : List V} {n b : Nat} (m : Mut p H H') (hp : H p = some (.lst xs)) (r : RT K H a n b) : RT K H' a n b := ⟨mut_t m hp r.t, r.n1, r.n2, r.lt⟩
section
variable {K : PySem.W.Frag} {H : Hp} {Q : VK} {σ : L2.St} {l p : Addr} {xs : List V} {y : V}
def App (l : Addr) (ys : List V) (H : Hp) (Q : VK) : Prop := rAppend (.ref l) ys H Q
def BmR (K : PySem.W.Frag) (T : String) (r : V → List V → Hp → VK → Prop) (t : TA) (σ : L2.St) (x : V) (H : Hp) (Q : VK) : Prop := tyV K T x H ∧ t σ H fun xs H2 => r x xs H2 Q
theorem k_bm {T : String} {r : V → List V → Hp → VK → Prop} {to : TE} {t : TA} (h : to σ H fun x H1 => BmR K T r t σ x H1 Q) : tBM K T r to t σ H Q := h
theorem k_bmA {t : TA} (hl : SqL K H l xs) (h : t σ H fun ys H2 => App l ys H2 Q) : BmR K "list" rAppend t σ (.ref l) H Q := ⟨.inl ⟨rfl, xs, hl⟩, h⟩
theorem k_app (h : H l = some (.lst xs)) (hz : xs.length ≤ 1000000) (q : ∀ H', Mut l H H' → H' l = some (.lst (xs ++ [y])) → Q .non H') : App l [y] H Q :=
  ⟨l, xs, y, rfl, rfl, h, Nat.lt_of_le_of_lt hz (by decide), q _ mut_upd upd_same⟩
/-! ### slices -/
def SlV (K : PySem.W.Frag) (x : V) (lo hi : Option Int) (H : Hp) (Q : VK) : Prop := rSlL K x lo hi H Q
theorem k_sl {te : TE} {tl th : TO} (h : te σ H fun x H1 => tl σ H1 fun lo H2 => th σ H2 fun hi H3 => SlV K x lo hi H3 Q) : L2.tSl (rSlL K) te tl th σ H Q := h
theorem k_slV {lo hi : Option Int} (h : SqL K H p xs) (q : ∀ a H2, H a = none → Same H H2 → H2 a = some (.lst (cutV xs lo hi)) → Q (.ref a) H2) : SlV K (.ref p) lo hi H Q :=
  ⟨p, xs, rfl, h, fun a ha => q a _ ha (same_new ha) upd_same⟩
theorem cutV_ints (ns : List Int) (lo hi : Option Int) : ∃ ms : List Int, cutV (ns.map V.int) lo hi = ms.map V.int ∧ (∀ z ∈ ms, z ∈ ns) ∧ ms.length ≤ ns.length := by
  refine ⟨(ns.drop (HT.sIx (ns.map V.int).length 0 lo)).take (HT.sIx (ns.map V.int).length (ns.map V.int).length hi - HT.sIx (ns.map V.int).length 0 lo), ?_, fun z hz => List.mem_of_mem_drop (List.mem_of_mem_take hz), ?_⟩
  · unfold cutV; rw [List.map_take, List.map_drop]
  · rw [List.length_take, List.length_drop]; omega
theorem cutV_to (xs : List V) (k : Nat) : (cutV xs none (some (k : Int))).length ≤ k := by
  unfold cutV
  rw [List.length_take, HT.sIx_nat]
  omega
/-! ### list(a list), a[i] = y -/
def LofV (K : PySem.W.Frag) (xs : List V) (H : Hp) (Q : VK) : Prop := ∃ p ys, xs = [.ref p] ∧ (SqL K H p ys ∨ SqT K H p ys) ∧ ∀ l, H l = none → Q (.ref l) (upd H l (.lst ys))
def rLof (K : PySem.W.Frag) : List V → Hp → VK → Prop := fun xs H Q => LofV K xs H Q
theorem kb_lof {X : Cx} (K : PySem.W.Frag) (hk : X.K = K) : CallR X (.type "list") (rLof K) := by subst hk; exact call_list_of
theorem k_lofL {ys : List V} (h : SqL K H p ys) (q : ∀ a H2, H a = none → Same H H2 → H2 a = some (.lst ys) → Q (.ref a) H2) : rLof K [.ref p] H Q := ⟨p, ys, rfl, .inl h, fun a ha => q a _ ha (same_new ha) upd_same⟩
def SetV (o i v : V) (H : Hp) (Q : Hp → Prop) : Prop := rSetL o i v H Q
theorem k_gsub {to ti : TE} {v : V} {Q : L2.St → Hp → Prop} (h : to σ H fun o H1 => ti σ H1 fun i H2 => SetV o i v H2 fun H3 => Q σ H3) : gSub to ti rSetL v σ H Q := h
theorem k_setV {i : Int} {j : Nat} {v : V} {Q : Hp → Prop} (h : H p = some (.lst xs)) (hj : ixN xs.length i = some j) (q : ∀ H', Mut p H H' → H' p = some (.lst (xs.set j v)) → Q H') : SetV (.ref p) (.int i) v H Q :=
  ⟨p, xs, i, j, rfl, rfl, h, hj, q _ mut_upd upd_same⟩
end
theorem k_eqE {K : PySem.W.Frag} {H : Hp} {Q : VK} {p q : Addr} {l : List Int} (h1 : SqL K H p (l.map V.int)) (h2 : SqL K H q []) (r : Q (.bl (decide (l = []))) H) : rEqA K (.ref p) (.ref q) H Q := k_eqL (m := []) h1 h2 r
theorem k_neE {K : PySem.W.Frag} {H : Hp} {Q : VK} {p q : Addr} {l : List Int} (h1 : SqL K H p (l.map V.int)) (h2 : SqL K H q []) (r : Q (.bl (!decide (l = []))) H) : rNeA K (.ref p) (.ref q) H Q := k_neL (m := []) h1 h2 r
theorem atI_last {l : List Int} (h : l ≠ []) : ∃ z, z ∈ l ∧ atI (l.map V.int) (-1) = some (.int z) := by
  have hp : 0 < l.length := List.length_pos_iff.mpr h
  refine ⟨l[l.length - 1], List.getElem_mem _, ?_⟩
  unfold atI ixN
  rw [if_neg (by decide), if_pos (by rw [List.length_map]; omega), List.length_map, show ((-1 : Int) + (l.length : Int)).toNat = l.length - 1 by omega]
  show (l.map V.int)[l.length - 1]? = _
  rw [List.getElem?_map, List.getElem?_eq_getElem (by omega)]
  rfl
/-- days of a round, as a list -/
structure DL (K : PySem.W.Frag) (H : Hp) (L : Addr) (n : Nat) (l : List Int) : Prop where
  h : SqL K H L (l.map V.int)
  b : ∀ x ∈ l, 0 ≤ x ∧ x < n
  z : l.length ≤ 4000
theorem DL.mono {K : PySem.W.Frag} {H H' : Hp} {L : Addr} {n : Nat} {l : List Int} (r : DL K H L n l) (s : Same H H') : DL K H' L n l := ⟨same_l s r.h, r.b, r.z⟩
theorem tb_put {x d : Nat} {l : List Int} (hx : ∀ j, x.testBit j = true ↔ (j : Int) ∈ l) (j : Nat) : (x ||| 2 ^ d).testBit j = true ↔ (j : Int) ∈ l ++ [(d : Int)] := by
  rw [Nat.testBit_or, Nat.testBit_two_pow, Bool.or_eq_true, hx, List.mem_append, List.mem_singleton, decide_eq_true_iff]
  constructor <;> (rintro (h | h); exact .inl h; right; omega)
theorem tb_add {x e : Nat} (h : x.testBit e = false) (j : Nat) : (2 ^ e + x).testBit j = (decide (e = j) || x.testBit j) := by
  rcases Nat.lt_trichotomy j e with hj | hj | hj
  · rw [Nat.testBit_two_pow_add_gt hj, decide_eq_false (by omega), Bool.false_or]
  · subst hj; rw [Nat.testBit_two_pow_add_eq, h]; simp
  · obtain ⟨k, rfl⟩ := Nat.exists_eq_add_of_lt hj
    rw [decide_eq_false (by omega), Bool.false_or]
    have e1 : ∀ y : Nat, y.testBit (e + k + 1) = (y / 2 ^ e / 2).testBit k := fun y => by
      rw [Nat.div_div_eq_div_mul, ← Nat.pow_succ, Nat.testBit_div_two_pow]; congr 1; omega
    rw [e1, e1, Nat.add_div_left _ (Nat.two_pow_pos e)]
    rw [Nat.testBit_eq_decide_div_mod_eq] at h
    have := of_decide_eq_false h
    congr 1
    omega
theorem sum_bits {n : Nat} : ∀ {l : List Int}, l.Nodup → (∀ x ∈ l, 0 ≤ x ∧ x < (n : Int)) →
    ∃ x : Nat, (l.map fun e => ((2 ^ e.toNat : Nat) : Int)).sum = (x : Int) ∧ x < 2 ^ n ∧ ∀ j : Nat, x.testBit j = true ↔ (j : Int) ∈ l
  | [], _, _ => ⟨0, rfl, Nat.two_pow_pos n, fun j => by simp⟩
  | e :: r, hd, hb => by
    obtain ⟨x, h1, h2, h3⟩ := sum_bits (n := n) (List.nodup_cons.mp hd).2 (fun y hy => hb y (List.mem_cons_of_mem _ hy))
    obtain ⟨b0, b1⟩ := hb e List.mem_cons_self
    obtain ⟨k, rfl⟩ := Int.eq_ofNat_of_zero_le b0
    have hk : x.testBit k = false := by
      cases hx : x.testBit k with
      | false => rfl
      | true => exact absurd ((h3 k).mp hx) (List.nodup_cons.mp hd).1
    have ht := tb_add hk
    refine ⟨2 ^ k + x, ?_, ?_, fun j => ?_⟩
    · rw [List.map_cons, List.sum_cons, h1, Int.toNat_natCast, Int.natCast_add]
    · refine Nat.lt_pow_two_of_testBit _ fun i hi => ?_
      rw [ht, decide_eq_false (by omega), Bool.false_or]
      exact Nat.testBit_lt_two_pow (Nat.lt_of_lt_of_le h2 (Nat.pow_le_pow_right (by decide) hi))
    · rw [ht, Bool.or_eq_true, decide_eq_true_iff, h3, List.mem_cons]
      constructor
      · rintro (h | h)
        · left; omega
        · exact .inr h
      · rintro (h | h)
        · left; omega
        · exact .inr h

section
open NdefX LamX
/-! ### a def that leaves the def that made it: its cell stands in the heap by itself -/
/-- the one object at a -/
def exV (a : Addr) (oe : Obj) : HO := .ext fun h => h.get? a = some oe
theorem exV_ok {P : Program} {w : World} {H : Hp} {h : Heap} {a : Addr} {oe : Obj} (e : h.get? a = some oe) : ObjOk P w H h a (exV a oe) :=
  ⟨e, ⟨_, e⟩, fun _ _ z k => k _ z⟩
theorem exV_at {P : Program} {w : World} {H : Hp} {h : Heap} {a : Addr} {oe : Obj} (hok : HOk P w H h) (e : H a = some (exV a oe)) : h.get? a = some oe := by
  have x : ObjOk P w H h a (.ext fun h => h.get? a = some oe) := hok a _ e
  exact x.1
theorem exV_own {a x : Addr} {oe : Obj} : exV a oe ≠ .own x := fun z => by
  have z' : HO.ext _ = HO.own x := z
  cases z'
theorem exV_tup {a : Addr} {oe : Obj} {xs : List V} : exV a oe ≠ .tup xs := fun z => by
  have z' : HO.ext _ = HO.tup xs := z
  cases z'
theorem exV_frz {a : Addr} {oe o : Obj} {u : HO} : exV a oe ≠ .frz o u := fun z => by
  have z' : HO.ext _ = HO.frz o u := z
  cases z'
theorem exV_tbl {a : Addr} {oe : Obj} {ps : Array Value} : exV a oe ≠ .tbl ps := fun z => by
  have z' : HO.ext _ = HO.tbl ps := z
  cases z'
def dlH (H : Hp) (a : Addr) : Hp := fun b => if b = a then none else H b
theorem dlH_same {H : Hp} {a : Addr} : dlH H a a = none := if_pos rfl
theorem dlH_ne {H : Hp} {a b : Addr} (h : b ≠ a) : dlH H a b = H b := if_neg h
theorem hok_upd {P : Program} {w : World} {H : Hp} {h : Heap} {a : Addr} {oe : Obj} (hok : HOk P w H h) (ha : H a = none) (e : h.get? a = some oe) : HOk P w (upd H a (exV a oe)) h := fun b o eb => by
  by_cases hb : b = a
  · subst hb
    rw [upd_same] at eb; cases eb
    exact exV_ok e
  · rw [upd_ne hb] at eb
    exact (hok b o eb).stay (fun _ _ _ z => z) (fun c z => by rw [upd_ne (fun y => by rw [y, ha] at z; cases z)]; exact z) fun c xs z => by rw [upd_ne (fun y => by rw [y, ha] at z; cases z)]; exact z
theorem hok_dl {P : Program} {w : World} {H : Hp} {h : Heap} {a : Addr} {oe : Obj} (hok : HOk P w H h) (ha : H a = some (exV a oe)) : HOk P w (dlH H a) h := fun b o e => by
  have hba : b ≠ a := fun z => by rw [z, dlH_same] at e; cases e
  rw [dlH_ne hba] at e
  exact (hok b o e).stay (fun _ _ _ z => z) (fun c z => by rw [dlH_ne (fun y => by rw [y, ha] at z; exact exV_own (Option.some.inj z))]; exact z) fun c xs z => by rw [dlH_ne (fun y => by rw [y, ha] at z; exact exV_tup (Option.some.inj z))]; exact z
/-- THE RULE: a def that sets names, makes a def that captures the name y, and returns it -/
theorem fn_ofClo {CX : CXT} {P : Program} {w : World} {K : PySem.W.Frag} {mg : Str → Option Value} {base : Heap} {k : Nat} {f : Addr} {name qual : Str} {params : Arguments} {body : List Stmt} {scope : Scope} {dV kV doc pm cdv ct oc : Value} {an od : Option Addr}
    {osl : Array (Option Value)} {N ps : List Str} {sp : Sp} {y : Str} {j : Nat} {s1 s2 : Stmt} {er : Expr} {pr : Pos} (lk : K.lookup f = some ⟨oc, od, .func (PySem.W.fnOf name qual params body scope dV kV doc pm an cdv ct), osl⟩) (hcd : PySem.W.codeIn K cdv qual = true) (S : FnScope N ps scope)
    (len : ∀ vs H Q E, sp vs H Q E → vs.length = ps.length) (hbd : body = [s1, s2, .Return (some er) pr]) (hj : N[j]? = some y) (hy : scope.names.lookup y = some .cell)
    (hbody : ∀ (A : Around) (outer : List Env) (s : Shared) (H : Hp) (vs : List V) (Q : VK) (E : XK), Room k (A.deeper (envOfC qual scope s.heap.objs.size f cdv)) → sp vs H Q E →
      ∃ t1 t2 te, PS (cxOf CX P w K mg base N qual scope f cdv A outer s H E) s1 t1 ∧ PS (cxOf CX P w K mg base N qual scope f cdv A outer s H E) s2 t2 ∧ PE (cxOf CX P w K mg base N qual scope f cdv A outer s H E) er te ∧
        t1 { nx := fun σ1 H1 => t2 { nx := fun σ2 H2 => te σ2 H2 fun v H3 => ∃ x : V, σ2[j]? = some (some x) ∧ ∀ (ca : Addr) (ob : Obj) (u : Value), (cellsFrom (s.heap.objs.size + 1) scope.names []).lookup y = some ca → H ca = none → H3 ca = none → ob.data = .cell (some u) → RelV x u → Q v (upd H3 ca (exV ca ob)), rt := fun _ _ => False } σ1 H1, rt := fun _ _ => False } (start N vs) H) :
    FnOk P w K mg base CX (k + 1) f (PySem.W.fnOf name qual params body scope dV kV doc pm an cdv ct) ps sp := by
  refine ⟨len, fun A outer s H args us vs Q E hr e0 hb r hsp => ?_⟩
  have hl := len _ _ _ _ hsp
  have KX : K.In s.heap := e0.mod.kin.keeps fun b o e => (e0.bs b o e).1
  have lim : s.heap.NoLimit := e0.mod.nolimit.keeps fun b o e => (e0.bs b o e).1
  have hkind : ∀ y ∈ ps.zip us, scope.names.lookup y.1 = some .local ∨ (scope.names.lookup y.1 = some .cell ∧ ((cellsFrom (s.heap.objs.size + 1) scope.names []).lookup y.1).isSome = true) := fun ⟨n, v⟩ hy => by
    rcases S.par n (List.of_mem_zip hy).1 with q | q
    · exact .inl q
    · exact .inr ⟨q, PySem.W.cellsFrom_some _ _ _ (.inl q)⟩
  refine codeAny_call_function hr.depth (KX _ _ lk) rfl S.co S.gen rfl (PySem.W.codeRec_of KX hcd) (hb _ _ _ _ ?_)
  refine wpAny_newFunctionEnv_cells S.kind hkind fun env he s1 x => ?_
  subst he
  refine ⟨lim.keeps x.toInCall.keep, codeAny_func ?_⟩
  obtain ⟨t1, t2, te, h1, h2, he, hq⟩ := hbody A outer s H vs Q E (hr.deeper _) hsp
  have I : Inv (cxOf CX P w K mg base N qual scope f cdv A outer s H E) [] (start N vs) H s1 := inv_start S hr.hd e0 hl r x
  subst hbd
  have fin : ∀ {σ2 : L2.St} {H3 : Hp} {s' : Shared} {v : V} {u : Value}, Inv (cxOf CX P w K mg base N qual scope f cdv A outer s H E) [] σ2 H3 s' → RelV v u →
      (∃ x : V, σ2[j]? = some (some x) ∧ ∀ (ca : Addr) (ob : Obj) (u : Value), (cellsFrom (s.heap.objs.size + 1) scope.names []).lookup y = some ca → H ca = none → H3 ca = none → ob.data = .cell (some u) → RelV x u → Q v (upd H3 ca (exV ca ob))) → CE outer P w H s Q u s' := by
    intro σ2 H3 s' v u J rv ⟨x, hx, hq⟩
    obtain ⟨m, hns, hloc⟩ := J.loc
    obtain ⟨ux, rx, look⟩ := hloc j y x hj hx (.inr (.inl hy))
    rcases look with ⟨kl, _⟩ | ⟨_, ca, hca, ob, ho, hd⟩
    · have kl' : scope.names.lookup y = some .local := kl
      rw [hy] at kl'; cases kl'
    have f3 : H3 ca = none := J.freeC y ca hca
    have above : s.heap.objs.size ≤ ca := J.ok.cab y ca rfl hca
    have nin : ∀ {b : Addr} {o : Obj}, s.heap.get? b = some o → b ≠ ca := fun {b o} e => Nat.ne_of_lt (Nat.lt_of_lt_of_le (Heap.lt_size e) above)
    have B := J.base
    refine ⟨v, upd H3 ca (exV ca ob), J.os, J.bare, ⟨B.keep, B.slot, fun b o e n hx => ?_, B.there, fun b xs e => ?_, fun b o u e => ?_, fun b ps e => ?_⟩, hok_upd J.hok f3 ho, rv, hq ca ob ux hca (e0.hok.fresh above) f3 hd rx⟩
    · rw [upd_ne (nin e)]; exact B.free b o e n hx
    · have z := B.tups b xs e
      rw [upd_ne (fun y => by rw [y, f3] at z; cases z)]; exact z
    · have z := B.frzs b o u e
      rw [upd_ne (fun y => by rw [y, f3] at z; cases z)]; exact z
    · obtain ⟨more, z⟩ := B.tbls b ps e
      refine ⟨more, ?_⟩
      rw [upd_ne (fun y => by rw [y, f3] at z; cases z)]; exact z
  refine wpAny_execs_cons (wpAny_mono (h1.run [] s1 (start N vs) H _ I hq) (fun fl s2 hs => ?_) fun e s' hs => hs)
  cases fl with
  | ret u => obtain ⟨_, _, _, _, _, z⟩ := hs; exact False.elim z
  | brk => obtain ⟨_, _, _, z⟩ := hs; exact False.elim z
  | cont => obtain ⟨_, _, _, z⟩ := hs; exact False.elim z
  | next =>
    obtain ⟨σ1, H1, I1, q1⟩ := hs
    refine wpAny_execs_cons (wpAny_mono (h2.run [] s2 σ1 H1 _ I1 q1) (fun fl s3 hs => ?_) fun e s' hs => hs)
    cases fl with
    | ret u => obtain ⟨_, _, _, _, _, z⟩ := hs; exact False.elim z
    | brk => obtain ⟨_, _, _, z⟩ := hs; exact False.elim z
    | cont => obtain ⟨_, _, _, z⟩ := hs; exact False.elim z
    | next =>
      obtain ⟨σ2, H2, I2, q2⟩ := hs
      refine wpAny_execs_cons (wpAny_Return_some (wpAny_mono (he.run [] s3 σ2 H2 _ I2 q2) (fun u s4 hs => ?_) fun e s' hs => hs))
      obtain ⟨v, H3, I3, rv, q3⟩ := hs
      exact fin I3 rv q3
structure FunC (K : PySem.W.Frag) (x qual : Str) (st : Stmt) (f : Addr) (fd : FuncData) (c : Addr) : Prop where
  ex : ∃ (oc : Value) (od : Option Addr) (kV doc pm : Value) (an : Option Addr) (ct : Value) (osl : Array (Option Value)),
    fd = PySem.W.fnOf x qual (defArgs st) (defBody st) (defScope st) .none kV doc pm an (.ref c) ct ∧ K.lookup f = some ⟨oc, od, .func fd, osl⟩ ∧ PySem.W.codeIn K (.ref c) qual = true
  kp : PySem.W.keepIn K (.ref f) = true
theorem funC_mk {K : PySem.W.Frag} {x qual : Str} {st : Stmt} {f c : Addr} {oc : Value} {od an : Option Addr} {osl : Array (Option Value)} {kV doc pm ct : Value} (l : K.lookup f = some ⟨oc, od, .func (PySem.W.fnOf x qual (defArgs st) (defBody st) (defScope st) .none kV doc pm an (.ref c) ct), osl⟩)
    (h : PySem.W.codeIn K (.ref c) qual = true) (k : PySem.W.keepIn K (.ref f) = true) : FunC K x qual st f (PySem.W.fnOf x qual (defArgs st) (defBody st) (defScope st) .none kV doc pm an (.ref c) ct) c := ⟨⟨oc, od, kV, doc, pm, an, ct, osl, rfl, l, h⟩, k⟩
theorem FunC.binds {K : PySem.W.Frag} {x qual : Str} {st : Stmt} {f c : Addr} {fd : FuncData} {ps : List Str} (F : FunC K x qual st f fd c)
    (h : ∀ (kV doc pm : Value) (an : Option Addr) (cdv ct : Value) (us : List Value), us.length = ps.length → bindArgs (PySem.W.fnOf x qual (defArgs st) (defBody st) (defScope st) .none kV doc pm an cdv ct) ⟨us, []⟩ = pure (ps.zip us)) : Binds K fd ps [] := by
  obtain ⟨oc, od, kV, doc, pm, an, ct, osl, rfl, lk, hcd⟩ := F.ex
  exact .all (h kV doc pm an (.ref c) ct)
theorem FunC.okClo {CX : CXT} {P : Program} {w : World} {K : PySem.W.Frag} {mg : Str → Option Value} {base : Heap} {x qual : Str} {st : Stmt} {f c : Addr} {fd : FuncData} {N ps : List Str} {k : Nat} {sp : Sp} {y : Str} {j : Nat} {s1 s2 : Stmt} {er : Expr} {pr : Pos}
    (F : FunC K x qual st f fd c) (S : FnScope N ps (defScope st)) (len : ∀ vs H Q E, sp vs H Q E → vs.length = ps.length) (hbd : defBody st = [s1, s2, .Return (some er) pr]) (hj : N[j]? = some y) (hy : (defScope st).names.lookup y = some .cell)
    (hbody : ∀ (A : Around) (outer : List Env) (s : Shared) (H : Hp) (vs : List V) (Q : VK) (E : XK), Room k (A.deeper (envOfC qual (defScope st) s.heap.objs.size f (.ref c))) → sp vs H Q E →
      ∃ t1 t2 te, PS (cxOf CX P w K mg base N qual (defScope st) f (.ref c) A outer s H E) s1 t1 ∧ PS (cxOf CX P w K mg base N qual (defScope st) f (.ref c) A outer s H E) s2 t2 ∧ PE (cxOf CX P w K mg base N qual (defScope st) f (.ref c) A outer s H E) er te ∧
        t1 { nx := fun σ1 H1 => t2 { nx := fun σ2 H2 => te σ2 H2 fun v H3 => ∃ x : V, σ2[j]? = some (some x) ∧ ∀ (ca : Addr) (ob : Obj) (u : Value), (cellsFrom (s.heap.objs.size + 1) (defScope st).names []).lookup y = some ca → H ca = none → H3 ca = none → ob.data = .cell (some u) → RelV x u → Q v (upd H3 ca (exV ca ob)), rt := fun _ _ => False } σ1 H1, rt := fun _ _ => False } (start N vs) H) :
    FnOk P w K mg base CX (k + 1) f fd ps sp := by
  obtain ⟨oc, od, kV, doc, pm, an, ct, osl, rfl, lk, hcd⟩ := F.ex
  exact fn_ofClo lk hcd S len hbd hj hy hbody
/-! ### the one table -/
abbrev NT (P : Addr) : List NTab := [(P, fun _ _ => "counter.<locals>.summed")]
theorem tabs_nil {P : Addr} {H : Hp} (h : H P = some (.tbl #[])) : TabsN (NT P) H := fun p hp => by
  cases List.mem_singleton.mp hp
  exact TabN.nil h
theorem tabs_of {K : PySem.W.Frag} {h : Heap} {ts : List Addr} {c P : Addr} {x : Str} (ht : ∀ P ∈ ts, h.get? P = some (PySem.W.tabObj #[])) (e : PySem.W.tabIn K x = some (c, P))
    (q : (match PySem.W.tabIn K x with | some (c0, P0) => PySem.W.codeHdIn K c0 P0 && (K.lookup P0).isNone && ts.contains P0 | none => false) = true) : PySem.W.codeHdIn K c P = true ∧ K.lookup P = none ∧ h.get? P = some { cls := .none, data := .fields #[] } := by
  rw [e] at q
  simp only [Bool.and_eq_true, Option.isNone_iff_eq_none] at q
  exact ⟨q.1.1, q.1.2, ht P (by simpa using q.2)⟩
/-- all that was tracked is as it was, but for the tables of code objects -/
structure SameT (T : List NTab) (H H' : Hp) : Prop where
  ext : ExtN H H'
  tab : TabsN T H → TabsN T H'
theorem SameT.refl (T : List NTab) (H : Hp) : SameT T H H := ⟨ExtN.refl H, id⟩
theorem SameT.trans {T : List NTab} {H H1 H2 : Hp} (a : SameT T H H1) (b : SameT T H1 H2) : SameT T H H2 := ⟨a.ext.trans b.ext, fun t => b.tab (a.tab t)⟩
theorem SameT.of {T : List NTab} {H H' : Hp} (s : Same H H') : SameT T H H' := ⟨ExtN.of s, fun t => t.ext s⟩
theorem SameT.lst {T : List NTab} {H H' : Hp} {a : Addr} {xs : List V} (s : SameT T H H') (h : H a = some (.lst xs)) : H' a = some (.lst xs) := s.ext _ _ h (fun _ z => nomatch z)
theorem SameT.tup {T : List NTab} {H H' : Hp} {a : Addr} {xs : List V} (s : SameT T H H') (h : H a = some (.tup xs)) : H' a = some (.tup xs) := s.ext _ _ h (fun _ z => nomatch z)
theorem SameT.ins {T : List NTab} {H H' : Hp} {a C d : Addr} {fs : List (Str × V)} (s : SameT T H H') (h : H a = some (.ins C d fs)) : H' a = some (.ins C d fs) := s.ext _ _ h (fun _ z => nomatch z)
/-- f(..), f a name that holds a def that left the one that made it; its one captured cell ca stands in the heap -/
def tCallClo (mk : Addr → Addr → NF) (i : Nat) (sp : V → Sp) (t : TA) : TE := fun σ H Q => ∃ (f c' ca : Addr) (ob : Obj) (u : Value) (x : V), σ[i]? = some (some (.ref f)) ∧ H f = some (FnO f (mk ca c')) ∧
  t σ H fun vs H1 => H1 f = some (FnO f (mk ca c')) ∧ H1 (mk ca c').c = some (CodeO (mk ca c').c (mk ca c').qual) ∧ H1 ca = some (exV ca ob) ∧ ob.data = .cell (some u) ∧ RelV x u ∧ f ≠ ca ∧ (mk ca c').c ≠ ca ∧
    sp x vs (dlH H1 ca) (fun v H2 => Q v (upd H2 ca (exV ca ob))) (fun _ _ _ => False)
section
variable {X : Cx} {CX : CXT} {mk : Addr → Addr → NF} {ps : List Str} {y : Str} {i k : Nat} {x : Str} {sp : V → Sp} {t : TA} {e : Expr} {es : List Expr} {p pos : Pos}
theorem pe_callClo (Fn : ∀ f ca c', NOk X.prog X.w X.K X.mg X.base CX k f (mk ca c') ps [y] (fun ws vs H Q E => ∃ x, ws = [some x] ∧ sp x vs H Q E)) (hcl : ∀ ca c', (mk ca c').cl = [(y, ca)]) (hr : Room k X.A)
    (hx : ∀ (l : List Env) (H : Hp) (s : Shared) (e : Value) (s' : Shared), ¬ CX l H s (fun _ _ _ => False) e s') (hN : X.N[i]? = some x) (hv : Vis X.env.scope x) (ha : PA X (e :: es) t)
    (hd : (x == ("__debug__" : Str)) = false := by decide) (hcd : (x == ("__classdict__" : Str)) = false := by decide)
    (he : starEach (e :: es) X.env = (false, eval e X.env) :: starEach es X.env := by rfl) (hpl : (backTo pos (starEach es X.env)).any (·.1) = false := by rfl) :
    PE X (.Call (.Name x p) (e :: es) [] pos) (tCallClo mk i sp t) := by
  refine ⟨fun pins s σ H Q I h => ?_⟩
  obtain ⟨f, c', ca, ob, u0, w, hs, hf, ht⟩ := h
  refine wpAny_Call_Name_kw (thn ((pe_var (pos := p) hN hv hd hcd).run pins s σ H (fun v H1 => v = .ref f ∧ H1 = H) I ⟨.ref f, hs, rfl, rfl⟩) fun u s1 ⟨v, H1, I1, r1, q1⟩ => ?_)
  obtain ⟨ev, eH⟩ := q1
  subst ev
  rw [eH] at I1
  obtain rfl : u = Value.ref f := r1
  refine PySem.W.callWith_F (first := []) (fnAt_of I1 hf) (thn (ha.run pos pins s1 σ H _ I1 ht) fun us s2 ⟨vs, H2, I2, r, h1, h2, h3, h4, h5, n1, n2, q⟩ => ⟨fnAt_of I2 h1, ?_⟩) he hpl
  show wpAny _ _ (call (.ref f) us) _ _ _
  have hget := exV_at I2.hok h3
  have E0 := I2.env0
  have hst : ca ∉ frs X.stack := fun z => by
    have := I2.stkFree ca z
    rw [h3] at this; cases this
  have E1 : Env0 X.prog X.w X.K X.mg X.base X.A X.stack s2 (dlH H2 ca) :=
    ⟨E0.frames, E0.mod, fun b o e => ⟨(E0.bs b o e).1, by
        by_cases z : b = ca
        · rw [z]; exact dlH_same
        · rw [dlH_ne z]; exact (E0.bs b o e).2⟩, E0.bsz, E0.funs,
      fun b hb => (dlH_ne (fun z => hst (by rw [← z]; exact hb))).trans (E0.frf b hb), hok_dl I2.hok h3, E0.bare⟩
  have C : CellsAt (mk ca c').cl [y] [some w] s2.heap (dlH H2 ca) := by
    rw [hcl]
    refine ⟨rfl, fun y' c e => ?_, fun x1 x2 c e1 e2 => ?_, fun j y' e => ?_⟩
    · by_cases hy : y' = y
      · subst hy
        have : c = ca := by simpa [List.lookup] using e.symm
        subst this
        exact ⟨dlH_same, some u0, ob, hget, h4⟩
      · have hb : (y' == y) = false := by simpa using hy
        simp [List.lookup, hb] at e
    · have key : ∀ {z : Str} {c : Addr}, List.lookup z [(y, ca)] = some c → z = y := fun {z c} e => by
        by_cases hy : z = y
        · exact hy
        · have hb : (z == y) = false := by simpa using hy
          simp [List.lookup, hb] at e
      rw [key e1, key e2]
    · match j, e with
      | 0, e =>
        have : y' = y := (Option.some.inj e).symm
        subst this
        refine ⟨ca, by simp [List.lookup], fun v ev => ?_⟩
        have : v = w := (Option.some.inj (Option.some.inj ev)).symm
        subst this
        exact ⟨u0, h5, ob, hget, h4⟩
      | j + 1, e => simp at e
  refine wpAny_call (codeAny_mono ((Fn f ca c').run X.A X.stack s2 (dlH H2 ca) us vs [some w] _ (fun _ _ _ => False) hr E1 (by rw [dlH_ne n1]; exact h1) (by rw [dlH_ne n2]; exact h2) C r ⟨w, rfl, q⟩) fun r s' hq => ?_)
  cases r with
  | error e => exact absurd hq (hx _ _ _ _ _)
  | ok fl =>
    cases fl with
    | ret u =>
      obtain ⟨v, H3, os, bare, un, hok, rv, q2⟩ := hq
      have hga : s'.heap.get? ca = some ob := un.keep ca ob hget dlH_same hst (by simp)
      have f3 : H3 ca = none := un.free ca ob hget dlH_same (by simp)
      have bk : ∀ {b : Addr}, H2 b = none → dlH H2 ca b = none := fun {b} n => by
        by_cases z : b = ca
        · rw [z]; exact dlH_same
        · rw [dlH_ne z]; exact n
      refine ⟨v, upd H3 ca (exV ca ob), I2.call' (ch := []) os ⟨fun b o e n hb hx => un.keep b o e (bk n) hb hx, fun b o e n hb hx => un.slot b o e (bk n) hb hx, fun b o e n hx => ?_, fun b o e hx => un.there b o e hx, fun b xs e => ?_, fun b o u e => ?_, fun b ps e => ?_⟩ (hok_upd hok f3 hga) bare (fun _ z => nomatch z), rv, q2⟩
      · rw [upd_ne (fun z => by rw [z, h3] at n; cases n)]; exact un.free b o e (bk n) hx
      · have hba : b ≠ ca := fun z => by rw [z, h3] at e; exact exV_tup (Option.some.inj e)
        rw [upd_ne hba]; exact un.tups b xs (by rw [dlH_ne hba]; exact e)
      · have hba : b ≠ ca := fun z => by rw [z, h3] at e; exact exV_frz (Option.some.inj e)
        rw [upd_ne hba]; exact un.frzs b o u (by rw [dlH_ne hba]; exact e)
      · have hba : b ≠ ca := fun z => by rw [z, h3] at e; exact exV_tbl (Option.some.inj e)
        obtain ⟨more, z⟩ := un.tbls b ps (by rw [dlH_ne hba]; exact e)
        exact ⟨more, by rw [upd_ne hba]; exact z⟩
    | next => exact False.elim hq
    | brk => exact False.elim hq
    | cont => exact False.elim hq
end

end

section
open NdefX LamX
/-! ### terms -/
structure Tm where
  s : Int
  a : Int
  b : Int
  n : Int
def tmV (t : Tm) : List V := [.int t.s, .int t.a, .int t.b, .int t.n]
structure TmOk (t : Tm) : Prop where
  s : t.s = 1 ∨ t.s = -1
  n1 : 1 ≤ t.n
  n2 : t.n ≤ 1000
  a0 : 0 ≤ t.a
  an : t.a ≤ t.n
  b0 : 0 ≤ t.b
  bn : t.b < t.n
theorem SameT.sql {T : List NTab} {K : PySem.W.Frag} {H H' : Hp} {a : Addr} {xs : List V} (s : SameT T H H') (h : SqL K H a xs) : SqL K H' a xs := by
  rcases h with (h | ⟨o, h⟩) | h
  · exact .inl (.inl (s.ext _ _ h fun _ z => nomatch z))
  · exact .inl (.inr ⟨o, s.ext _ _ h fun _ z => nomatch z⟩)
  · exact .inr h
theorem SameT.sqt {T : List NTab} {K : PySem.W.Frag} {H H' : Hp} {a : Addr} {xs : List V} (s : SameT T H H') (h : SqT K H a xs) : SqT K H' a xs := by
  rcases h with (h | ⟨o, h⟩) | h
  · exact .inl (.inl (s.ext _ _ h fun _ z => nomatch z))
  · exact .inl (.inr ⟨o, s.ext _ _ h fun _ z => nomatch z⟩)
  · exact .inr h
theorem sql_dl {K : PySem.W.Frag} {H : Hp} {a ca : Addr} {ob : Obj} {xs : List V} (e : H ca = some (exV ca ob)) (h : SqL K H a xs) : SqL K (dlH H ca) a xs := by
  have key : ∀ {o : HO}, H a = some o → (∀ z, o ≠ .ext z) → dlH H ca a = some o := fun {o} ho hn => by
    have : a ≠ ca := fun z => by
      rw [z, e] at ho
      exact hn _ (Option.some.inj ho).symm
    rw [dlH_ne this]; exact ho
  rcases h with (h | ⟨o, h⟩) | h
  · exact .inl (.inl (key h fun _ z => nomatch z))
  · exact .inl (.inr ⟨o, key h fun _ z => nomatch z⟩)
  · exact .inr h
theorem sqt_dl {K : PySem.W.Frag} {H : Hp} {a ca : Addr} {ob : Obj} {xs : List V} (e : H ca = some (exV ca ob)) (h : SqT K H a xs) : SqT K (dlH H ca) a xs := by
  have key : ∀ {o : HO}, H a = some o → (∀ z, o ≠ .ext z) → dlH H ca a = some o := fun {o} ho hn => by
    have : a ≠ ca := fun z => by
      rw [z, e] at ho
      exact hn _ (Option.some.inj ho).symm
    rw [dlH_ne this]; exact ho
  rcases h with (h | ⟨o, h⟩) | h
  · exact .inl (.inl (key h fun _ z => nomatch z))
  · exact .inl (.inr ⟨o, key h fun _ z => nomatch z⟩)
  · exact .inr h
/-- the terms that a list's tuples are -/
def TmsAt (K : PySem.W.Frag) (H : Hp) (qs : List Addr) (ts : List Tm) : Prop := qs.length = ts.length ∧ ∀ (i : Nat) (q : Addr) (t : Tm), qs[i]? = some q → ts[i]? = some t → SqT K H q (tmV t)
def TmsL (K : PySem.W.Frag) (H : Hp) (l : Addr) (ts : List Tm) : Prop := ∃ qs : List Addr, SqL K H l (qs.map V.ref) ∧ TmsAt K H qs ts
theorem sqt_updL {K : PySem.W.Frag} {H : Hp} {a D : Addr} {xs : List V} {zs ys : List V} (e : H D = some (.lst zs)) (h : SqT K H a xs) : SqT K (upd H D (.lst ys)) a xs := by
  have ne : ∀ {o : HO}, H a = some o → (∀ z, o ≠ .lst z) → upd H D (.lst ys) a = some o := fun {o} ho hn => by
    rw [upd_ne (fun z => by rw [z, e] at ho; exact hn _ (Option.some.inj ho).symm)]; exact ho
  rcases h with (h | ⟨o, h⟩) | h
  · exact .inl (.inl (ne h fun _ z => nomatch z))
  · exact .inl (.inr ⟨o, ne h fun _ z => nomatch z⟩)
  · exact .inr h
theorem TmsAt.updL {K : PySem.W.Frag} {H : Hp} {D : Addr} {zs ys : List V} {qs : List Addr} {ts : List Tm} (e : H D = some (.lst zs)) (h : TmsAt K H qs ts) : TmsAt K (upd H D (.lst ys)) qs ts := ⟨h.1, fun i q t h1 h2 => sqt_updL e (h.2 i q t h1 h2)⟩
theorem TmsAt.snoc {K : PySem.W.Frag} {H : Hp} {qs : List Addr} {ts : List Tm} {q : Addr} {t : Tm} (h : TmsAt K H qs ts) (hq : SqT K H q (tmV t)) : TmsAt K H (qs ++ [q]) (ts ++ [t]) := by
  refine ⟨by rw [List.length_append, List.length_append, h.1]; rfl, fun i q' t' h1 h2 => ?_⟩
  by_cases hi : i < qs.length
  · rw [List.getElem?_append_left hi] at h1
    rw [List.getElem?_append_left (by rw [← h.1]; exact hi)] at h2
    exact h.2 i q' t' h1 h2
  · rw [List.getElem?_append_right (by omega)] at h1
    rw [List.getElem?_append_right (by rw [← h.1]; omega), ← h.1] at h2
    cases hj : i - qs.length with
    | zero =>
      rw [hj] at h1 h2
      cases Option.some.inj h1; cases Option.some.inj h2
      exact hq
    | succ j => rw [hj] at h1; simp at h1
theorem TmsAt.nil {K : PySem.W.Frag} {H : Hp} : TmsAt K H [] [] := ⟨rfl, fun i q t h => by simp at h⟩
theorem TmsAt.same {K : PySem.W.Frag} {H H' : Hp} {qs : List Addr} {ts : List Tm} (s : Same H H') (h : TmsAt K H qs ts) : TmsAt K H' qs ts := ⟨h.1, fun i q t h1 h2 => same_t s (h.2 i q t h1 h2)⟩
theorem TmsAt.mono {T : List NTab} {K : PySem.W.Frag} {H H' : Hp} {qs : List Addr} {ts : List Tm} (s : SameT T H H') (h : TmsAt K H qs ts) : TmsAt K H' qs ts := ⟨h.1, fun i q t h1 h2 => s.sqt (h.2 i q t h1 h2)⟩
theorem TmsL.mono {T : List NTab} {K : PySem.W.Frag} {H H' : Hp} {l : Addr} {ts : List Tm} (s : SameT T H H') (h : TmsL K H l ts) : TmsL K H' l ts := by
  obtain ⟨qs, h1, h2⟩ := h
  exact ⟨qs, s.sql h1, h2.mono s⟩
theorem TmsL.dl {K : PySem.W.Frag} {H : Hp} {l ca : Addr} {ob : Obj} {ts : List Tm} (e : H ca = some (exV ca ob)) (h : TmsL K H l ts) : TmsL K (dlH H ca) l ts := by
  obtain ⟨qs, h1, h2, h3⟩ := h
  exact ⟨qs, sql_dl e h1, h2, fun i q t a b => sqt_dl e (h3 i q t a b)⟩
/-- the sum that a counter tells -/
def sumT (ts : List Tm) (k : Int) : Int := (ts.map fun t => t.s * ((t.a * k + t.b) / t.n)).sum
theorem sumT_snoc {ts : List Tm} {i : Nat} {t : Tm} {k : Int} (h : ts[i]? = some t) : sumT (ts.take (i + 1)) k = sumT (ts.take i) k + t.s * ((t.a * k + t.b) / t.n) := by
  unfold sumT
  rw [List.take_succ, h, List.map_append, List.sum_append]
  simp
theorem sm_addM {i j : Int} {a b : Nat} (h : Sm a i) (h' : Sm b j) : Sm (a + b + 1) (i + j) := by
  have h1 := h.h
  have h2 := h'.h
  have e1 : (2 : Nat) ^ (a + b + 1) = 2 * (2 ^ a * 2 ^ b) := by rw [Nat.pow_succ, Nat.pow_add]; omega
  have p1 := Nat.two_pow_pos a
  have p2 := Nat.two_pow_pos b
  have q1 : 2 ^ a ≤ 2 ^ a * 2 ^ b := Nat.le_mul_of_pos_right _ p2
  have q2 : 2 ^ b ≤ 2 ^ a * 2 ^ b := Nat.le_mul_of_pos_left _ p1
  refine ⟨?_⟩
  rw [e1]
  generalize 2 ^ a * 2 ^ b = z at *
  omega
theorem sm_quot {i j : Int} {a : Nat} (h : Sm a i) : Sm a (i / j) := ⟨Nat.lt_of_le_of_lt (Int.natAbs_ediv_le_natAbs _ _) h.h⟩
theorem atI_all {P : Int → Prop} {l : List Int} {i : Int} (h0 : 0 ≤ i) (h1 : i < l.length) (hP : ∀ z ∈ l, P z) : ∃ z, P z ∧ atI (l.map V.int) i = some (.int z) := by
  obtain ⟨k, rfl⟩ := Int.eq_ofNat_of_zero_le h0
  have hk : k < l.length := by omega
  refine ⟨l[k], hP _ (List.getElem_mem hk), at_of rfl ?_⟩
  rw [List.getElem?_map, List.getElem?_eq_getElem hk]
  rfl
theorem and_mask41 (x : Int) : 0 ≤ Builtin.bitAnd x 2199023255551 ∧ Builtin.bitAnd x 2199023255551 ≤ 2199023255551 := by
  unfold Builtin.bitAnd
  by_cases h : 0 ≤ x
  · rw [decide_eq_true h]
    have : x.toNat &&& (2199023255551 : Int).toNat ≤ (2199023255551 : Int).toNat := Nat.and_le_right
    have e : (2199023255551 : Int).toNat = 2199023255551 := rfl
    show 0 ≤ ((x.toNat &&& (2199023255551 : Int).toNat : Nat) : Int) ∧ ((x.toNat &&& (2199023255551 : Int).toNat : Nat) : Int) ≤ 2199023255551
    omega
  · rw [decide_eq_false h]
    have : (2199023255551 : Int).toNat &&& (Builtin.bitNot x).toNat ≤ (2199023255551 : Int).toNat := Nat.and_le_left
    have e : (2199023255551 : Int).toNat = 2199023255551 := rfl
    show 0 ≤ 2199023255551 - (((2199023255551 : Int).toNat &&& (Builtin.bitNot x).toNat : Nat) : Int) ∧ 2199023255551 - (((2199023255551 : Int).toNat &&& (Builtin.bitNot x).toNat : Nat) : Int) ≤ 2199023255551
    omega
/-- [e for k in range(..)], told by what holds of the values so far -/
theorem k_lcrP {te : TE} {σ : L2.St} {H1 : Hp} {Q : VK} {lo : Int} {n j : Nat} (P : Nat → List V → Hp → Prop) (hz : n ≤ 1000000) (h0 : ∀ D, H1 D = none → P 0 [] (upd H1 D (.lst [])))
    (hs : ∀ (i : Nat) (acc : List V) (D : Addr) (H2 : Hp) (R : VK), i < n → Same H1 H2 → H2 D = some (.lst acc) → P i acc H2 → (∀ y H3, Same H2 H3 → P (i + 1) (acc ++ [y]) (upd H3 D (.lst (acc ++ [y]))) → R y H3) → te (σ.set j (some (.int (lo + i)))) H2 R)
    (q : ∀ D H2 acc, H1 D = none → Same H1 H2 → H2 D = some (.lst acc) → acc.length = n → P n acc H2 → Q (.ref D) H2) : LcG (Itr lo n) H1 (gName j) tYes te [j] σ Q := by
  intro D hD
  refine lc_range (fun i H' => ∃ acc, Same H1 H' ∧ H' D = some (.lst acc) ∧ acc.length = i ∧ P i acc H') ⟨[], same_new hD, upd_same, rfl, h0 D hD⟩ (fun i H' hi ⟨acc, sm, hd, hl, hp⟩ => ?_) (fun H' ⟨acc, sm, hd, hl, hp⟩ => q D H' acc hD sm hd hl hp)
  have ew : ∀ y : V, (wipe σ [j]).set j (some y) = σ.set j (some y) := fun y => by
    show ((σ.set j none).set j (some y)) = _
    rw [List.set_set]
  show wipe ((wipe σ [j]).set j _) [j] = wipe σ [j] ∧ _
  rw [ew]
  refine ⟨by show (σ.set j _).set j none = σ.set j none; rw [List.set_set], ?_⟩
  refine hs i acc D H' _ hi sm hd hp fun y H3 s3 hp3 => ?_
  refine ⟨acc, s3 _ _ hd, Nat.lt_of_le_of_lt (show acc.length ≤ 1000000 by omega) (by rw [sizeLine_eq]; decide), _, same_mut (sm.trans s3) hD, upd_same, by rw [List.length_append, hl]; rfl, hp3⟩
theorem sumT_zero {ts : List Tm} (h : ∀ t ∈ ts, TmOk t) : sumT ts 0 = 0 := by
  unfold sumT
  induction ts with
  | nil => rfl
  | cons t r ih =>
    have ok := h t List.mem_cons_self
    rw [List.map_cons, List.sum_cons, ih fun x hx => h x (List.mem_cons_of_mem _ hx), Int.mul_zero, Int.zero_add, Int.ediv_eq_zero_of_lt ok.b0 ok.bn]
    omega
/-- by how much one term rises -/
def riseM (t : Tm) (k : Int) : Int := (t.a * k + t.b + t.a) / t.n - (t.a * k + t.b) / t.n
def riseT (ts : List Tm) (k : Int) : Int := (ts.map fun t => t.s * riseM t k).sum
theorem riseT_snoc {ts : List Tm} {i : Nat} {t : Tm} {k : Int} (h : ts[i]? = some t) : riseT (ts.take (i + 1)) k = riseT (ts.take i) k + t.s * riseM t k := by
  unfold riseT
  rw [List.take_succ, h, List.map_append, List.sum_append]
  simp
theorem sumT_next (ts : List Tm) (k : Int) : sumT ts (k + 1) = sumT ts k + riseT ts k := by
  unfold sumT riseT
  induction ts with
  | nil => rfl
  | cons t r ih =>
    rw [List.map_cons, List.sum_cons, List.map_cons, List.sum_cons, List.map_cons, List.sum_cons, ih]
    have e : t.a * (k + 1) + t.b = t.a * k + t.b + t.a := by rw [Int.mul_add]; omega
    have e2 : t.s * ((t.a * k + t.b + t.a) / t.n) = t.s * ((t.a * k + t.b) / t.n) + t.s * riseM t k := by
      unfold riseM; rw [← Int.mul_add]; congr 1; omega
    rw [e, e2]
    omega
theorem rise_on {t : Tm} (ok : TmOk t) (k : Int) : t.n ≤ (t.a * k + t.b) % t.n + t.a ↔ riseM t k = 1 := by
  unfold riseM
  have h1 := ok.n1
  have h2 := ok.a0
  have h3 := ok.an
  generalize t.a * k + t.b = x
  have e1 := Int.emod_add_mul_ediv x t.n
  have m1 := Int.emod_nonneg x (show t.n ≠ 0 by omega)
  have m2 := Int.emod_lt_of_pos x (show 0 < t.n by omega)
  have e2 : x + t.a = (x % t.n + t.a) + t.n * (x / t.n) := by omega
  rw [e2, Int.add_mul_ediv_left _ _ (by omega)]
  constructor
  · intro h
    have : (x % t.n + t.a) / t.n = 1 := by
      rw [show x % t.n + t.a = (x % t.n + t.a - t.n) + t.n * 1 by omega, Int.add_mul_ediv_left _ _ (by omega), Int.ediv_eq_zero_of_lt (by omega) (by omega)]; omega
    omega
  · intro h
    by_cases hh : t.n ≤ x % t.n + t.a
    · exact hh
    · have : (x % t.n + t.a) / t.n = 0 := Int.ediv_eq_zero_of_lt (by omega) (by omega)
      omega
theorem riseM_bd {t : Tm} (ok : TmOk t) (k : Int) : 0 ≤ riseM t k ∧ riseM t k ≤ 1 := by
  unfold riseM
  have h1 := ok.n1
  have h2 := ok.a0
  have h3 := ok.an
  generalize t.a * k + t.b = x
  have e1 := Int.emod_add_mul_ediv x t.n
  have m1 := Int.emod_nonneg x (show t.n ≠ 0 by omega)
  have m2 := Int.emod_lt_of_pos x (show 0 < t.n by omega)
  have e2 : x + t.a = (x % t.n + t.a) + t.n * (x / t.n) := by omega
  rw [e2, Int.add_mul_ediv_left _ _ (by omega)]
  have g1 := Int.ediv_nonneg (show 0 ≤ x % t.n + t.a by omega) (show 0 ≤ t.n by omega)
  have g2 : (x % t.n + t.a) / t.n < 2 := Int.ediv_lt_of_lt_mul (by omega) (by omega)
  omega
theorem sumT_one (t : Tm) (x : Int) : sumT [t] x = t.s * ((t.a * x + t.b) / t.n) := by simp [sumT]
theorem alone_eq {t : Tm} (ok : TmOk t) (k : Int) : sumT [t] (k + t.n) - sumT [t] k = t.s * t.a := by
  have h1 := ok.n1
  rw [sumT_one, sumT_one, ← Int.mul_sub]
  congr 1
  rw [show t.a * (k + t.n) + t.b = t.a * k + t.b + t.n * t.a by rw [Int.mul_add, Int.mul_comm t.n]; omega, Int.add_mul_ediv_left _ _ (by omega)]
  omega
/-- [e for s, a, b, n in terms] -/
theorem k_lclT {K : PySem.W.Frag} {te : TE} {σ : L2.St} {H1 : Hp} {Q : VK} {a : Addr} {qs : List Addr} {ts : List Tm} {j1 j2 j3 j4 : Nat} (hx : SqL K H1 a (qs.map V.ref)) (hq : TmsAt K H1 qs ts) (L : List V) (hl : L.length = ts.length) (hz : ts.length ≤ 1000000)
    (hw : ∀ w x y z : V, wipe (((((wipe σ [j1, j2, j3, j4]).set j1 (some w)).set j2 (some x)).set j3 (some y)).set j4 (some z)) [j1, j2, j3, j4] = wipe σ [j1, j2, j3, j4])
    (hs : ∀ (i : Nat) (t : Tm) (v : V) (H2 : Hp) (R : VK), ts[i]? = some t → L[i]? = some v → Same H1 H2 → (∀ H3, Same H2 H3 → R v H3) → te (((((wipe σ [j1, j2, j3, j4]).set j1 (some (.int t.s))).set j2 (some (.int t.a))).set j3 (some (.int t.b))).set j4 (some (.int t.n))) H2 R)
    (q : ∀ D H2, H1 D = none → Same H1 H2 → H2 D = some (.lst L) → Q (.ref D) H2) : LcG (Itl K a) H1 (gTup K 4 (gCons (gName j1) (gCons (gName j2) (gCons (gName j3) (gCons (gName j4) gNil))))) tYes te [j1, j2, j3, j4] σ Q := by
  have hlq := hq.1
  intro D hD
  refine lc_list (xs := qs.map V.ref) (fun i H' => Same H1 H' ∧ H' D = some (.lst (L.take i))) ⟨same_new hD, by rw [upd_same]; rfl⟩ (fun i H' _ ⟨sm, _⟩ => same_l sm hx) (fun i x H' hi ⟨sm, hd⟩ => ?_) (fun H' ⟨sm, hd⟩ => q D H' hD sm (by rw [hd, List.length_map, List.take_of_length_le (by omega)]))
  rw [List.getElem?_map] at hi
  obtain ⟨p, hp, rfl⟩ := Option.map_eq_some_iff.mp hi
  have hil : i < ts.length := by
    have := (List.getElem?_eq_some_iff.mp hp).1
    omega
  have ht := List.getElem?_eq_getElem hil
  have htq : SqT K H' p [.int (ts[i]'hil).s, .int (ts[i]'hil).a, .int (ts[i]'hil).b, .int (ts[i]'hil).n] := same_t sm (hq.2 i p _ hp ht)
  refine k_gtup htq rfl ?_
  refine k_gcons (k_gcons (k_gcons (k_gcons ?_)))
  show ([] : List V) = [] ∧ _
  refine ⟨rfl, ?_⟩
  refine ⟨hw _ _ _ _, ?_⟩
  refine hs i _ (L[i]'(by omega)) H' _ ht (List.getElem?_eq_getElem (by omega)) sm fun H3 s3 => ?_
  refine ⟨L.take i, s3 _ _ hd, Nat.lt_of_le_of_lt (Nat.le_trans (by rw [List.length_take]; exact Nat.min_le_left _ _) (show i ≤ 1000000 by omega)) (by rw [sizeLine_eq]; decide), same_mut (sm.trans s3) hD, ?_⟩
  rw [upd_same, List.take_add_one, List.getElem?_eq_getElem (show i < L.length by omega)]
  rfl
/-! terms as data, for == -/
def tmD (t : Tm) : PyData := .tuple [.int t.s, .int t.a, .int t.b, .int t.n]
def tmsD (ts : List Tm) : PyData := .list (ts.map tmD)
theorem tmD_lay (t : Tm) : (tmD t).canLay0 = true := by simp [tmD, PyData.canLay0, PyData.canLayAll0]
theorem tmD_depth (t : Tm) : (tmD t).depth = 1 := by simp [tmD, PyData.depth, PyData.depthAll]
theorem tmsD_lay (ts : List Tm) : PyData.canLayAll0 (ts.map tmD) = true := by
  induction ts with
  | nil => rfl
  | cons t r ih => simp [PyData.canLayAll0, tmD_lay, ih]
theorem tmsD_depth (ts : List Tm) : PyData.depthAll (ts.map tmD) ≤ 1 := by
  induction ts with
  | nil => simp [PyData.depthAll]
  | cons t r ih => simp only [List.map_cons, PyData.depthAll, tmD_depth]; omega
theorem tmsD_shaped (ts : List Tm) : SeqAt.shaped (tmsD ts) = true := by
  have h := tmsD_depth ts
  have e1 : (PyData.list (ts.map tmD)).canLay0 = true := by simp only [PyData.canLay0]; exact tmsD_lay ts
  have e2 : (PyData.list (ts.map tmD)).depth ≤ 64 := by simp only [PyData.depth]; omega
  unfold SeqAt.shaped tmsD
  rw [e1, decide_eq_true e2]; rfl
theorem dp_tms {K : PySem.W.Frag} {H : Hp} {a : Addr} {qs : List Addr} {ts : List Tm} (hS : SqL K H a (qs.map V.ref)) (hq : TmsAt K H qs ts) : Dp K H (.ref a) (tmsD ts) := by
  refine .lst hS ?_
  clear hS
  induction qs generalizing ts with
  | nil =>
    have : ts = [] := List.eq_nil_of_length_eq_zero (by have := hq.1; simpa using this.symm)
    subst this; exact .nil
  | cons q r ih =>
    match ts, hq with
    | [], hq => have := hq.1; simp at this
    | t :: u, hq =>
      refine .cons (.tup (hq.2 0 q t rfl rfl) (.cons (.int _) (.cons (.int _) (.cons (.int _) (.cons (.int _) .nil))))) (ih ⟨by have := hq.1; simpa using this, fun i q' t' h1 h2 => hq.2 (i + 1) q' t' (by simpa using h1) (by simpa using h2)⟩)
theorem tms_eq (ts : List Tm) : PyData.eqv (tmsD ts) (tmsD ts) = true := by
  have h := tmsD_lay ts
  refine SeqAt.eqv_refl _ ?_
  simp only [tmsD, PyData.canLay0]
  exact h
theorem tms_nil (ts : List Tm) : PyData.eqv (tmsD ts) (.list []) = decide (ts = []) := by
  cases ts with
  | nil => simp [tmsD, PyData.eqv, PyData.eqvAll]
  | cons t r => simp [tmsD, PyData.eqv, PyData.eqvAll]
theorem k_eqDD {K : PySem.W.Frag} {H : Hp} {Q : VK} {x y : V} {d e : PyData} {r : Bool} (hd : Dp K H x d) (he : Dp K H y e) (sd : SeqAt.shaped d = true) (se : SeqAt.shaped e = true) (hr : PyData.eqv d e = r) (q : Q (.bl r) H) : rEqA K x y H Q :=
  .inr ⟨d, e, hd, he, sd, se, by rw [hr]; exact q⟩
theorem k_neDD {K : PySem.W.Frag} {H : Hp} {Q : VK} {x y : V} {d e : PyData} {r : Bool} (hd : Dp K H x d) (he : Dp K H y e) (sd : SeqAt.shaped d = true) (se : SeqAt.shaped e = true) (hr : PyData.eqv d e = r) (q : Q (.bl (!r)) H) : rNeA K x y H Q :=
  .inr ⟨d, e, hd, he, sd, se, by rw [hr]; exact q⟩
theorem nil_shaped : SeqAt.shaped (.list []) = true := by simp [SeqAt.shaped, PyData.canLay0, PyData.canLayAll0, PyData.depth, PyData.depthAll]
/-- a new list is changed -/
theorem SameT.mutL {T : List NTab} {H H1 : Hp} {p : Addr} {xs ys : List V} (s : SameT T H H1) (hp : H p = none) (e : H1 p = some (.lst xs)) : SameT T H (upd H1 p (.lst ys)) := by
  refine ⟨fun b o h n => ?_, fun t q hq => ?_⟩
  · rw [upd_ne (ne_of_none h hp)]; exact s.ext b o h n
  · obtain ⟨ps0, h0, _⟩ := t q hq
    obtain ⟨ps, h1, h2, h3⟩ := s.tab t q hq
    refine ⟨ps, by rw [upd_ne (ne_of_none h0 hp)]; exact h1, h2, fun pos cv hc => ?_⟩
    obtain ⟨c, e1, e2⟩ := h3 pos cv hc
    refine ⟨c, e1, ?_⟩
    rw [upd_ne (fun z => by rw [z, e] at e2; cases e2)]; exact e2
/-- the readings' heads -/
theorem k_callClo {mk : Addr → Addr → NF} {i : Nat} {sp : V → Sp} {t : TA} {σ : L2.St} {H : Hp} {Q : VK} (h : ∃ (f c' ca : Addr) (ob : Obj) (u : Value) (x : V), σ[i]? = some (some (.ref f)) ∧ H f = some (FnO f (mk ca c')) ∧
  t σ H fun vs H1 => H1 f = some (FnO f (mk ca c')) ∧ H1 (mk ca c').c = some (CodeO (mk ca c').c (mk ca c').qual) ∧ H1 ca = some (exV ca ob) ∧ ob.data = .cell (some u) ∧ RelV x u ∧ f ≠ ca ∧ (mk ca c').c ≠ ca ∧
    sp x vs (dlH H1 ca) (fun v H2 => Q v (upd H2 ca (exV ca ob))) (fun _ _ _ => False)) : tCallClo mk i sp t σ H Q := h
theorem upd_dl {H H2 : Hp} {ca : Addr} {ob : Obj} (e : H ca = some (exV ca ob)) (s : Same (dlH H ca) H2) : Same H (upd H2 ca (exV ca ob)) := fun b o h => by
  by_cases z : b = ca
  · subst z
    rw [e] at h; cases h
    exact upd_same
  · rw [upd_ne z]
    exact s _ _ (by rw [dlH_ne z]; exact h)

end

section
open NdefX LamX
theorem FunD.okN {P : Program} {w : World} {K : PySem.W.Frag} {mg : Str → Option Value} {base : Heap} {x qual : Str} {params : Arguments} {body : List Stmt} {scope : Scope} {dvs : List V} {kws : List (Str × V)} {f : Addr} {fd : FuncData} {N ps : List Str} {k : Nat} {sp : Sp}
    (F : FunD K x qual params body scope dvs kws f fd) (S : FnScope N ps scope) (len : ∀ vs H Q E, sp vs H Q E → vs.length = ps.length)
    (hbody : ∀ (cdv : Value) (A : Around) (outer : List Env) (s : Shared) (H : Hp) (vs : List V) (Q : VK) (E : XK), Room k (A.deeper (envOfC qual scope s.heap.objs.size f cdv)) → sp vs H Q E →
      ∃ t, PSs (cxOf CX0 P w K mg base N qual scope f cdv A outer s H E).nox body t ∧ t { nx := fun _ H' => Q .non H', rt := Q } (start N vs) H) : FnOk P w K mg base CX0 (k + 1) f fd ps sp :=
  F.ok S len fun cdv A outer s H vs Q E hr hsp => by
    obtain ⟨t, h, q⟩ := hbody cdv A outer s H vs Q E hr hsp
    exact ⟨t, h.nox, q⟩
/-- one of two readings serves -/
theorem pe_alt {X : Cx} {e : Expr} {t1 t2 : TE} (h1 : PE X e t1) (h2 : PE X e t2) : PE X e (fun σ H Q => t1 σ H Q ∨ t2 σ H Q) :=
  ⟨fun pins s σ H Q I h => h.elim (h1.run pins s σ H Q I) (h2.run pins s σ H Q I)⟩
/-! ### objects: the readings' heads -/
section
variable {K : PySem.W.Frag} {σ : L2.St} {H : Hp} {Q : VK} {D : Ends} {C a dx : Addr} {fs : List (Str × V)} {f m : Str} {v y : V} {ta tv : TE} {t : TA} {sp : Sp} {dvs : List V} {E : XK}
def FldR (K : PySem.W.Frag) (f : Str) (x : V) (H1 : Hp) (Q : VK) : Prop := ∃ a C dx fs v, x = .ref a ∧ H1 a = some (.ins C dx fs) ∧ Cls K C ∧ NoAttr K C f ∧ fs.lookup f = some v ∧ Q v H1
theorem k_fld (h : ta σ H fun x H1 => FldR K f x H1 Q) : tFld K ta f σ H Q := h
theorem k_fldX (h : H a = some (.ins C dx fs)) (c : Cls K C) (n : NoAttr K C f) (l : fs.lookup f = some v) (q : Q v H) : FldR K f (.ref a) H Q := ⟨a, C, dx, fs, v, rfl, h, c, n, l, q⟩
def StoR (K : PySem.W.Frag) (f : Str) (y : V) (σ : L2.St) (D : Ends) (x : V) (H2 : Hp) : Prop := ∃ a C dx fs, x = .ref a ∧ H2 a = some (.ins C dx fs) ∧ Cls K C ∧ NoAttr K C f ∧ fs.length < 1000 ∧ D.nx σ (upd H2 a (.ins C dx (putF f y fs)))
theorem k_seqO {u : TS} (h : sFld K ta tv f { D with nx := u D } σ H) : tSeq (sFld K ta tv f) u D σ H := h
theorem k_sto (h : tv σ H fun y H1 => ta σ H1 fun x H2 => StoR K f y σ D x H2) : sFld K ta tv f D σ H := h
theorem k_stoX (h : H a = some (.ins C dx fs)) (c : Cls K C) (n : NoAttr K C f) (l : fs.length < 1000) (q : D.nx σ (upd H a (.ins C dx (putF f y fs)))) : StoR K f y σ D (.ref a) H := ⟨a, C, dx, fs, rfl, h, c, n, l, q⟩
def MetR (C : Addr) (m : Str) (sp : Sp) (dvs : List V) (E : XK) (t : TA) (σ : L2.St) (x : V) (H1 : Hp) (Q : VK) : Prop := ∃ a dx fs, x = .ref a ∧ H1 a = some (.ins C dx fs) ∧ fs.lookup m = none ∧ t σ H1 fun vs H2 => sp (x :: (vs ++ dvs)) H2 Q E
theorem k_met' (h : ta σ H fun x H1 => MetR C m sp dvs E t σ x H1 Q) : tMeth C m sp dvs E ta t σ H Q := h
theorem k_metX (h : H a = some (.ins C dx fs)) (l : fs.lookup m = none) (q : t σ H fun vs H2 => sp (.ref a :: (vs ++ dvs)) H2 Q E) : MetR C m sp dvs E t σ (.ref a) H Q := ⟨a, dx, fs, rfl, h, l, q⟩
def MakR (C : Addr) (sp : Sp) (dvs : List V) (E : XK) (vs : List V) (H1 : Hp) (Q : VK) : Prop := ∀ x dx, H1 x = none → H1 dx = none → dx ≠ x → sp (.ref x :: (vs ++ dvs)) (upd (upd H1 dx (.own x)) x (.ins C dx [])) (fun v H2 => v = .non ∧ Q (.ref x) H2) E
theorem k_mak (h : t σ H fun vs H1 => MakR C sp dvs E vs H1 Q) : tMake C sp dvs E t σ H Q := h
end
/-- all is kept but what stands at x -/
structure SameX (T : List NTab) (x : Addr) (H H' : Hp) : Prop where
  ext : ∀ b o, H b = some o → b ≠ x → (∀ ps, o ≠ .tbl ps) → H' b = some o
  tab : TabsN T H → TabsN T H'
theorem SameX.of {T : List NTab} {x : Addr} {H H' : Hp} (s : SameT T H H') : SameX T x H H' := ⟨fun b o h _ n => s.ext b o h n, s.tab⟩
theorem SameX.trans {T : List NTab} {x : Addr} {H H1 H2 : Hp} (a : SameX T x H H1) (b : SameX T x H1 H2) : SameX T x H H2 := ⟨fun c o h n1 n2 => b.ext c o (a.ext c o h n1 n2) n1 n2, fun t => b.tab (a.tab t)⟩
/-- a field of the object at x is set -/
theorem SameX.upd {T : List NTab} {x : Addr} {H : Hp} {C dx : Addr} {fs : List (Str × V)} {o : HO} (h : H x = some (.ins C dx fs)) : SameX T x H (upd H x o) := by
  refine ⟨fun b o h n _ => by rw [upd_ne n]; exact h, fun t q hq => ?_⟩
  obtain ⟨ps, h1, h2, h3⟩ := t q hq
  refine ⟨ps, by rw [upd_ne (fun z => by rw [z, h] at h1; cases h1)]; exact h1, h2, fun pos cv hc => ?_⟩
  obtain ⟨c, e1, e2⟩ := h3 pos cv hc
  exact ⟨c, e1, by rw [upd_ne (fun z => by rw [z, h] at e2; cases e2)]; exact e2⟩
/-- an object was made: all that was tracked is kept -/
theorem SameX.made {T : List NTab} {x dx C : Addr} {H H' : Hp} (hx : H x = none) (hd : H dx = none) (s : SameX T x (L2.upd (L2.upd H dx (.own x)) x (.ins C dx [])) H') : SameT T H H' := by
  have ne : ∀ {b : Addr} {o : HO}, H b = some o → L2.upd (L2.upd H dx (.own x)) x (.ins C dx []) b = some o := fun {b o} h => by
    rw [upd_ne (ne_of_none h hx), upd_ne (ne_of_none h hd)]; exact h
  exact ⟨fun b o h n => s.ext b o (ne h) (ne_of_none h hx) n, fun t => s.tab (t.ext fun b o h => ne h)⟩
theorem sqt_updI {K : PySem.W.Frag} {H : Hp} {a x C dx : Addr} {fs : List (Str × V)} {o : HO} {xs : List V} (e : H x = some (.ins C dx fs)) (h : SqT K H a xs) : SqT K (L2.upd H x o) a xs := by
  have ne : ∀ {u : HO}, H a = some u → (∀ C d f, u ≠ .ins C d f) → L2.upd H x o a = some u := fun {u} ho hn => by
    rw [upd_ne (fun z => by rw [z, e] at ho; exact hn _ _ _ (Option.some.inj ho).symm)]; exact ho
  rcases h with (h | ⟨o, h⟩) | h
  · exact .inl (.inl (ne h fun _ _ _ z => nomatch z))
  · exact .inl (.inr ⟨o, ne h fun _ _ _ z => nomatch z⟩)
  · exact .inr h
theorem sql_updI {K : PySem.W.Frag} {H : Hp} {a x C dx : Addr} {fs : List (Str × V)} {o : HO} {xs : List V} (e : H x = some (.ins C dx fs)) (h : SqL K H a xs) : SqL K (L2.upd H x o) a xs := by
  have ne : ∀ {u : HO}, H a = some u → (∀ C d f, u ≠ .ins C d f) → L2.upd H x o a = some u := fun {u} ho hn => by
    rw [upd_ne (fun z => by rw [z, e] at ho; exact hn _ _ _ (Option.some.inj ho).symm)]; exact ho
  rcases h with (h | ⟨o, h⟩) | h
  · exact .inl (.inl (ne h fun _ _ _ z => nomatch z))
  · exact .inl (.inr ⟨o, ne h fun _ _ _ z => nomatch z⟩)
  · exact .inr h
theorem TmsL.updI {K : PySem.W.Frag} {H : Hp} {a x C dx : Addr} {fs : List (Str × V)} {o : HO} {ts : List Tm} (e : H x = some (.ins C dx fs)) (h : TmsL K H a ts) : TmsL K (L2.upd H x o) a ts := by
  obtain ⟨qs, h1, h2, h3⟩ := h
  exact ⟨qs, sql_updI e h1, h2, fun i q t a b => sqt_updI e (h3 i q t a b)⟩
/-! ### measures -/
def mfs (b : Int) (l : Addr) : List (Str × V) := [("base", .int b), ("terms", .ref l)]
theorem mfs_put (b : Int) (l : Addr) : putF "terms" (.ref l) (putF "base" (.int b) []) = mfs b l := by
  show (if (("base" : Str) = "terms") then _ else (("base" : Str), V.int b) :: putF "terms" (.ref l) []) = _
  rw [if_neg (by decide +kernel)]
  rfl
theorem mfs_base (b : Int) (l : Addr) : (mfs b l).lookup ("base" : Str) = some (.int b) := by simp [mfs, List.lookup]
theorem mfs_terms (b : Int) (l : Addr) : (mfs b l).lookup ("terms" : Str) = some (.ref l) := by
  have e : (("terms" : Str) == "base") = false := by decide +kernel
  simp [mfs, List.lookup, e]
theorem mfs_no (b : Int) (l : Addr) {m : Str} (h1 : (m == ("base" : Str)) = false) (h2 : (m == ("terms" : Str)) = false) : (mfs b l).lookup m = none := by simp [mfs, List.lookup, h1, h2]
/-- a measure of the base b and the terms ts stands at m -/
def MeasAt (K : PySem.W.Frag) (C : Addr) (H : Hp) (m : Addr) (b : Int) (ts : List Tm) : Prop := ∃ dx l, H m = some (.ins C dx (mfs b l)) ∧ TmsL K H l ts
theorem MeasAt.mono {T : List NTab} {K : PySem.W.Frag} {C : Addr} {H H' : Hp} {m : Addr} {b : Int} {ts : List Tm} (s : SameT T H H') (h : MeasAt K C H m b ts) : MeasAt K C H' m b ts := by
  obtain ⟨dx, l, h1, h2⟩ := h
  exact ⟨dx, l, s.ins h1, h2.mono s⟩
/-- a measure at m whose list of terms was not there ahead -/
def MeasN (K : PySem.W.Frag) (C : Addr) (H H' : Hp) (m : Addr) (b : Int) (ts : List Tm) : Prop := ∃ dx l, H' m = some (.ins C dx (mfs b l)) ∧ H l = none ∧ TmsL K H' l ts
theorem MeasN.at {K : PySem.W.Frag} {C : Addr} {H H' : Hp} {m : Addr} {b : Int} {ts : List Tm} (h : MeasN K C H H' m b ts) : MeasAt K C H' m b ts := by
  obtain ⟨dx, l, h1, _, h2⟩ := h
  exact ⟨dx, l, h1, h2⟩
theorem MeasN.mono {T : List NTab} {K : PySem.W.Frag} {C : Addr} {H H' H'' : Hp} {m : Addr} {b : Int} {ts : List Tm} (s : SameT T H' H'') (h : MeasN K C H H' m b ts) : MeasN K C H H'' m b ts := by
  obtain ⟨dx, l, h1, h0, h2⟩ := h
  exact ⟨dx, l, s.ins h1, h0, h2.mono s⟩
theorem MeasN.back {K : PySem.W.Frag} {C : Addr} {H0 H H' : Hp} {m : Addr} {b : Int} {ts : List Tm} (s : ∀ l, H l = none → H0 l = none) (h : MeasN K C H H' m b ts) : MeasN K C H0 H' m b ts := by
  obtain ⟨dx, l, h1, h0, h2⟩ := h
  exact ⟨dx, l, h1, s l h0, h2⟩
theorem sql_updN {K : PySem.W.Frag} {H : Hp} {a D : Addr} {xs : List V} {o : HO} (n : a ≠ D) (h : SqL K H a xs) : SqL K (L2.upd H D o) a xs := by
  rcases h with (h | ⟨o, h⟩) | h
  · exact .inl (.inl (by rw [upd_ne n]; exact h))
  · exact .inl (.inr ⟨o, by rw [upd_ne n]; exact h⟩)
  · exact .inr h
/-- a list that was there ahead is changed: the measure stays -/
theorem MeasN.updL {K : PySem.W.Frag} {C : Addr} {H H' : Hp} {m p : Addr} {b : Int} {ts : List Tm} {xs ys : List V} {o : HO} (hp : H p = some o) (hp' : H' p = some (.lst xs)) (h : MeasN K C H H' m b ts) : MeasN K C H (L2.upd H' p (.lst ys)) m b ts := by
  obtain ⟨dx, l, h1, h0, qs, h2, h3⟩ := h
  refine ⟨dx, l, by rw [upd_ne (fun z => by rw [z, hp'] at h1; cases h1)]; exact h1, h0, qs, sql_updN (fun z => by rw [z, hp] at h0; cases h0) h2, h3.updL hp'⟩
def fallsT (ts : List Tm) : Int := ((ts.filter fun t => decide (t.s = -1)).length : Nat)
def perT (ts : List Tm) : Int := ts.foldl (fun s t => lcmI s t.n) 1
def uptoM (b : Int) (ts : List Tm) (k : Int) : Int := b * k + sumT ts k
def atM (b : Int) (ts : List Tm) (k : Int) : Int := b + riseT ts k
structure MeasOk (b : Int) (ts : List Tm) : Prop where
  b0 : 0 ≤ b
  b1 : b ≤ 20000
  len : ts.length ≤ 6
  ok : ∀ t ∈ ts, TmOk t
  falls : fallsT ts ≤ b
  pos : 1 ≤ uptoM b ts (perT ts)
theorem perT_snoc {ts : List Tm} {i : Nat} {t : Tm} (h : ts[i]? = some t) : perT (ts.take (i + 1)) = lcmI (perT (ts.take i)) t.n := by
  unfold perT
  rw [List.take_succ, h, List.foldl_append]
  rfl
theorem falls_range (ts : List Tm) : (((List.range ts.length).filter fun i => decide ((ts[i]?.map (·.s)) = some (-1))).length : Int) = fallsT ts := by
  unfold fallsT
  have key : ∀ n, n ≤ ts.length → ((List.range n).filter fun i => decide ((ts[i]?.map (·.s)) = some (-1))).length = ((ts.take n).filter fun t => decide (t.s = -1)).length := by
    intro n
    induction n with
    | zero => intro _; rfl
    | succ n ih =>
      intro hn
      have ht := List.getElem?_eq_getElem (show n < ts.length by omega)
      rw [List.range_succ, List.filter_append, List.length_append, ih (by omega), List.take_succ, ht, List.filter_append, List.length_append]
      congr 1
      by_cases h : (ts[n]'(by omega)).s = -1
      · simp [ht, h]
      · simp [ht, h]
  rw [key _ (Nat.le_refl _), List.take_of_length_le (Nat.le_refl _)]
theorem perT_bd {ts : List Tm} (h : ∀ t ∈ ts, TmOk t) (hl : ts.length ≤ 6) (i : Nat) : 1 ≤ perT (ts.take i) ∧ perT (ts.take i) ≤ 1000000000000000000 := by
  have key : ∀ i : Nat, 1 ≤ perT (ts.take i) ∧ perT (ts.take i) ≤ (1000 : Int) ^ (min i ts.length) := by
    intro i
    induction i with
    | zero => exact ⟨by show (1 : Int) ≤ 1; decide, by rw [Nat.zero_min]; show (1 : Int) ≤ 1; decide⟩
    | succ i ih =>
      by_cases hi : i < ts.length
      · have ht := List.getElem?_eq_getElem hi
        have ok := h _ (List.getElem_mem hi)
        have n1 := ok.n1
        have n2 := ok.n2
        rw [perT_snoc ht]
        generalize ts[i] = t at *
        obtain ⟨g1, g2⟩ := ih
        have l1 := lcm_pos g1 n1
        have l2 := lcm_le_mul g1 n1
        refine ⟨l1, Int.le_trans l2 ?_⟩
        rw [show min (i + 1) ts.length = min i ts.length + 1 by omega, Int.pow_succ]
        exact Int.mul_le_mul g2 n2 (by omega) (Int.pow_nonneg (by decide))
      · rw [show ts.take (i + 1) = ts.take i by rw [List.take_of_length_le (by omega), List.take_of_length_le (by omega)], show min (i + 1) ts.length = min i ts.length by omega]
        exact ih
  obtain ⟨g1, g2⟩ := key i
  refine ⟨g1, Int.le_trans g2 ?_⟩
  have : (1000 : Int) ^ (min i ts.length) ≤ 1000 ^ 6 := by
    have hm : min i ts.length ≤ 6 := by omega
    generalize min i ts.length = e at *
    match e, hm with
    | 0, _ => decide
    | 1, _ => decide
    | 2, _ => decide
    | 3, _ => decide
    | 4, _ => decide
    | 5, _ => decide
    | 6, _ => decide
    | n + 7, h => omega
  exact Int.le_trans this (by decide)

end

section
open NdefX LamX
/-- all a round of numbers tells -/
def overM (b : Int) (ts : List Tm) (p : Int) : Int := b * p + (ts.map fun t => t.s * t.a * (p / t.n)).sum
theorem over_snoc {ts : List Tm} {i : Nat} {t : Tm} {p : Int} (h : ts[i]? = some t) : ((ts.take (i + 1)).map fun t => t.s * t.a * (p / t.n)).sum = ((ts.take i).map fun t => t.s * t.a * (p / t.n)).sum + t.s * t.a * (p / t.n) := by
  rw [List.take_succ, h, List.map_append, List.sum_append]
  simp
theorem dvd_per {ts : List Tm} (h : ∀ t ∈ ts, TmOk t) {t : Tm} (ht : t ∈ ts) : t.n ∣ perT ts := by
  have key : ∀ (l : List Tm) (s : Int), 1 ≤ s → (∀ t ∈ l, TmOk t) → (s ∣ l.foldl (fun s t => lcmI s t.n) s) ∧ ∀ t ∈ l, t.n ∣ l.foldl (fun s t => lcmI s t.n) s := by
    intro l
    induction l with
    | nil => intro s _ _; exact ⟨Int.dvd_refl s, fun _ h => by simp at h⟩
    | cons x r ih =>
      intro s hs hok
      have ox := hok x List.mem_cons_self
      obtain ⟨g1, g2⟩ := ih (lcmI s x.n) (lcm_pos hs ox.n1) (fun t h => hok t (List.mem_cons_of_mem _ h))
      refine ⟨Int.dvd_trans (dvd_lcm_left hs) g1, fun t h => ?_⟩
      rcases List.mem_cons.mp h with rfl | h
      · exact Int.dvd_trans (dvd_lcm_right s t.n) g1
      · exact g2 t h
  exact (key ts 1 (by decide) h).2 t ht
/-- over a multiple of all sizes -/
theorem sum_over {ts : List Tm} (h : ∀ t ∈ ts, TmOk t) {p : Int} (hp : ∀ t ∈ ts, t.n ∣ p) (k : Int) : sumT ts (k + p) = sumT ts k + (ts.map fun t => t.s * t.a * (p / t.n)).sum := by
  unfold sumT
  induction ts with
  | nil => rfl
  | cons t r ih =>
    have ok := h t List.mem_cons_self
    have n1 := ok.n1
    obtain ⟨c, hc⟩ := hp t List.mem_cons_self
    rw [List.map_cons, List.sum_cons, List.map_cons, List.sum_cons, List.map_cons, List.sum_cons, ih (fun t h' => h t (List.mem_cons_of_mem _ h')) (fun t h' => hp t (List.mem_cons_of_mem _ h'))]
    have e1 : p / t.n = c := by rw [hc]; exact Int.mul_ediv_cancel_left _ (by omega)
    have e2 : t.a * (k + p) + t.b = t.a * k + t.b + t.n * (t.a * c) := by
      rw [hc, Int.mul_add, ← Int.mul_assoc t.a t.n c, Int.mul_comm t.a t.n, Int.mul_assoc]; omega
    rw [e1, e2, Int.add_mul_ediv_left _ _ (by omega), Int.mul_add, Int.mul_assoc]
    omega
theorem upto_over {b : Int} {ts : List Tm} (h : ∀ t ∈ ts, TmOk t) {p : Int} (hp : ∀ t ∈ ts, t.n ∣ p) (k : Int) : uptoM b ts (k + p) = uptoM b ts k + overM b ts p := by
  unfold uptoM overM
  rw [sum_over h hp, Int.mul_add]; omega
theorem over_upto {b : Int} {ts : List Tm} (h : ∀ t ∈ ts, TmOk t) {p : Int} (hp : ∀ t ∈ ts, t.n ∣ p) : overM b ts p = uptoM b ts p := by
  have e := upto_over (b := b) h hp 0
  have z : uptoM b ts 0 = 0 := by unfold uptoM; rw [sumT_zero h]; omega
  rw [Int.zero_add, z] at e
  omega
theorem over_lo {ts : List Tm} (h : ∀ t ∈ ts, TmOk t) {p : Int} (p0 : 0 ≤ p) (hp : ∀ t ∈ ts, t.n ∣ p) : -(fallsT ts * p) ≤ (ts.map fun t => t.s * t.a * (p / t.n)).sum := by
  induction ts with
  | nil => simp [fallsT]
  | cons t r ih =>
    have ok := h t List.mem_cons_self
    have n1 := ok.n1
    have ih := ih (fun t h' => h t (List.mem_cons_of_mem _ h')) (fun t h' => hp t (List.mem_cons_of_mem _ h'))
    obtain ⟨c, hc⟩ := hp t List.mem_cons_self
    have e1 : p / t.n = c := by rw [hc]; exact Int.mul_ediv_cancel_left _ (by omega)
    have c0 : 0 ≤ c := by rw [← e1]; exact Int.ediv_nonneg p0 (by omega)
    have ac : t.a * c ≤ p := by rw [hc]; exact Int.mul_le_mul_of_nonneg_right ok.an c0
    have ac0 : 0 ≤ t.a * c := Int.mul_nonneg ok.a0 c0
    rw [List.map_cons, List.sum_cons, e1]
    rcases ok.s with hs | hs
    · have : fallsT (t :: r) = fallsT r := by unfold fallsT; rw [List.filter_cons, hs]; simp
      rw [this, hs, Int.one_mul]; omega
    · have : fallsT (t :: r) = fallsT r + 1 := by unfold fallsT; rw [List.filter_cons, hs]; simp
      have e3 : t.s * t.a * c = -(t.a * c) := by rw [hs, Int.mul_assoc, Int.neg_one_mul]
      rw [this, e3, Int.add_mul, Int.one_mul]; omega
theorem over_nn {b : Int} {ts : List Tm} (h : ∀ t ∈ ts, TmOk t) {p : Int} (p0 : 0 ≤ p) (hp : ∀ t ∈ ts, t.n ∣ p) (hf : fallsT ts ≤ b) : 0 ≤ overM b ts p := by
  have g := over_lo h p0 hp
  have := Int.mul_le_mul_of_nonneg_right hf p0
  unfold overM; omega
theorem falls_bd (ts : List Tm) : 0 ≤ fallsT ts ∧ fallsT ts ≤ ts.length := by
  unfold fallsT
  have := List.length_filter_le (fun t : Tm => decide (t.s = -1)) ts
  omega
theorem rise_lo {ts : List Tm} (h : ∀ t ∈ ts, TmOk t) (k : Int) : -(fallsT ts) ≤ riseT ts k ∧ riseT ts k ≤ ts.length := by
  induction ts with
  | nil => exact ⟨Int.le_refl 0, Int.le_refl 0⟩
  | cons t r ih =>
    have ok := h t List.mem_cons_self
    have ih := ih (fun t h' => h t (List.mem_cons_of_mem _ h'))
    have hb := riseM_bd ok k
    have e : riseT (t :: r) k = t.s * riseM t k + riseT r k := by unfold riseT; rw [List.map_cons, List.sum_cons]
    rw [e, List.length_cons]
    rcases ok.s with hs | hs
    · have : fallsT (t :: r) = fallsT r := by unfold fallsT; rw [List.filter_cons, hs]; simp
      rw [this, hs, Int.one_mul]; omega
    · have : fallsT (t :: r) = fallsT r + 1 := by unfold fallsT; rw [List.filter_cons, hs]; simp
      rw [this, hs, Int.neg_one_mul]; omega
theorem sm_divp4 {i j : Int} {n : Nat} (h : 0 < j) (hs : Sm n i) (hn : n ≤ 4000) : CDivP i j := divp_ok h (by
  have := PyProof.Rows.intBits_le hs.h
  omega)
theorem over_hi {ts : List Tm} (h : ∀ t ∈ ts, TmOk t) {p : Int} (p0 : 0 ≤ p) (hp : ∀ t ∈ ts, t.n ∣ p) : (ts.map fun t => t.s * t.a * (p / t.n)).sum ≤ (ts.length : Int) * p := by
  induction ts with
  | nil => simp
  | cons t r ih =>
    have ok := h t List.mem_cons_self
    have n1 := ok.n1
    have ih := ih (fun t h' => h t (List.mem_cons_of_mem _ h')) (fun t h' => hp t (List.mem_cons_of_mem _ h'))
    obtain ⟨c, hc⟩ := hp t List.mem_cons_self
    have e1 : p / t.n = c := by rw [hc]; exact Int.mul_ediv_cancel_left _ (by omega)
    have c0 : 0 ≤ c := by rw [← e1]; exact Int.ediv_nonneg p0 (by omega)
    have ac : t.a * c ≤ p := by rw [hc]; exact Int.mul_le_mul_of_nonneg_right ok.an c0
    have ac0 : 0 ≤ t.a * c := Int.mul_nonneg ok.a0 c0
    rw [List.map_cons, List.sum_cons, e1, List.length_cons, Int.natCast_add, Int.add_mul]
    rcases ok.s with hs | hs
    · rw [hs, Int.one_mul]; omega
    · have e3 : t.s * t.a * c = -(t.a * c) := by rw [hs, Int.mul_assoc, Int.neg_one_mul]
      rw [e3]; omega
theorem over_mul {b : Int} {ts : List Tm} (h : ∀ t ∈ ts, TmOk t) {p : Int} (hp : ∀ t ∈ ts, t.n ∣ p) (r : Int) : overM b ts (r * p) = r * overM b ts p := by
  have key : (ts.map fun t => t.s * t.a * (r * p / t.n)).sum = r * (ts.map fun t => t.s * t.a * (p / t.n)).sum := by
    induction ts with
    | nil => simp
    | cons t l ih =>
      have ok := h t List.mem_cons_self
      have n1 := ok.n1
      have ih := ih (fun t h' => h t (List.mem_cons_of_mem _ h')) (fun t h' => hp t (List.mem_cons_of_mem _ h'))
      obtain ⟨c, hc⟩ := hp t List.mem_cons_self
      have e1 : p / t.n = c := by rw [hc]; exact Int.mul_ediv_cancel_left _ (by omega)
      have e2 : r * p / t.n = r * c := by rw [hc, show r * (t.n * c) = t.n * (r * c) by rw [← Int.mul_assoc, Int.mul_comm r, Int.mul_assoc]]; exact Int.mul_ediv_cancel_left _ (by omega)
      rw [List.map_cons, List.sum_cons, List.map_cons, List.sum_cons, ih, e1, e2, Int.mul_add]
      congr 1
      rw [← Int.mul_assoc, ← Int.mul_assoc, Int.mul_comm (t.s * t.a) r]
  unfold overM
  rw [key, Int.mul_add]
  congr 1
  rw [← Int.mul_assoc, ← Int.mul_assoc, Int.mul_comm b r]
theorem upto_rounds {b : Int} {ts : List Tm} (h : ∀ t ∈ ts, TmOk t) {p : Int} (hp : ∀ t ∈ ts, t.n ∣ p) (r k : Int) : uptoM b ts (r * p + k) = r * uptoM b ts p + uptoM b ts k := by
  rw [Int.add_comm, upto_over h (fun t ht => Int.dvd_trans (hp t ht) (Int.dvd_mul_left r p)), over_mul h hp, over_upto h hp, Int.add_comm]
theorem upto_next (b : Int) (ts : List Tm) (k : Int) : uptoM b ts (k + 1) = uptoM b ts k + atM b ts k := by
  unfold uptoM atM; rw [sumT_next, Int.mul_add]; omega
theorem at_nn {b : Int} {ts : List Tm} (h : ∀ t ∈ ts, TmOk t) (hf : fallsT ts ≤ b) (k : Int) : 0 ≤ atM b ts k := by
  have := rise_lo h k
  unfold atM; omega
theorem upto_add {b : Int} {ts : List Tm} (h : ∀ t ∈ ts, TmOk t) (hf : fallsT ts ≤ b) (k : Int) (n : Nat) : uptoM b ts k ≤ uptoM b ts (k + n) := by
  induction n with
  | zero => simp
  | succ n ih =>
    have e := upto_next b ts (k + n)
    have g := at_nn h hf (k + n)
    rw [show k + ((n + 1 : Nat) : Int) = k + n + 1 by omega]; omega
theorem upto_le {b : Int} {ts : List Tm} (h : ∀ t ∈ ts, TmOk t) (hf : fallsT ts ≤ b) {i j : Int} (hij : i ≤ j) : uptoM b ts i ≤ uptoM b ts j := by
  have := upto_add h hf i (j - i).toNat
  rw [show i + ((j - i).toNat : Int) = j by omega] at this
  exact this
theorem upto_zero {b : Int} {ts : List Tm} (h : ∀ t ∈ ts, TmOk t) : uptoM b ts 0 = 0 := by unfold uptoM; rw [sumT_zero h]; omega
/-- there is but one number in whose length a total lies -/
theorem seek_uniq {b : Int} {ts : List Tm} (h : ∀ t ∈ ts, TmOk t) (hf : fallsT ts ≤ b) {x z z' : Int} (h1 : uptoM b ts z ≤ x) (h2 : x < uptoM b ts (z + 1)) (h3 : uptoM b ts z' ≤ x) (h4 : x < uptoM b ts (z' + 1)) : z = z' := by
  by_cases c : z < z'
  · have := upto_le h hf (show z + 1 ≤ z' by omega); omega
  by_cases c' : z' < z
  · have := upto_le h hf (show z' + 1 ≤ z by omega); omega
  omega
theorem per_dvd {b : Int} {ts : List Tm} (ok : MeasOk b ts) : ∀ t ∈ ts, t.n ∣ perT ts := fun t ht => dvd_per ok.ok ht
theorem per_bd {b : Int} {ts : List Tm} (ok : MeasOk b ts) : 1 ≤ perT ts ∧ perT ts ≤ 1000000000000000000 := by
  have := perT_bd ok.ok ok.len ts.length
  rw [List.take_of_length_le (Nat.le_refl _)] at this
  exact this
theorem per_upto {b : Int} {ts : List Tm} (ok : MeasOk b ts) : 1 ≤ uptoM b ts (perT ts) ∧ uptoM b ts (perT ts) ≤ 100000000000000000000000 := by
  refine ⟨ok.pos, ?_⟩
  obtain ⟨p1, p2⟩ := per_bd ok
  rw [← over_upto ok.ok (per_dvd ok)]
  have hi := over_hi ok.ok (show 0 ≤ perT ts by omega) (per_dvd ok)
  have hl := ok.len
  have b0 := ok.b0
  have b1 := ok.b1
  unfold overM
  have m1 : b * perT ts ≤ 20000 * 1000000000000000000 := Int.le_trans (Int.mul_le_mul_of_nonneg_right b1 (by omega)) (by omega)
  have m2 : (ts.length : Int) * perT ts ≤ 6 * 1000000000000000000 := Int.le_trans (Int.mul_le_mul_of_nonneg_right (show (ts.length : Int) ≤ 6 by omega) (by omega)) (by omega)
  omega
theorem filt_range (p : Tm → Bool) (ts : List Tm) : ((List.range ts.length).filter fun i => (ts[i]?.map p).getD false).length = (ts.filter p).length := by
  have key : ∀ n, n ≤ ts.length → ((List.range n).filter fun i => (ts[i]?.map p).getD false).length = ((ts.take n).filter p).length := by
    intro n
    induction n with
    | zero => intro _; rfl
    | succ n ih =>
      intro hn
      have ht := List.getElem?_eq_getElem (show n < ts.length by omega)
      rw [List.range_succ, List.filter_append, List.length_append, ih (by omega), List.take_succ, ht, List.filter_append, List.length_append]
      congr 1
      by_cases h : p (ts[n]'(by omega)) = true
      · simp [ht, h]
      · simp [ht, h]
  rw [key _ (Nat.le_refl _), List.take_of_length_le (Nat.le_refl _)]
def isRise (t : Tm) : Bool := decide (t.s = 1) && decide (0 < t.a)
def risesT (ts : List Tm) : Int := ((ts.filter isRise).length : Nat)
theorem over_lo1 {ts : List Tm} (h : ∀ t ∈ ts, TmOk t) {p : Int} (p0 : 1 ≤ p) (hp : ∀ t ∈ ts, t.n ∣ p) : -(fallsT ts * p) + risesT ts ≤ (ts.map fun t => t.s * t.a * (p / t.n)).sum := by
  induction ts with
  | nil => simp [fallsT, risesT]
  | cons t r ih =>
    have ok := h t List.mem_cons_self
    have n1 := ok.n1
    have ih := ih (fun t h' => h t (List.mem_cons_of_mem _ h')) (fun t h' => hp t (List.mem_cons_of_mem _ h'))
    obtain ⟨c, hc⟩ := hp t List.mem_cons_self
    have e1 : p / t.n = c := by rw [hc]; exact Int.mul_ediv_cancel_left _ (by omega)
    have c0 : 0 ≤ c := by rw [← e1]; exact Int.ediv_nonneg (by omega) (by omega)
    have c1 : 1 ≤ c := by
      by_cases z : c = 0
      · rw [z, Int.mul_zero] at hc; omega
      · omega
    have ac : t.a * c ≤ p := by rw [hc]; exact Int.mul_le_mul_of_nonneg_right ok.an c0
    have ac0 : 0 ≤ t.a * c := Int.mul_nonneg ok.a0 c0
    have ac1 : 0 < t.a → 1 ≤ t.a * c := fun h => by have := Int.mul_le_mul (show 1 ≤ t.a by omega) c1 (by omega) (by omega); omega
    rw [List.map_cons, List.sum_cons, e1]
    rcases ok.s with hs | hs
    · have : fallsT (t :: r) = fallsT r := by unfold fallsT; rw [List.filter_cons, hs]; simp
      have e2 : risesT (t :: r) = risesT r + if 0 < t.a then 1 else 0 := by
        unfold risesT isRise; rw [List.filter_cons, hs]
        by_cases ha : 0 < t.a
        · simp [ha]
        · simp [ha]
      rw [this, hs, Int.one_mul, e2]
      split
      · rename_i ha; have := ac1 ha; omega
      · omega
    · have : fallsT (t :: r) = fallsT r + 1 := by unfold fallsT; rw [List.filter_cons, hs]; simp
      have e2 : risesT (t :: r) = risesT r := by unfold risesT isRise; rw [List.filter_cons, hs]; simp
      have e3 : t.s * t.a * c = -(t.a * c) := by rw [hs, Int.mul_assoc, Int.neg_one_mul]
      rw [this, e3, e2, Int.add_mul, Int.one_mul]; omega
/-- the base is more than as many as fall, or something rises -/
theorem measOk_of {b : Int} {ts : List Tm} (h : ∀ t ∈ ts, TmOk t) (hl : ts.length ≤ 6) (b1 : b ≤ 20000) (hf : fallsT ts ≤ b) (hr : fallsT ts < b ∨ 1 ≤ risesT ts) : MeasOk b ts := by
  have f0 : 0 ≤ fallsT ts := by unfold fallsT; omega
  have r0 : 0 ≤ risesT ts := by unfold risesT; omega
  obtain ⟨p1, p2⟩ := perT_bd h hl ts.length
  rw [List.take_of_length_le (Nat.le_refl _)] at p1 p2
  have dv : ∀ t ∈ ts, t.n ∣ perT ts := fun t ht => dvd_per h ht
  refine ⟨by omega, b1, hl, h, hf, ?_⟩
  rw [← over_upto h dv]
  have lo := over_lo1 h p1 dv
  unfold overM
  rcases hr with hr | hr
  · have := Int.mul_le_mul_of_nonneg_right (show fallsT ts + 1 ≤ b by omega) (show 0 ≤ perT ts by omega)
    rw [Int.add_mul, Int.one_mul] at this; omega
  · have := Int.mul_le_mul_of_nonneg_right hf (show 0 ≤ perT ts by omega)
    omega
theorem sumT_abs {ts : List Tm} (h : ∀ t ∈ ts, TmOk t) (k : Int) : (sumT ts k).natAbs ≤ ts.length * k.natAbs := by
  induction ts with
  | nil => simp [sumT]
  | cons t r ih =>
    have ok := h t List.mem_cons_self
    have ih := ih (fun t h' => h t (List.mem_cons_of_mem _ h'))
    have n1 := ok.n1
    have b0 := ok.b0
    have bn := ok.bn
    have e : sumT (t :: r) k = t.s * ((t.a * k + t.b) / t.n) + sumT r k := by unfold sumT; rw [List.map_cons, List.sum_cons]
    have key : ((t.a * k + t.b) / t.n).natAbs ≤ k.natAbs := by
      by_cases hk : 0 ≤ k
      · have u := Int.mul_le_mul_of_nonneg_right ok.an hk
        have l := Int.mul_nonneg ok.a0 hk
        have g1 := Int.ediv_nonneg (show 0 ≤ t.a * k + t.b by omega) (show 0 ≤ t.n by omega)
        have g2 : (t.a * k + t.b) / t.n < k + 1 := Int.ediv_lt_of_lt_mul (by omega) (by rw [Int.add_mul, Int.one_mul, Int.mul_comm k]; omega)
        omega
      · have u := Int.mul_le_mul_of_nonneg_right ok.an (show 0 ≤ -k by omega)
        have l := Int.mul_nonneg ok.a0 (show 0 ≤ -k by omega)
        rw [Int.mul_neg, Int.mul_neg] at u
        rw [Int.mul_neg] at l
        have g1 : k ≤ (t.a * k + t.b) / t.n := Int.le_ediv_of_mul_le (by omega) (by rw [Int.mul_comm k]; omega)
        have g2 : (t.a * k + t.b) / t.n < 1 := Int.ediv_lt_of_lt_mul (by omega) (by omega)
        omega
    rw [e, List.length_cons, Nat.add_mul, Nat.one_mul]
    have a1 := Int.natAbs_add_le (t.s * ((t.a * k + t.b) / t.n)) (sumT r k)
    have a2 : (t.s * ((t.a * k + t.b) / t.n)).natAbs = ((t.a * k + t.b) / t.n).natAbs := by
      rw [Int.natAbs_mul]
      rcases ok.s with hs | hs
      · rw [hs]; simp
      · rw [hs]; simp
    omega
theorem upto_sm {b : Int} {ts : List Tm} (ok : MeasOk b ts) {n : Nat} {k : Int} (h : Sm n k) : Sm (n + 15) (uptoM b ts k) := by
  have a := sumT_abs ok.ok k
  have l := ok.len
  have b0 := ok.b0
  have b1 := ok.b1
  have m : ts.length * k.natAbs ≤ 6 * k.natAbs := Nat.mul_le_mul_right _ l
  have m2 : (b * k).natAbs ≤ 20000 * k.natAbs := by rw [Int.natAbs_mul]; exact Nat.mul_le_mul_right _ (by omega)
  have a1 := Int.natAbs_add_le (b * k) (sumT ts k)
  refine ⟨?_⟩
  have hk := h.h
  rw [Nat.pow_add]
  unfold uptoM
  have : (2 : Nat) ^ 15 = 32768 := by decide
  rw [this]
  omega
theorem rises_bd (ts : List Tm) : 0 ≤ risesT ts ∧ risesT ts ≤ ts.length := by
  unfold risesT
  have := List.length_filter_le isRise ts
  omega

end

section
open NdefX LamX
/-! ### rows of terms: cut, joined, made one by one; what makes a measure -/
theorem TmsAt.drop {K : PySem.W.Frag} {H : Hp} {qs : List Addr} {ts : List Tm} (h : TmsAt K H qs ts) (n : Nat) : TmsAt K H (qs.drop n) (ts.drop n) := by
  refine ⟨by rw [List.length_drop, List.length_drop, h.1], fun i q t a b => ?_⟩
  rw [List.getElem?_drop] at a b
  exact h.2 _ q t a b
theorem TmsAt.take {K : PySem.W.Frag} {H : Hp} {qs : List Addr} {ts : List Tm} (h : TmsAt K H qs ts) (n : Nat) : TmsAt K H (qs.take n) (ts.take n) := by
  refine ⟨by rw [List.length_take, List.length_take, h.1], fun i q t a b => ?_⟩
  rw [List.getElem?_take] at a b
  split at a
  · rename_i hi
    rw [if_pos hi] at b
    exact h.2 _ q t a b
  · cases a
theorem TmsAt.app {K : PySem.W.Frag} {H : Hp} {qs qs' : List Addr} {ts ts' : List Tm} (h : TmsAt K H qs ts) (h' : TmsAt K H qs' ts') : TmsAt K H (qs ++ qs') (ts ++ ts') := by
  refine ⟨by rw [List.length_append, List.length_append, h.1, h'.1], fun i q t a b => ?_⟩
  have hl := h.1
  by_cases hi : i < qs.length
  · rw [List.getElem?_append_left hi] at a
    rw [List.getElem?_append_left (by omega)] at b
    exact h.2 i q t a b
  · rw [List.getElem?_append_right (by omega)] at a
    rw [List.getElem?_append_right (by omega), ← hl] at b
    exact h'.2 _ q t a b
theorem cut_tms {K : PySem.W.Frag} {H : Hp} {qs : List Addr} {ts : List Tm} (h : TmsAt K H qs ts) (lo hi : Option Int) : ∃ (qs' : List Addr) (ts' : List Tm), cutV (qs.map V.ref) lo hi = qs'.map V.ref ∧ TmsAt K H qs' ts' ∧ ts'.length ≤ ts.length ∧ ∀ t ∈ ts', t ∈ ts := by
  refine ⟨(qs.drop (HT.sIx (qs.map V.ref).length 0 lo)).take (HT.sIx (qs.map V.ref).length (qs.map V.ref).length hi - HT.sIx (qs.map V.ref).length 0 lo), _, ?_, (h.drop _).take _, ?_, fun t ht => List.mem_of_mem_drop (List.mem_of_mem_take ht)⟩
  · unfold cutV; rw [List.map_take, List.map_drop]
  · rw [List.length_take, List.length_drop]; omega
theorem cut_to_len {K : PySem.W.Frag} {H : Hp} {qs : List Addr} {ts : List Tm} {qs' : List Addr} {ts' : List Tm} {k : Nat} (h' : TmsAt K H qs' ts') (e : cutV (qs.map V.ref) none (some (k : Int)) = qs'.map V.ref) : ts'.length ≤ k := by
  have := cutV_to (qs.map V.ref) k
  rw [e, List.length_map, h'.1] at this
  exact this
theorem cut_from_len {K : PySem.W.Frag} {H : Hp} {qs : List Addr} {qs' : List Addr} {ts' : List Tm} {lo : Option Int} {k : Nat} (h' : TmsAt K H qs' ts') (e : cutV (qs.map V.ref) lo (some (k : Int)) = qs'.map V.ref) : ts'.length ≤ k := by
  have e2 := congrArg List.length e
  unfold cutV at e2
  simp only [List.length_take, List.length_map, List.length_drop, HT.sIx_nat, h'.1] at e2
  omega
/-- [e for s, a, b, n in terms], e told by what holds of the values so far -/
theorem k_lclTP {K : PySem.W.Frag} {te : TE} {σ : L2.St} {H1 : Hp} {Q : VK} {a : Addr} {qs : List Addr} {ts : List Tm} {j1 j2 j3 j4 : Nat} (hx : SqL K H1 a (qs.map V.ref)) (hq : TmsAt K H1 qs ts) (P : Nat → List V → Hp → Prop) (hz : ts.length ≤ 1000000) (h0 : ∀ D, H1 D = none → P 0 [] (upd H1 D (.lst [])))
    (hw : ∀ w x y z : V, wipe (((((wipe σ [j1, j2, j3, j4]).set j1 (some w)).set j2 (some x)).set j3 (some y)).set j4 (some z)) [j1, j2, j3, j4] = wipe σ [j1, j2, j3, j4])
    (hs : ∀ (i : Nat) (t : Tm) (acc : List V) (D : Addr) (H2 : Hp) (R : VK), ts[i]? = some t → Same H1 H2 → H2 D = some (.lst acc) → P i acc H2 → (∀ y H3, Same H2 H3 → P (i + 1) (acc ++ [y]) (upd H3 D (.lst (acc ++ [y]))) → R y H3) → te (((((wipe σ [j1, j2, j3, j4]).set j1 (some (.int t.s))).set j2 (some (.int t.a))).set j3 (some (.int t.b))).set j4 (some (.int t.n))) H2 R)
    (q : ∀ D H2 acc, H1 D = none → Same H1 H2 → H2 D = some (.lst acc) → acc.length = ts.length → P ts.length acc H2 → Q (.ref D) H2) : LcG (Itl K a) H1 (gTup K 4 (gCons (gName j1) (gCons (gName j2) (gCons (gName j3) (gCons (gName j4) gNil))))) tYes te [j1, j2, j3, j4] σ Q := by
  have hlq := hq.1
  intro D hD
  refine lc_list (xs := qs.map V.ref) (fun i H' => ∃ acc, Same H1 H' ∧ H' D = some (.lst acc) ∧ acc.length = i ∧ P i acc H') ⟨[], same_new hD, upd_same, rfl, h0 D hD⟩ (fun i H' _ ⟨acc, sm, _⟩ => same_l sm hx) (fun i x H' hi ⟨acc, sm, hd, hl, hp0⟩ => ?_) (fun H' ⟨acc, sm, hd, hl, hp0⟩ => q D H' acc hD sm hd (by rw [hl, List.length_map, hlq]) (by rw [List.length_map, hlq] at hp0; exact hp0))
  rw [List.getElem?_map] at hi
  obtain ⟨p, hp, rfl⟩ := Option.map_eq_some_iff.mp hi
  have hil : i < ts.length := by
    have := (List.getElem?_eq_some_iff.mp hp).1
    omega
  have ht := List.getElem?_eq_getElem hil
  have htq : SqT K H' p [.int (ts[i]'hil).s, .int (ts[i]'hil).a, .int (ts[i]'hil).b, .int (ts[i]'hil).n] := same_t sm (hq.2 i p _ hp ht)
  refine k_gtup htq rfl ?_
  refine k_gcons (k_gcons (k_gcons (k_gcons ?_)))
  show ([] : List V) = [] ∧ _
  refine ⟨rfl, ?_⟩
  refine ⟨hw _ _ _ _, ?_⟩
  refine hs i _ acc D H' _ ht sm hd hp0 fun y H3 s3 hp3 => ?_
  exact ⟨acc, s3 _ _ hd, Nat.lt_of_le_of_lt (show acc.length ≤ 1000000 by omega) (by rw [sizeLine_eq]; decide), _, same_mut (sm.trans s3) hD, upd_same, by rw [List.length_append, hl]; rfl, hp3⟩
def IsMeas (b : Int) (ts : List Tm) : Prop := 0 ≤ b ∧ b ≤ 20000 ∧ ts.length ≤ 6 ∧ (∀ t ∈ ts, TmOk t) ∧ fallsT ts ≤ b
def Mov (t : Tm) : Prop := (t.s = 1 ∧ 0 < t.a) ∨ (t.s = -1 ∧ t.a < t.n)
theorem over_mov {ts : List Tm} (h : ∀ t ∈ ts, TmOk t) {p : Int} (p0 : 1 ≤ p) (hp : ∀ t ∈ ts, t.n ∣ p) : -(fallsT ts * p) ≤ (ts.map fun t => t.s * t.a * (p / t.n)).sum ∧ ((∃ t ∈ ts, Mov t) → -(fallsT ts * p) + 1 ≤ (ts.map fun t => t.s * t.a * (p / t.n)).sum) ∧ ((¬ ∃ t ∈ ts, Mov t) → -(fallsT ts * p) = (ts.map fun t => t.s * t.a * (p / t.n)).sum) := by
  induction ts with
  | nil => simp [fallsT]
  | cons t r ih =>
    have ok := h t List.mem_cons_self
    have n1 := ok.n1
    obtain ⟨i1, i2, i3⟩ := ih (fun t h' => h t (List.mem_cons_of_mem _ h')) (fun t h' => hp t (List.mem_cons_of_mem _ h'))
    obtain ⟨c, hc⟩ := hp t List.mem_cons_self
    have e1 : p / t.n = c := by rw [hc]; exact Int.mul_ediv_cancel_left _ (by omega)
    have c0 : 0 ≤ c := by rw [← e1]; exact Int.ediv_nonneg (by omega) (by omega)
    have c1 : 1 ≤ c := by
      by_cases z : c = 0
      · rw [z, Int.mul_zero] at hc; omega
      · omega
    have ac : t.a * c ≤ p := by rw [hc]; exact Int.mul_le_mul_of_nonneg_right ok.an c0
    have ac0 : 0 ≤ t.a * c := Int.mul_nonneg ok.a0 c0
    have ac1 : 0 < t.a → 1 ≤ t.a * c := fun h => by have := Int.mul_le_mul (show 1 ≤ t.a by omega) c1 (by omega) (by omega); omega
    have ac2 : t.a < t.n → t.a * c + 1 ≤ p := fun h => by
      have := Int.mul_le_mul_of_nonneg_right (show t.a + 1 ≤ t.n by omega) c0
      rw [Int.add_mul, Int.one_mul, ← hc] at this; omega
    rw [List.map_cons, List.sum_cons, e1]
    generalize (r.map fun t => t.s * t.a * (p / t.n)).sum = S at *
    have ex : (∃ t' ∈ t :: r, Mov t') ↔ (Mov t ∨ ∃ t' ∈ r, Mov t') := by simp
    rw [ex]
    rcases ok.s with hs | hs
    · have : fallsT (t :: r) = fallsT r := by unfold fallsT; rw [List.filter_cons, hs]; simp
      rw [this, hs, Int.one_mul]
      have em : Mov t ↔ 0 < t.a := by unfold Mov; omega
      refine ⟨by omega, fun hm => ?_, fun hm => ?_⟩
      · rcases hm with hm | hm
        · have := ac1 (em.mp hm); omega
        · have := i2 hm; omega
      · have h1 : ¬ 0 < t.a := fun z => hm (.inl (em.mpr z))
        have h2 := i3 (fun z => hm (.inr z))
        have h3 := ok.a0
        have : t.a = 0 := by omega
        rw [this]; omega
    · have : fallsT (t :: r) = fallsT r + 1 := by unfold fallsT; rw [List.filter_cons, hs]; simp
      have e3 : t.s * t.a * c = -(t.a * c) := by rw [hs, Int.mul_assoc, Int.neg_one_mul]
      rw [this, e3, Int.add_mul, Int.one_mul]
      have em : Mov t ↔ t.a < t.n := by unfold Mov; omega
      refine ⟨by omega, fun hm => ?_, fun hm => ?_⟩
      · rcases hm with hm | hm
        · have := ac2 (em.mp hm); omega
        · have := i2 hm; omega
      · have h1 : ¬ t.a < t.n := fun z => hm (.inl (em.mpr z))
        have h2 := i3 (fun z => hm (.inr z))
        have h3 := ok.an
        have : t.a = t.n := by omega
        rw [this, ← hc]; omega
theorem isMeas_iff {b : Int} {ts : List Tm} (h : IsMeas b ts) : 1 ≤ uptoM b ts (perT ts) ↔ (fallsT ts < b ∨ ∃ t ∈ ts, Mov t) := by
  obtain ⟨b0, b1, hl, ok, hf⟩ := h
  obtain ⟨p1, p2⟩ := perT_bd ok hl ts.length
  rw [List.take_of_length_le (Nat.le_refl _)] at p1 p2
  have dv : ∀ t ∈ ts, t.n ∣ perT ts := fun t ht => dvd_per ok ht
  rw [← over_upto ok dv]
  obtain ⟨i1, i2, i3⟩ := over_mov ok p1 dv
  unfold overM
  have m1 := Int.mul_le_mul_of_nonneg_right hf (show 0 ≤ perT ts by omega)
  constructor
  · intro h
    by_cases z : ∃ t ∈ ts, Mov t
    · exact .inr z
    · have := i3 z
      by_cases y : fallsT ts < b
      · exact .inl y
      · have : b = fallsT ts := by omega
        rw [this] at h; omega
  · rintro (h | h)
    · have := Int.mul_le_mul_of_nonneg_right (show fallsT ts + 1 ≤ b by omega) (show 0 ≤ perT ts by omega)
      rw [Int.add_mul, Int.one_mul] at this; omega
    · have := i2 h; omega
theorem measOk_iff {b : Int} {ts : List Tm} : MeasOk b ts ↔ IsMeas b ts ∧ 1 ≤ uptoM b ts (perT ts) :=
  ⟨fun h => ⟨⟨h.b0, h.b1, h.len, h.ok, h.falls⟩, h.pos⟩, fun ⟨⟨a, b, c, d, e⟩, f⟩ => ⟨a, b, c, d, e, f⟩⟩
/-! rows picked by a test -/
theorem filtR_rows {α : Type} (ts : List α) (P : α → Bool) (d : α) : ((List.range ts.length).filter fun i => (ts[i]?.map P).getD false).map (fun i => ts.getD i d) = ts.filter P := by
  have key : ∀ n, n ≤ ts.length → ((List.range n).filter fun i => (ts[i]?.map P).getD false).map (fun i => ts.getD i d) = (ts.take n).filter P := by
    intro n
    induction n with
    | zero => intro _; rfl
    | succ n ih =>
      intro hn
      have ht := List.getElem?_eq_getElem (show n < ts.length by omega)
      rw [List.range_succ, List.filter_append, List.map_append, ih (by omega), List.take_succ, ht, List.filter_append]
      congr 1
      by_cases h : P (ts[n]'(by omega)) = true
      · simp [ht, h, List.getD_eq_getElem?_getD]
      · simp [ht, h]
  rw [key _ (Nat.le_refl _), List.take_of_length_le (Nat.le_refl _)]
/-- [t for t in terms if ..] -/
theorem k_lfilt {K : PySem.W.Frag} {σ : L2.St} {H1 : Hp} {Q : VK} {a : Addr} {qs : List Addr} {ts : List Tm} {j : Nat} {tt : TT} (hS : SqL K H1 a (qs.map V.ref)) (hq : TmsAt K H1 qs ts) (P : Tm → Bool) (hz : ts.length ≤ 1000) (hj : j < σ.length)
    (ht : ∀ (p : Addr) (t : Tm) (H2 : Hp) (R : Bool → Hp → Prop), SqT K H2 p [.int t.s, .int t.a, .int t.b, .int t.n] → R (P t) H2 → tt (σ.set j (some (.ref p))) H2 R)
    (q : ∀ (D : Addr) (H2 : Hp) (qs' : List Addr) (ts' : List Tm), H1 D = none → Same H1 H2 → H2 D = some (.lst (qs'.map V.ref)) → TmsAt K H2 qs' ts' → ts' = ts.filter P → Q (.ref D) H2) : LcG (Itl K a) H1 (gName j) tt (tVar j) [j] σ Q := by
  have hlq := hq.1
  have hget : ∀ i, i < (qs.map V.ref).length → ∃ (p : Addr) (t : Tm), (qs.map V.ref).getD i .non = .ref p ∧ qs[i]? = some p ∧ ts[i]? = some t ∧ SqT K H1 p (tmV t) := fun i hi => by
    rw [List.length_map] at hi
    refine ⟨qs[i], ts[i]'(by omega), ?_, List.getElem?_eq_getElem hi, List.getElem?_eq_getElem (by omega), hq.2 i _ _ (List.getElem?_eq_getElem hi) (List.getElem?_eq_getElem (by omega))⟩
    rw [List.getD_eq_getElem?_getD, List.getElem?_map, List.getElem?_eq_getElem hi]; rfl
  refine k_lclf hS (fun i => (ts[i]?.map P).getD false) (fun i => (qs.map V.ref).getD i .non) (by rw [List.length_map]; omega) (fun i H2 R hi s2 hR => ?_) (fun i H2 R hi _ s2 hR => ?_) (fun D H2 hD s2 hd => ?_)
  · obtain ⟨p, t, e1, _, e2, hp⟩ := hget i hi
    rw [e1]
    refine ht p t H2 R (same_t s2 hp) ?_
    have := hR H2 (Same.refl _)
    rw [e2] at this
    exact this
  · exact k_var (by rw [List.getElem?_set_self hj]) (hR _ (Same.refl _))
  · have hlen : (qs.map V.ref).length = ts.length := by rw [List.length_map, hlq]
    rw [hlen] at hd
    refine q D H2 (((List.range ts.length).filter fun i => (ts[i]?.map P).getD false).map fun i => qs.getD i 0) _ hD s2 ?_ ⟨?_, ?_⟩ (filtR_rows ts P ⟨0, 0, 0, 0⟩)
    · rw [hd, List.map_map]
      congr 2
      refine List.map_congr_left fun i hi => ?_
      have hi2 : i < qs.length := by
        have := (List.mem_filter.mp hi).1
        rw [List.mem_range] at this; omega
      show (qs.map V.ref).getD i .non = V.ref (qs.getD i 0)
      rw [List.getD_eq_getElem?_getD, List.getD_eq_getElem?_getD, List.getElem?_map, List.getElem?_eq_getElem hi2]; rfl
    · rw [List.length_map, List.length_map]
    · intro k p t h1 h2
      rw [List.getElem?_map] at h1 h2
      obtain ⟨i, hi, rfl⟩ := Option.map_eq_some_iff.mp h1
      rw [hi] at h2
      cases h2
      have hi2 : i < ts.length := by
        have := (List.mem_filter.mp (List.mem_of_getElem? hi)).1
        rwa [List.mem_range] at this
      refine same_t s2 (hq.2 i _ _ ?_ ?_)
      · show qs[i]? = some (qs.getD i 0)
        rw [List.getD_eq_getElem?_getD, List.getElem?_eq_getElem (show i < qs.length by omega)]; rfl
      · show ts[i]? = some (ts.getD i ⟨0, 0, 0, 0⟩)
        rw [List.getD_eq_getElem?_getD, List.getElem?_eq_getElem hi2]; rfl
theorem atI_allW {P : V → Prop} {l : List V} {i : Int} (h0 : 0 ≤ i) (h1 : i < l.length) (hP : ∀ z ∈ l, P z) : ∃ z, P z ∧ atI l i = some z := by
  obtain ⟨k, rfl⟩ := Int.eq_ofNat_of_zero_le h0
  have hk : k < l.length := by omega
  exact ⟨l[k], hP _ (List.getElem_mem hk), at_of rfl (List.getElem?_eq_getElem hk)⟩
theorem k_in2T {K : PySem.W.Frag} {H : Hp} {Q : VK} {a : Int} {p : Addr} {x y : Int} (h : SqT K H p [.int x, .int y]) (q : Q (.bl (decide (a = x ∨ a = y))) H) : rIn K false (.int a) (.ref p) H Q :=
  ⟨p, _, rfl, .inr h, rfl, rfl, by rw [inV2]; exact q⟩

end

section
open NdefX LamX
/-! ### what does not rest on lists that were there ahead -/
def own (H0 H : Hp) : Hp := fun a => match H a with
  | some (.lst xs) => if (H0 a).isNone = true then some (.lst xs) else none
  | r => r
theorem own_lst {H0 H : Hp} {a : Addr} {xs : List V} (h : H a = some (.lst xs)) (n : H0 a = none) : own H0 H a = some (.lst xs) := by
  unfold own; rw [h, n]; rfl
theorem own_other {H0 H : Hp} {a : Addr} {o : HO} (h : H a = some o) (n : ∀ xs, o ≠ .lst xs) : own H0 H a = some o := by
  unfold own; rw [h]
  cases o <;> first | rfl | exact absurd rfl (n _)
theorem own_ins {H0 H : Hp} {a C dx : Addr} {fs : List (Str × V)} (h : H a = some (.ins C dx fs)) : own H0 H a = some (.ins C dx fs) := own_other h fun _ z => nomatch z
theorem own_cases {H0 H : Hp} {a : Addr} {o : HO} (h : own H0 H a = some o) : H a = some o ∧ ((∃ xs, o = .lst xs) → H0 a = none) := by
  unfold own at h
  split at h
  · rename_i xs e
    split at h
    · rename_i n
      exact ⟨by rw [e]; exact h, fun _ => by simpa using n⟩
    · cases h
  · rename_i hn
    refine ⟨h, fun ⟨xs, e⟩ => ?_⟩
    subst e
    exact absurd h (hn xs)
theorem own_sub {H0 H : Hp} : Same (own H0 H) H := fun a o h => (own_cases h).1
theorem own_put {H0 H : Hp} {a : Addr} {o : HO} (h : H a = some o) (n : (∃ xs, o = .lst xs) → H0 a = none) : own H0 H a = some o := by
  by_cases hl : ∃ xs, o = .lst xs
  · obtain ⟨xs, rfl⟩ := hl
    exact own_lst h (n ⟨xs, rfl⟩)
  · exact own_other h fun xs z => hl ⟨xs, z⟩
theorem own_mono {T : List NTab} {H0 H H' : Hp} (s : SameT T H H') : SameT [] (own H0 H) (own H0 H') := by
  refine ⟨fun a o h n => ?_, fun t q hq => by simp at hq⟩
  obtain ⟨h1, h2⟩ := own_cases h
  exact own_put (s.ext _ _ h1 n) h2
theorem own_back {H0 H1 H : Hp} (s : ∀ a, H1 a = none → H0 a = none) : SameT [] (own H1 H) (own H0 H) := by
  refine ⟨fun a o h n => ?_, fun t q hq => by simp at hq⟩
  obtain ⟨h1, h2⟩ := own_cases h
  exact own_put h1 fun z => s a (h2 z)
theorem own_mut {H0 H H' : Hp} {p : Addr} {o : HO} {xs : List V} (h0 : H0 p = some o) (h : H p = some (.lst xs)) (m : ∀ a o, a ≠ p → H a = some o → H' a = some o) : SameT [] (own H0 H) (own H0 H') := by
  refine ⟨fun a u hu n => ?_, fun t q hq => by simp at hq⟩
  obtain ⟨h1, h2⟩ := own_cases hu
  by_cases z : a = p
  · subst z
    rw [h] at h1
    cases h1
    rw [h0] at h2
    exact absurd (h2 ⟨_, rfl⟩) (by simp)
  · exact own_put (m _ _ z h1) h2
theorem own_updL {H0 H : Hp} {p : Addr} {o : HO} {xs ys : List V} (h0 : H0 p = some o) (h : H p = some (.lst xs)) : SameT [] (own H0 H) (own H0 (L2.upd H p (.lst ys))) := own_mut h0 h fun a o n e => by rw [upd_ne n]; exact e
theorem own_to {H0 H : Hp} : SameT [] (own H0 H) H := ⟨fun a o h _ => own_sub a o h, fun t q hq => by simp at hq⟩
theorem sql_own {K : PySem.W.Frag} {H0 H : Hp} {l : Addr} {xs : List V} (h : SqL K H l xs) (n : H0 l = none) : SqL K (own H0 H) l xs := by
  rcases h with (h | ⟨o, h⟩) | h
  · exact .inl (.inl (own_lst h n))
  · exact .inl (.inr ⟨o, own_other h fun _ z => nomatch z⟩)
  · exact .inr h
theorem sqt_own {K : PySem.W.Frag} {H0 H : Hp} {l : Addr} {xs : List V} (h : SqT K H l xs) : SqT K (own H0 H) l xs := by
  rcases h with (h | ⟨o, h⟩) | h
  · exact .inl (.inl (own_other h fun _ z => nomatch z))
  · exact .inl (.inr ⟨o, own_other h fun _ z => nomatch z⟩)
  · exact .inr h
theorem TmsL.own {K : PySem.W.Frag} {H0 H : Hp} {l : Addr} {ts : List Tm} (h : TmsL K H l ts) (n : H0 l = none) : TmsL K (FW.own H0 H) l ts := by
  obtain ⟨qs, h1, h2, h3⟩ := h
  exact ⟨qs, sql_own h1 n, h2, fun i q t a b => sqt_own (h3 i q t a b)⟩
theorem MeasN.own {K : PySem.W.Frag} {C : Addr} {H0 H : Hp} {m : Addr} {b : Int} {ts : List Tm} (h : MeasN K C H0 H m b ts) : MeasAt K C (FW.own H0 H) m b ts := by
  obtain ⟨dx, l, h1, h0, h2⟩ := h
  exact ⟨dx, l, own_ins h1, h2.own h0⟩
/-! ### calendars of the sun -/
def sfs (st : Int) (pm : Addr) (lp : Int) (py : Addr) : List (Str × V) := [("start", .int st), ("months", .ref pm), ("leap", .int lp), ("years", .ref py)]
theorem putF_ne {f g : Str} {v w : V} {r : List (Str × V)} (h : g ≠ f) : putF f v ((g, w) :: r) = (g, w) :: putF f v r := by
  show (if g = f then _ else _) = _
  rw [if_neg h]
def sfs1 (st : Int) : List (Str × V) := [("start", .int st)]
def sfs2 (st : Int) (pm : Addr) : List (Str × V) := [("start", .int st), ("months", .ref pm)]
def sfs3 (st : Int) (pm : Addr) (lp : Int) : List (Str × V) := [("start", .int st), ("months", .ref pm), ("leap", .int lp)]
theorem sfs_p1 (st : Int) : putF "start" (.int st) [] = sfs1 st := rfl
theorem sfs_p2 (st : Int) (pm : Addr) : putF "months" (.ref pm) (sfs1 st) = sfs2 st pm := by
  unfold sfs1 sfs2; rw [putF_ne (by decide +kernel)]; rfl
theorem sfs_p3 (st : Int) (pm : Addr) (lp : Int) : putF "leap" (.int lp) (sfs2 st pm) = sfs3 st pm lp := by
  unfold sfs2 sfs3; rw [putF_ne (by decide +kernel), putF_ne (by decide +kernel)]; rfl
theorem sfs_p4 (st : Int) (pm : Addr) (lp : Int) (py : Addr) : putF "years" (.ref py) (sfs3 st pm lp) = sfs st pm lp py := by
  unfold sfs3 sfs; rw [putF_ne (by decide +kernel), putF_ne (by decide +kernel), putF_ne (by decide +kernel)]; rfl
theorem sfs_start (st : Int) (pm : Addr) (lp : Int) (py : Addr) : (sfs st pm lp py).lookup ("start" : Str) = some (.int st) := by simp [sfs, List.lookup]
theorem sfs_months (st : Int) (pm : Addr) (lp : Int) (py : Addr) : (sfs st pm lp py).lookup ("months" : Str) = some (.ref pm) := by
  have e : (("months" : Str) == "start") = false := by decide +kernel
  simp [sfs, List.lookup, e]
theorem sfs_leap (st : Int) (pm : Addr) (lp : Int) (py : Addr) : (sfs st pm lp py).lookup ("leap" : Str) = some (.int lp) := by
  have e : (("leap" : Str) == "start") = false := by decide +kernel
  have e2 : (("leap" : Str) == "months") = false := by decide +kernel
  simp [sfs, List.lookup, e, e2]
theorem sfs_years (st : Int) (pm : Addr) (lp : Int) (py : Addr) : (sfs st pm lp py).lookup ("years" : Str) = some (.ref py) := by
  have e : (("years" : Str) == "start") = false := by decide +kernel
  have e2 : (("years" : Str) == "months") = false := by decide +kernel
  have e3 : (("years" : Str) == "leap") = false := by decide +kernel
  simp [sfs, List.lookup, e, e2, e3]
theorem sfs_no (st : Int) (pm : Addr) (lp : Int) (py : Addr) {m : Str} (h1 : (m == ("start" : Str)) = false) (h2 : (m == ("months" : Str)) = false) (h3 : (m == ("leap" : Str)) = false) (h4 : (m == ("years" : Str)) = false) : (sfs st pm lp py).lookup m = none := by
  simp [sfs, List.lookup, h1, h2, h3, h4]
def SunAt (K : PySem.W.Frag) (CS CM : Addr) (H : Hp) (c : Addr) (st : Int) (ls : List Int) (lp : Int) (ts : List Tm) : Prop := ∃ dx pm py, H c = some (.ins CS dx (sfs st pm lp py)) ∧ SqL K H pm (ls.map V.int) ∧ MeasAt K CM H py ls.sum ts
theorem SunAt.mono {T : List NTab} {K : PySem.W.Frag} {CS CM : Addr} {H H' : Hp} {c : Addr} {st : Int} {ls : List Int} {lp : Int} {ts : List Tm} (s : SameT T H H') (h : SunAt K CS CM H c st ls lp ts) : SunAt K CS CM H' c st ls lp ts := by
  obtain ⟨dx, pm, py, h1, h2, h3⟩ := h
  exact ⟨dx, pm, py, s.ins h1, s.sql h2, h3.mono s⟩
structure SunOk (ls : List Int) (lp : Int) (ts : List Tm) : Prop where
  len1 : 1 ≤ ls.length
  len20 : ls.length ≤ 20
  rng : ∀ x ∈ ls, 0 ≤ x ∧ x ≤ 1000
  lp1 : 1 ≤ lp
  lp2 : lp ≤ ls.length
  fl : fallsT ts ≤ ls.getD (lp - 1).toNat 0
  fs : fallsT ts < ls.sum
  len : ts.length ≤ 6
  ok : ∀ t ∈ ts, TmOk t
theorem sum_bd {ls : List Int} {B : Int} (h : ∀ x ∈ ls, 0 ≤ x ∧ x ≤ B) : 0 ≤ ls.sum ∧ ls.sum ≤ ls.length * B := by
  induction ls with
  | nil => simp
  | cons x r ih =>
    have := h x List.mem_cons_self
    have := ih fun y hy => h y (List.mem_cons_of_mem _ hy)
    rw [List.sum_cons, List.length_cons, Int.natCast_add, Int.add_mul]
    omega
theorem SunOk.meas {ls : List Int} {lp : Int} {ts : List Tm} (h : SunOk ls lp ts) : MeasOk ls.sum ts := by
  have s := sum_bd h.rng
  have l := h.len20
  exact measOk_of h.ok h.len (by omega) (by have := h.fs; omega) (.inl h.fs)
/-- the lengths of a year's months -/
def lensS (ls : List Int) (lp : Int) (ts : List Tm) (y : Int) : List Int := ls.set (lp - 1).toNat (ls.getD (lp - 1).toNat 0 + riseT ts y)
theorem sum_set {ls : List Int} {i : Nat} (hi : i < ls.length) (d : Int) : (ls.set i (ls.getD i 0 + d)).sum = ls.sum + d := by
  induction ls generalizing i with
  | nil => simp at hi
  | cons x r ih =>
    cases i with
    | zero => simp; omega
    | succ i =>
      have := ih (i := i) (by simpa using hi)
      rw [List.set_cons_succ, List.sum_cons, List.sum_cons, List.getD_cons_succ, this]; omega
theorem lensS_sum {ls : List Int} {lp : Int} {ts : List Tm} (h : SunOk ls lp ts) (y : Int) : (lensS ls lp ts y).sum = atM ls.sum ts y := by
  have h1 := h.lp1
  have h2 := h.lp2
  unfold lensS atM
  rw [sum_set (by omega)]
theorem lensS_len (ls : List Int) (lp : Int) (ts : List Tm) (y : Int) : (lensS ls lp ts y).length = ls.length := List.length_set
theorem lensS_bd {ls : List Int} {lp : Int} {ts : List Tm} (h : SunOk ls lp ts) (y : Int) : ∀ x ∈ lensS ls lp ts y, 0 ≤ x ∧ x ≤ 1006 := by
  intro x hx
  have r := rise_lo h.ok y
  have l := h.len
  rcases List.mem_or_eq_of_mem_set hx with g | g
  · have := h.rng x g; omega
  · have h1 := h.lp1
    have h2 := h.lp2
    have hm : ls.getD (lp - 1).toNat 0 ∈ ls := by
      rw [List.getD_eq_getElem?_getD, List.getElem?_eq_getElem (by omega)]
      exact List.getElem_mem _
    have := h.rng _ hm
    have := h.fl
    omega
theorem at_one {b : Int} {ts : List Tm} (h : ∀ t ∈ ts, TmOk t) (hf : fallsT ts < b) (k : Int) : 1 ≤ atM b ts k := by
  have := rise_lo h k
  unfold atM; omega
theorem upto_lt {b : Int} {ts : List Tm} (h : ∀ t ∈ ts, TmOk t) (hf : fallsT ts < b) {i j : Int} (hij : i < j) : uptoM b ts i < uptoM b ts j := by
  have a := upto_le h (show fallsT ts ≤ b by omega) (show i + 1 ≤ j by omega)
  have e := upto_next b ts i
  have o := at_one h hf i
  omega
theorem atI_getD {ls : List Int} {i : Int} (h0 : 0 ≤ i) (h1 : i < ls.length) : atI (ls.map V.int) i = some (.int (ls.getD i.toNat 0)) := by
  obtain ⟨k, rfl⟩ := Int.eq_ofNat_of_zero_le h0
  have hk : k < ls.length := by omega
  refine at_of rfl ?_
  rw [List.getElem?_map, Int.toNat_natCast, List.getD_eq_getElem?_getD, List.getElem?_eq_getElem hk]
  rfl
theorem k_wholes {K : PySem.W.Frag} {sp : Sp} {H1 : Hp} {p : Addr} {l : List Int} {j : Nat} {σ : L2.St} {Q : VK} (hsp : ∀ {i : Int} {H : Hp} {Q : VK}, Q (.bl true) H → sp [.int i] H Q E0) (h : SqL K H1 p (l.map V.int)) (hj : j < σ.length) (hz : l.length ≤ 1000000)
    (q : ∀ D H2, H1 D = none → Same H1 H2 → H2 D = some (.lst ((l.map fun _ => true).map V.bl)) → Q (.ref D) H2) : LcG (Itl K p) H1 (gName j) tYes (tCall sp [] E0 (tCons (tVar j) tNil)) [j] σ Q := by
  refine k_lcl h ((l.map fun _ => true).map V.bl) (by simp) (by rw [List.length_map]; exact hz) (fun i y v H2 R hx hv s2 hR => ?_) q
  rw [List.getElem?_map] at hx
  obtain ⟨x, hx2, rfl⟩ := Option.map_eq_some_iff.mp hx
  rw [List.getElem?_map, List.getElem?_map, hx2] at hv
  cases hv
  refine k_call (k_cons (k_var (v := .int x) (by rw [List.getElem?_set_self hj]) (k_nil ?_)))
  exact hsp (hR _ (Same.refl _))
theorem all_true {α : Type} (l : List α) : (l.map fun _ => true).all id = true := by simp
theorem k_isi_ll {K : PySem.W.Frag} {H : Hp} {Q : VK} {p : Addr} {xs : List V} (h : H p = some (.lst xs)) (q : Q (.bl true) H) : rIsi K [.ref p, .ty "list"] H Q := ⟨.ref p, .ty "list", .type "list", .type "list", true, rfl, .ty _, .base (.lst h), kit_ty (by decide +kernel), q⟩
/-- a new list is changed -/
theorem SameT.mut {T : List NTab} {H H1 H2 : Hp} {p : Addr} {xs : List V} (s : SameT T H H1) (hp : H p = none) (e : H1 p = some (.lst xs)) (m : ∀ a o, a ≠ p → H1 a = some o → H2 a = some o) : SameT T H H2 := by
  refine ⟨fun b o h n => m _ _ (ne_of_none h hp) (s.ext b o h n), fun t q hq => ?_⟩
  obtain ⟨ps0, h0, _⟩ := t q hq
  obtain ⟨ps, h1, h2, h3⟩ := s.tab t q hq
  refine ⟨ps, m _ _ (ne_of_none h0 hp) h1, h2, fun pos cv hc => ?_⟩
  obtain ⟨c, e1, e2⟩ := h3 pos cv hc
  exact ⟨c, e1, m _ _ (fun z => by rw [z, e] at e2; cases e2) e2⟩
/-! lists of numbers and terms, compared -/
theorem ints_depth (l : List Int) : PyData.depthAll (l.map PyData.int) = 0 := by
  induction l with
  | nil => rfl
  | cons x r ih => simp [PyData.depthAll, PyData.depth, ih]
theorem ints_lay (l : List Int) : PyData.canLayAll0 (l.map PyData.int) = true := by
  induction l with
  | nil => rfl
  | cons x r ih => simp [PyData.canLayAll0, PyData.canLay0, ih]
def monD (ls : List Int) (ts : List Tm) : PyData := .list [.list (ls.map PyData.int), tmsD ts]
theorem monD_lay (ls : List Int) (ts : List Tm) : (monD ls ts).canLay0 = true := by
  have h := tmsD_lay ts
  simp [monD, PyData.canLay0, PyData.canLayAll0, ints_lay, tmsD, h]
theorem monD_shaped (ls : List Int) (ts : List Tm) : SeqAt.shaped (monD ls ts) = true := by
  have h := tmsD_depth ts
  have e : (monD ls ts).depth ≤ 64 := by
    simp only [monD, PyData.depth, PyData.depthAll, tmsD, ints_depth]; omega
  unfold SeqAt.shaped
  rw [monD_lay, decide_eq_true e]; rfl
theorem monD_eq (ls : List Int) (ts : List Tm) : PyData.eqv (monD ls ts) (monD ls ts) = true := SeqAt.eqv_refl _ (monD_lay ls ts)
theorem dp_mon {K : PySem.W.Frag} {H : Hp} {a p q : Addr} {ls : List Int} {qs : List Addr} {ts : List Tm} (h : SqL K H a [.ref p, .ref q]) (hp : SqL K H p (ls.map V.int)) (hq : SqL K H q (qs.map V.ref)) (ht : TmsAt K H qs ts) : Dp K H (.ref a) (monD ls ts) :=
  .lst h (.cons (.lst hp (dp_ints ls)) (.cons (dp_tms hq ht) .nil))
theorem lensS_none {ls : List Int} {lp lp' : Int} {ts : List Tm} (h : SunOk ls lp ts) (h' : SunOk ls lp' ts) (e : lp' = lp ∨ ts = []) (y : Int) : lensS ls lp' ts y = lensS ls lp ts y := by
  rcases e with rfl | rfl
  · rfl
  · have key : ∀ {l : Int}, SunOk ls l [] → lensS ls l [] y = ls := fun {l} h => by
      have h1 := h.lp1
      have h2 := h.lp2
      unfold lensS riseT
      rw [List.map_nil, List.sum_nil, Int.add_zero, List.getD_eq_getElem?_getD, List.getElem?_eq_getElem (show (l - 1).toNat < ls.length by omega)]
      exact List.set_getElem_self (by omega)
    rw [key h, key h']
theorem SunOk.one {ls : List Int} {lp : Int} (h : SunOk ls lp []) : SunOk ls 1 [] := by
  have h1 := h.len1
  refine ⟨h1, h.len20, h.rng, by decide, by omega, ?_, h.fs, h.len, h.ok⟩
  have hm : ls.getD ((1 : Int) - 1).toNat 0 ∈ ls := by
    rw [List.getD_eq_getElem?_getD, List.getElem?_eq_getElem (by omega)]
    exact List.getElem_mem _
  have := h.rng _ hm
  show (0 : Int) ≤ _
  omega
theorem lensS_nil {ls : List Int} {lp : Int} (h1 : 1 ≤ lp) (h2 : lp ≤ ls.length) (y : Int) : lensS ls lp [] y = ls := by
  unfold lensS riseT
  rw [List.map_nil, List.sum_nil, Int.add_zero, List.getD_eq_getElem?_getD, List.getElem?_eq_getElem (show (lp - 1).toNat < ls.length by omega)]
  exact List.set_getElem_self (by omega)
theorem lensS_get {ls : List Int} {lp : Int} (h1 : 1 ≤ lp) (h2 : lp ≤ ls.length) (ts : List Tm) (y : Int) : (lensS ls lp ts y).getD (lp - 1).toNat 0 = ls.getD (lp - 1).toNat 0 + riseT ts y := by
  unfold lensS
  rw [List.getD_eq_getElem?_getD, List.getElem?_set_self (by omega)]; rfl
theorem lensS_snoc {ls : List Int} {lp : Int} {ts : List Tm} {i : Nat} {t : Tm} (h : ts[i]? = some t) (y : Int) : (lensS ls lp (ts.take i) y).set (lp - 1).toNat (ls.getD (lp - 1).toNat 0 + riseT (ts.take i) y + t.s * riseM t y) = lensS ls lp (ts.take (i + 1)) y := by
  unfold lensS
  rw [List.set_set, riseT_snoc h, Int.add_assoc]
/-- a.clear() -/
def ClrR (K : PySem.W.Frag) (x : V) (H1 : Hp) (Q : VK) : Prop := tyV K "list" x H1 ∧ rClear x [] H1 Q
theorem k_clr {K : PySem.W.Frag} {to : TE} {σ : L2.St} {H : Hp} {Q : VK} (h : to σ H fun x H1 => ClrR K x H1 Q) : tBM0 K "list" rClear to σ H Q := h
theorem k_clrX {K : PySem.W.Frag} {p : Addr} {xs : List V} {H : Hp} {Q : VK} (h : H p = some (.lst xs)) (q : Q .non (L2.upd H p (.lst []))) : ClrR K (.ref p) H Q := ⟨.inl ⟨rfl, _, SqL.of h⟩, p, _, rfl, rfl, h, q⟩
theorem map_set {ls : List Int} {i : Nat} {x : Int} : (ls.map V.int).set i (.int x) = (ls.set i x).map V.int := by rw [List.map_set]

end

section
open NdefX LamX
/-- a field, the written part by its own letter -/
theorem pe_fldK {X : Cx} (K : PySem.W.Frag) {e : Expr} {f : Str} {ta : TE} {pos : Pos} (he : PE X e ta) (hb : attributeBase e f X.env (eval e X.env) = eval e X.env) (hK : X.K = K := by rfl) : PE X (.Attribute e f pos) (tFld K ta f) := hK ▸ pe_fld he hb
/-! ### new places, but for tables -/
def New (H : Hp) (p : Addr) : Prop := ∀ o, H p = some o → ∃ ps, o = .tbl ps
theorem New.of {H : Hp} {p : Addr} (h : H p = none) : New H p := fun o e => by rw [h] at e; cases e
theorem New.back {T : List NTab} {H H' : Hp} {p : Addr} (s : SameT T H H') (h : New H' p) : New H p := fun o e => by
  cases o with
  | tbl ps => exact ⟨ps, rfl⟩
  | _ =>
    obtain ⟨ps, z⟩ := h _ (s.ext _ _ e fun _ z => nomatch z)
    cases z
theorem New.ne {H : Hp} {p a : Addr} {o : HO} (h : New H p) (e : H a = some o) (n : ∀ ps, o ≠ .tbl ps) : a ≠ p := fun z => by
  subst z
  obtain ⟨ps, z⟩ := h _ e
  exact n _ z
theorem SameT.mutN {T : List NTab} {H H1 H2 : Hp} {p : Addr} {xs : List V} (s : SameT T H H1) (hp : New H p) (e : H1 p = some (.lst xs)) (m : ∀ a o, a ≠ p → H1 a = some o → H2 a = some o) : SameT T H H2 := by
  refine ⟨fun b o h n => m _ _ (hp.ne h n) (s.ext b o h n), fun t q hq => ?_⟩
  obtain ⟨ps, h1, h2, h3⟩ := s.tab t q hq
  refine ⟨ps, m _ _ (fun z => by rw [z, e] at h1; cases h1) h1, h2, fun pos cv hc => ?_⟩
  obtain ⟨c, e1, e2⟩ := h3 pos cv hc
  exact ⟨c, e1, m _ _ (fun z => by rw [z, e] at e2; cases e2) e2⟩
/-! ### calendars of the moon -/
def mofs1 (st : Int) : List (Str × V) := [("start", .int st)]
def mofs2 (st : Int) (pd : Addr) : List (Str × V) := [("start", .int st), ("days", .ref pd)]
def mofs (st : Int) (pd pm : Addr) : List (Str × V) := [("start", .int st), ("days", .ref pd), ("many", .ref pm)]
theorem mofs_p1 (st : Int) : putF "start" (.int st) [] = mofs1 st := rfl
theorem mofs_p2 (st : Int) (pd : Addr) : putF "days" (.ref pd) (mofs1 st) = mofs2 st pd := by
  unfold mofs1 mofs2; rw [putF_ne (by decide +kernel)]; rfl
theorem mofs_p3 (st : Int) (pd pm : Addr) : putF "many" (.ref pm) (mofs2 st pd) = mofs st pd pm := by
  unfold mofs2 mofs; rw [putF_ne (by decide +kernel), putF_ne (by decide +kernel)]; rfl
theorem mofs_start (st : Int) (pd pm : Addr) : (mofs st pd pm).lookup ("start" : Str) = some (.int st) := by simp [mofs, List.lookup]
theorem mofs_days (st : Int) (pd pm : Addr) : (mofs st pd pm).lookup ("days" : Str) = some (.ref pd) := by
  have e : (("days" : Str) == "start") = false := by decide +kernel
  simp [mofs, List.lookup, e]
theorem mofs_many (st : Int) (pd pm : Addr) : (mofs st pd pm).lookup ("many" : Str) = some (.ref pm) := by
  have e : (("many" : Str) == "start") = false := by decide +kernel
  have e2 : (("many" : Str) == "days") = false := by decide +kernel
  simp [mofs, List.lookup, e, e2]
theorem mofs_no (st : Int) (pd pm : Addr) {m : Str} (h1 : (m == ("start" : Str)) = false) (h2 : (m == ("days" : Str)) = false) (h3 : (m == ("many" : Str)) = false) : (mofs st pd pm).lookup m = none := by
  simp [mofs, List.lookup, h1, h2, h3]
def MoonAt (K : PySem.W.Frag) (CO CM : Addr) (H : Hp) (c : Addr) (st b1 : Int) (t1 : List Tm) (b2 : Int) (t2 : List Tm) : Prop := ∃ dx pd pm, H c = some (.ins CO dx (mofs st pd pm)) ∧ MeasAt K CM H pd b1 t1 ∧ MeasAt K CM H pm b2 t2
theorem MoonAt.mono {T : List NTab} {K : PySem.W.Frag} {CO CM : Addr} {H H' : Hp} {c : Addr} {st b1 b2 : Int} {t1 t2 : List Tm} (s : SameT T H H') (h : MoonAt K CO CM H c st b1 t1 b2 t2) : MoonAt K CO CM H' c st b1 t1 b2 t2 := by
  obtain ⟨dx, pd, pm, h1, h2, h3⟩ := h
  exact ⟨dx, pd, pm, s.ins h1, h2.mono s, h3.mono s⟩
structure MoonOk (b1 : Int) (t1 : List Tm) (b2 : Int) (t2 : List Tm) : Prop where
  m1 : MeasOk b1 t1
  m2 : MeasOk b2 t2
  f1 : fallsT t1 < b1
  f2 : fallsT t2 < b2
  l1 : b1 ≤ 1000
  l2 : b2 ≤ 20
/-- the lengths of a year's months -/
def lensM (b1 : Int) (t1 : List Tm) (b2 : Int) (t2 : List Tm) (y : Int) : List Int := (List.range (atM b2 t2 y).toNat).map fun (k : Nat) => atM b1 t1 (uptoM b2 t2 y + (k : Int))
theorem at_hi {b : Int} {ts : List Tm} (ok : MeasOk b ts) (k : Int) : atM b ts k ≤ b + 6 := by
  have := rise_lo ok.ok k
  have := ok.len
  unfold atM; omega
theorem lensM_len (b1 : Int) (t1 : List Tm) (b2 : Int) (t2 : List Tm) (y : Int) : (lensM b1 t1 b2 t2 y).length = (atM b2 t2 y).toNat := by simp [lensM]
theorem lensM_bd {b1 : Int} {t1 : List Tm} {b2 : Int} {t2 : List Tm} (h : MoonOk b1 t1 b2 t2) (y : Int) : ∀ x ∈ lensM b1 t1 b2 t2 y, 1 ≤ x ∧ x ≤ 1006 := by
  intro x hx
  obtain ⟨k, _, rfl⟩ := List.mem_map.mp hx
  have a := at_one h.m1.ok h.f1 (uptoM b2 t2 y + k)
  have b := at_hi h.m1 (uptoM b2 t2 y + k)
  have := h.l1
  omega
theorem sum_range_at (b : Int) (ts : List Tm) (k : Int) (n : Nat) : ((List.range n).map fun (i : Nat) => atM b ts (k + (i : Int))).sum = uptoM b ts (k + n) - uptoM b ts k := by
  induction n with
  | zero => simp
  | succ n ih =>
    have e := upto_next b ts (k + n)
    rw [List.range_succ, List.map_append, List.sum_append, ih]
    simp only [List.map_cons, List.map_nil, List.sum_cons, List.sum_nil]
    rw [show k + ((n + 1 : Nat) : Int) = k + n + 1 by omega, e]; omega
theorem lensM_sum {b1 : Int} {t1 : List Tm} {b2 : Int} {t2 : List Tm} (h : MoonOk b1 t1 b2 t2) (y : Int) : (lensM b1 t1 b2 t2 y).sum = uptoM b1 t1 (uptoM b2 t2 (y + 1)) - uptoM b1 t1 (uptoM b2 t2 y) := by
  have a := at_one h.m2.ok h.f2 y
  unfold lensM
  rw [sum_range_at, upto_next b2 t2 y, show ((atM b2 t2 y).toNat : Int) = atM b2 t2 y by omega]
theorem moon_lt {b1 : Int} {t1 : List Tm} {b2 : Int} {t2 : List Tm} (h : MoonOk b1 t1 b2 t2) {i j : Int} (hij : i < j) : uptoM b1 t1 (uptoM b2 t2 i) < uptoM b1 t1 (uptoM b2 t2 j) := upto_lt h.m1.ok h.f1 (upto_lt h.m2.ok h.f2 hij)
theorem moon_le {b1 : Int} {t1 : List Tm} {b2 : Int} {t2 : List Tm} (h : MoonOk b1 t1 b2 t2) {i j : Int} (hij : i ≤ j) : uptoM b1 t1 (uptoM b2 t2 i) ≤ uptoM b1 t1 (uptoM b2 t2 j) := upto_le h.m1.ok h.m1.falls (upto_le h.m2.ok h.m2.falls hij)
theorem moon_uniq {b1 : Int} {t1 : List Tm} {b2 : Int} {t2 : List Tm} (h : MoonOk b1 t1 b2 t2) {x z z' : Int} (h1 : uptoM b1 t1 (uptoM b2 t2 z) ≤ x) (h2 : x < uptoM b1 t1 (uptoM b2 t2 (z + 1))) (h3 : uptoM b1 t1 (uptoM b2 t2 z') ≤ x) (h4 : x < uptoM b1 t1 (uptoM b2 t2 (z' + 1))) : z = z' := by
  by_cases c : z < z'
  · have := moon_le h (show z + 1 ≤ z' by omega); omega
  by_cases c' : z' < z
  · have := moon_le h (show z' + 1 ≤ z by omega); omega
  omega

end

section
open NdefX LamX
/-! ### calendars of both kinds -/
inductive Cal where
  | sun (st : Int) (ls : List Int) (lp : Int) (ts : List Tm)
  | moon (st b1 : Int) (t1 : List Tm) (b2 : Int) (t2 : List Tm)
def Cal.st : Cal → Int
  | .sun st _ _ _ => st
  | .moon st _ _ _ _ => st
def Cal.start : Cal → Int → Int
  | .sun st ls _ ts, y => st + uptoM ls.sum ts y
  | .moon st b1 t1 b2 t2, y => st + uptoM b1 t1 (uptoM b2 t2 y)
def Cal.lens : Cal → Int → List Int
  | .sun _ ls lp ts, y => lensS ls lp ts y
  | .moon _ b1 t1 b2 t2, y => lensM b1 t1 b2 t2 y
def Cal.Ok : Cal → Prop
  | .sun _ ls lp ts => SunOk ls lp ts
  | .moon _ b1 t1 b2 t2 => MoonOk b1 t1 b2 t2
def CalAt (K : PySem.W.Frag) (CS CO CM : Addr) (H : Hp) (c : Addr) : Cal → Prop
  | .sun st ls lp ts => SunAt K CS CM H c st ls lp ts
  | .moon st b1 t1 b2 t2 => MoonAt K CO CM H c st b1 t1 b2 t2
theorem CalAt.mono {T : List NTab} {K : PySem.W.Frag} {CS CO CM : Addr} {H H' : Hp} {c : Addr} {cal : Cal} (s : SameT T H H') (h : CalAt K CS CO CM H c cal) : CalAt K CS CO CM H' c cal := by
  cases cal with
  | sun => exact SunAt.mono s h
  | moon => exact MoonAt.mono s h
theorem CalAt.same {K : PySem.W.Frag} {CS CO CM : Addr} {H H' : Hp} {c : Addr} {cal : Cal} (s : Same H H') (h : CalAt K CS CO CM H c cal) : CalAt K CS CO CM H' c cal := h.mono (T := []) (.of s)
theorem Cal.lt {cal : Cal} (ok : cal.Ok) {i j : Int} (h : i < j) : cal.start i < cal.start j := by
  cases cal with
  | sun st ls lp ts =>
    have := upto_lt (b := ls.sum) (SunOk.meas ok).ok ok.fs h
    show st + _ < st + _; omega
  | moon st b1 t1 b2 t2 =>
    have := moon_lt (show MoonOk b1 t1 b2 t2 from ok) h
    show st + _ < st + _; omega
theorem Cal.le {cal : Cal} (ok : cal.Ok) {i j : Int} (h : i ≤ j) : cal.start i ≤ cal.start j := by
  by_cases e : i = j
  · rw [e]; exact Int.le_refl _
  · have := cal.lt ok (show i < j by omega); omega
theorem Cal.uniq {cal : Cal} (ok : cal.Ok) {x z z' : Int} (h1 : cal.start z ≤ x) (h2 : x < cal.start (z + 1)) (h3 : cal.start z' ≤ x) (h4 : x < cal.start (z' + 1)) : z = z' := by
  by_cases c : z < z'
  · have := cal.le ok (show z + 1 ≤ z' by omega); omega
  by_cases c' : z' < z
  · have := cal.le ok (show z' + 1 ≤ z by omega); omega
  omega
theorem Cal.sum {cal : Cal} (ok : cal.Ok) (y : Int) : (cal.lens y).sum = cal.start (y + 1) - cal.start y := by
  cases cal with
  | sun st ls lp ts =>
    have h := lensS_sum (show SunOk ls lp ts from ok) y
    have e := upto_next ls.sum ts y
    show (lensS ls lp ts y).sum = st + uptoM ls.sum ts (y + 1) - (st + uptoM ls.sum ts y); omega
  | moon st b1 t1 b2 t2 =>
    have h := lensM_sum (show MoonOk b1 t1 b2 t2 from ok) y
    show (lensM b1 t1 b2 t2 y).sum = st + uptoM b1 t1 (uptoM b2 t2 (y + 1)) - (st + uptoM b1 t1 (uptoM b2 t2 y)); omega
theorem Cal.bd {cal : Cal} (ok : cal.Ok) (y : Int) : ∀ x ∈ cal.lens y, 0 ≤ x ∧ x ≤ 1006 := by
  cases cal with
  | sun st ls lp ts => exact lensS_bd ok y
  | moon st b1 t1 b2 t2 => exact fun x hx => by have := lensM_bd (show MoonOk b1 t1 b2 t2 from ok) y x hx; omega
theorem Cal.len {cal : Cal} (ok : cal.Ok) (y : Int) : 1 ≤ (cal.lens y).length ∧ (cal.lens y).length ≤ 26 := by
  cases cal with
  | sun st ls lp ts =>
    have h1 := SunOk.len1 ok
    have h2 := SunOk.len20 ok
    show 1 ≤ (lensS ls lp ts y).length ∧ (lensS ls lp ts y).length ≤ 26
    rw [lensS_len]; omega
  | moon st b1 t1 b2 t2 =>
    have ok' : MoonOk b1 t1 b2 t2 := ok
    have a1 := at_one ok'.m2.ok ok'.f2 y
    have a2 := at_hi ok'.m2 y
    have l2 := ok'.l2
    show 1 ≤ (lensM b1 t1 b2 t2 y).length ∧ (lensM b1 t1 b2 t2 y).length ≤ 26
    rw [lensM_len]; omega
theorem Cal.start_sm {cal : Cal} (ok : cal.Ok) {n : Nat} {y : Int} (h : Sm n y) : Sm (n + 30) (cal.start y - cal.st) := by
  cases cal with
  | sun st ls lp ts =>
    show Sm (n + 30) (st + uptoM ls.sum ts y - st)
    rw [show st + uptoM ls.sum ts y - st = uptoM ls.sum ts y by omega]
    exact sm_mono (upto_sm (SunOk.meas ok) h) (by omega)
  | moon st b1 t1 b2 t2 =>
    show Sm (n + 30) (st + uptoM b1 t1 (uptoM b2 t2 y) - st)
    rw [show st + uptoM b1 t1 (uptoM b2 t2 y) - st = uptoM b1 t1 (uptoM b2 t2 y) by omega]
    exact sm_mono (upto_sm (MoonOk.m1 ok) (upto_sm (MoonOk.m2 ok) h)) (by omega)
theorem Cal.start0 {cal : Cal} (ok : cal.Ok) : cal.start 0 = cal.st := by
  cases cal with
  | sun st ls lp ts => show st + uptoM ls.sum ts 0 = st; rw [upto_zero (SunOk.meas ok).ok]; omega
  | moon st b1 t1 b2 t2 => show st + uptoM b1 t1 (uptoM b2 t2 0) = st; rw [upto_zero (MoonOk.m2 ok).ok, upto_zero (MoonOk.m1 ok).ok]; omega
/-! ### dates -/
theorem pre_succ {L : List Int} {i : Nat} (h : i < L.length) : (L.take (i + 1)).sum = (L.take i).sum + L.getD i 0 := by
  rw [List.take_succ, List.getElem?_eq_getElem h, List.sum_append, List.getD_eq_getElem?_getD, List.getElem?_eq_getElem h]
  simp
theorem pre_le {L : List Int} (h : ∀ x ∈ L, 0 ≤ x) {i j : Nat} (hij : i ≤ j) : (L.take i).sum ≤ (L.take j).sum := by
  induction j with
  | zero => have : i = 0 := by omega
            rw [this]; exact Int.le_refl _
  | succ j ih =>
    by_cases e : i = j + 1
    · rw [e]; exact Int.le_refl _
    have ih := ih (by omega)
    by_cases hj : j < L.length
    · rw [pre_succ hj]
      have : 0 ≤ L.getD j 0 := by
        rw [List.getD_eq_getElem?_getD, List.getElem?_eq_getElem hj]
        exact h _ (List.getElem_mem _)
      omega
    · rw [List.take_of_length_le (show L.length ≤ j + 1 by omega)]
      rw [List.take_of_length_le (show L.length ≤ j by omega)] at ih
      exact ih
def dayOf (cal : Cal) (y m d : Int) : Int := cal.start y + ((cal.lens y).take (m - 1).toNat).sum + d - 1
structure DateIs (cal : Cal) (x y m d : Int) : Prop where
  m1 : 1 ≤ m
  m2 : m ≤ (cal.lens y).length
  d1 : 1 ≤ d
  d2 : d ≤ (cal.lens y).getD (m - 1).toNat 0
  e : x = dayOf cal y m d
structure GoodD (cal : Cal) (y m d : Int) : Prop where
  m1 : 1 ≤ m
  m2 : m ≤ (cal.lens y).length
  d1 : 1 ≤ d
  d2 : d ≤ (cal.lens y).getD (m - 1).toNat 0
theorem GoodD.is {cal : Cal} {y m d : Int} (h : GoodD cal y m d) : DateIs cal (dayOf cal y m d) y m d := ⟨h.m1, h.m2, h.d1, h.d2, rfl⟩
theorem DateIs.good {cal : Cal} {x y m d : Int} (h : DateIs cal x y m d) : GoodD cal y m d := ⟨h.m1, h.m2, h.d1, h.d2⟩
theorem nn_of {L : List Int} {B : Int} (h : ∀ x ∈ L, 0 ≤ x ∧ x ≤ B) : ∀ x ∈ L, 0 ≤ x := fun x hx => (h x hx).1
theorem pre_nn {L : List Int} (h : ∀ x ∈ L, 0 ≤ x) (i : Nat) : 0 ≤ (L.take i).sum := by
  have := pre_le h (Nat.zero_le i)
  rw [List.take_zero] at this; exact this
theorem DateIs.year {cal : Cal} (ok : cal.Ok) {x y m d : Int} (h : DateIs cal x y m d) : cal.start y ≤ x ∧ x < cal.start (y + 1) := by
  have h1 := h.m1
  have h2 := h.m2
  have h3 := h.d1
  have h4 := h.d2
  have nn := nn_of (cal.bd ok y)
  have e := h.e
  unfold dayOf at e
  have p0 := pre_nn nn (m - 1).toNat
  have p1 := pre_succ (L := cal.lens y) (i := (m - 1).toNat) (by omega)
  have p2 := pre_le nn (show (m - 1).toNat + 1 ≤ (cal.lens y).length by omega)
  rw [List.take_of_length_le (Nat.le_refl _)] at p2
  have s := cal.sum ok y
  omega
theorem DateIs.uniq {cal : Cal} (ok : cal.Ok) {x y m d y' m' d' : Int} (h : DateIs cal x y m d) (h' : DateIs cal x y' m' d') : y = y' ∧ m = m' ∧ d = d' := by
  obtain ⟨a1, a2⟩ := h.year ok
  obtain ⟨b1, b2⟩ := h'.year ok
  have ey := cal.uniq ok a1 a2 b1 b2
  subst ey
  have nn := nn_of (cal.bd ok y)
  have e := h.e
  have e' := h'.e
  unfold dayOf at e e'
  have h1 := h.m1
  have h2 := h.m2
  have h3 := h.d1
  have h4 := h.d2
  have g1 := h'.m1
  have g2 := h'.m2
  have g3 := h'.d1
  have g4 := h'.d2
  have p1 := pre_succ (L := cal.lens y) (i := (m - 1).toNat) (by omega)
  have p1' := pre_succ (L := cal.lens y) (i := (m' - 1).toNat) (by omega)
  have em : m = m' := by
    by_cases c : m < m'
    · have := pre_le nn (show (m - 1).toNat + 1 ≤ (m' - 1).toNat by omega)
      omega
    by_cases c' : m' < m
    · have := pre_le nn (show (m' - 1).toNat + 1 ≤ (m - 1).toNat by omega)
      omega
    omega
  subst em
  exact ⟨rfl, rfl, by omega⟩
/-- the first month with days, from one on -/
structure FirstIs (L : List Int) (b k : Nat) : Prop where
  lo : b ≤ k
  hi : k < L.length
  pos : 0 < L.getD k 0
  no : ∀ j, b ≤ j → j < k → L.getD j 0 = 0
theorem pre_zeros {L : List Int} {b k : Nat} (hk : k ≤ L.length) (hb : b ≤ k) (h : ∀ j, b ≤ j → j < k → L.getD j 0 = 0) : (L.take k).sum = (L.take b).sum := by
  induction k with
  | zero => have : b = 0 := by omega
            rw [this]
  | succ k ih =>
    by_cases e : b = k + 1
    · rw [e]
    rw [pre_succ (by omega), ih (by omega) (by omega) (fun j h1 h2 => h j h1 (by omega)), h k (by omega) (by omega)]; omega
theorem date_first {cal : Cal} {y : Int} {k : Nat} (h : FirstIs (cal.lens y) 0 k) : DateIs cal (cal.start y) y (k + 1) 1 := by
  have hk := h.hi
  have z := pre_zeros (by omega) h.lo h.no
  have p := h.pos
  refine ⟨by omega, by omega, by decide, by rw [show ((k : Int) + 1 - 1).toNat = k by omega]; omega, ?_⟩
  unfold dayOf
  rw [show ((k : Int) + 1 - 1).toNat = k by omega, z, List.take_zero]
  simp
theorem date_next {cal : Cal} {x y m d : Int} (h : DateIs cal x y m d) (hd : d < (cal.lens y).getD (m - 1).toNat 0) : DateIs cal (x + 1) y m (d + 1) := by
  have e := h.e
  have h3 := h.d1
  refine ⟨h.m1, h.m2, by omega, by omega, ?_⟩
  unfold dayOf at *; omega
theorem date_month {cal : Cal} {x y m d : Int} {k : Nat} (h : DateIs cal x y m d) (hd : (cal.lens y).getD (m - 1).toNat 0 ≤ d) (f : FirstIs (cal.lens y) m.toNat k) : DateIs cal (x + 1) y (k + 1) 1 := by
  have h1 := h.m1
  have h2 := h.m2
  have h4 := h.d2
  have e := h.e
  have hk := f.hi
  have z := pre_zeros (by omega) f.lo f.no
  have p := f.pos
  have p1 := pre_succ (L := cal.lens y) (i := (m - 1).toNat) (by omega)
  rw [show (m - 1).toNat + 1 = m.toNat by omega] at p1
  refine ⟨by omega, by omega, by decide, by rw [show ((k : Int) + 1 - 1).toNat = k by omega]; omega, ?_⟩
  unfold dayOf at *
  rw [show ((k : Int) + 1 - 1).toNat = k by omega, z]; omega
theorem date_year {cal : Cal} (ok : cal.Ok) {x y m d : Int} {k : Nat} (h : DateIs cal x y m d) (hd : (cal.lens y).getD (m - 1).toNat 0 ≤ d) (no : ∀ j, m.toNat ≤ j → j < (cal.lens y).length → (cal.lens y).getD j 0 = 0) (f : FirstIs (cal.lens (y + 1)) 0 k) : DateIs cal (x + 1) (y + 1) (k + 1) 1 := by
  have h1 := h.m1
  have h2 := h.m2
  have h4 := h.d2
  have e := h.e
  have z := pre_zeros (Nat.le_refl _) (show m.toNat ≤ (cal.lens y).length by omega) no
  rw [List.take_of_length_le (Nat.le_refl _)] at z
  have p1 := pre_succ (L := cal.lens y) (i := (m - 1).toNat) (by omega)
  rw [show (m - 1).toNat + 1 = m.toNat by omega] at p1
  have s := cal.sum ok y
  have : x + 1 = cal.start (y + 1) := by unfold dayOf at e; omega
  rw [this]
  exact date_first f
theorem first_ex {cal : Cal} (ok : cal.Ok) (y : Int) (no : ∀ j, 0 ≤ j → j < (cal.lens y).length → (cal.lens y).getD j 0 = 0) : False := by
  have z := pre_zeros (L := cal.lens y) (Nat.le_refl _) (Nat.zero_le _) (fun j h1 h2 => no j h1 h2)
  rw [List.take_of_length_le (Nat.le_refl _), List.take_zero] at z
  have s := cal.sum ok y
  have l := cal.lt ok (show y < y + 1 by omega)
  have : ([] : List Int).sum = 0 := rfl
  omega
/-! ### methods of a calendar whose kind is not told -/
theorem k_break {D : Ends} {σ : L2.St} {H : Hp} (h : D.bk σ H) : tBreak D σ H := h
def tAlt (t1 t2 : TE) : TE := fun σ H Q => t1 σ H Q ∨ t2 σ H Q
theorem pe_alt2 {X : Cx} {e : Expr} {t1 t2 : TE} (h1 : PE X e t1) (h2 : PE X e t2) : PE X e (tAlt t1 t2) := pe_alt h1 h2
section
variable {σ : L2.St} {H : Hp} {Q : VK} {C1 C2 c : Addr} {m : Str} {t : TA} {sp1 sp2 : Sp} {E : XK} {i : Nat} {x : V}
def AltR (C1 C2 : Addr) (m : Str) (sp1 sp2 : Sp) (E : XK) (t : TA) (σ : L2.St) (x : V) (H1 : Hp) (Q : VK) : Prop := MetR C1 m sp1 [] E t σ x H1 Q ∨ MetR C2 m sp2 [] E t σ x H1 Q
theorem k_altV (hs : σ[i]? = some (some x)) (h : AltR C1 C2 m sp1 sp2 E t σ x H Q) : tAlt (tMeth C1 m sp1 [] E (tVar i) t) (tMeth C2 m sp2 [] E (tVar i) t) σ H Q :=
  h.imp (fun h => ⟨x, hs, h⟩) (fun h => ⟨x, hs, h⟩)
def SpC (cal : Cal) (sp1 sp2 : Sp) : Sp := match cal with
  | .sun .. => sp1
  | .moon .. => sp2
theorem SpC_same {cal : Cal} {sp : Sp} : SpC cal sp sp = sp := by cases cal <;> rfl
structure NoF (m : Str) : Prop where
  s : (m == ("start" : Str)) = false
  mo : (m == ("months" : Str)) = false
  l : (m == ("leap" : Str)) = false
  y : (m == ("years" : Str)) = false
  d : (m == ("days" : Str)) = false
  ma : (m == ("many" : Str)) = false
theorem k_altX {K : PySem.W.Frag} {CM : Addr} {cal : Cal} (hc : CalAt K C1 C2 CM H c cal) (n : NoF m) (h : t σ H fun vs H2 => SpC cal sp1 sp2 (.ref c :: (vs ++ [])) H2 Q E) : AltR C1 C2 m sp1 sp2 E t σ (.ref c) H Q := by
  cases cal with
  | sun =>
    obtain ⟨dx, pm, py, h1, _, _⟩ := hc
    exact .inl (k_metX h1 (sfs_no _ _ _ _ n.s n.mo n.l n.y) h)
  | moon =>
    obtain ⟨dx, pd, pm, h1, _, _⟩ := hc
    exact .inr (k_metX h1 (mofs_no _ _ _ n.s n.d n.ma) h)
theorem k_altX1 {K : PySem.W.Frag} {CM : Addr} {cal : Cal} (hc : CalAt K C1 C2 CM H c cal) (n : NoF m) (h : t σ H fun vs H2 => sp1 (.ref c :: (vs ++ [])) H2 Q E) : AltR C1 C2 m sp1 sp1 E t σ (.ref c) H Q :=
  k_altX hc n (by rw [SpC_same]; exact h)
end
theorem noF_year_at : NoF "year_at" := ⟨by decide +kernel, by decide +kernel, by decide +kernel, by decide +kernel, by decide +kernel, by decide +kernel⟩
theorem noF_year_start : NoF "year_start" := ⟨by decide +kernel, by decide +kernel, by decide +kernel, by decide +kernel, by decide +kernel, by decide +kernel⟩
theorem noF_lengths : NoF "lengths" := ⟨by decide +kernel, by decide +kernel, by decide +kernel, by decide +kernel, by decide +kernel, by decide +kernel⟩
theorem noF_date_of : NoF "date_of" := ⟨by decide +kernel, by decide +kernel, by decide +kernel, by decide +kernel, by decide +kernel, by decide +kernel⟩
theorem noF_day_of : NoF "day_of" := ⟨by decide +kernel, by decide +kernel, by decide +kernel, by decide +kernel, by decide +kernel, by decide +kernel⟩
theorem noF_cycle : NoF "cycle" := ⟨by decide +kernel, by decide +kernel, by decide +kernel, by decide +kernel, by decide +kernel, by decide +kernel⟩
theorem cutV_to_ints (ls : List Int) {k : Int} (h : 0 ≤ k) : cutV (ls.map V.int) none (some k) = (ls.take k.toNat).map V.int := by
  obtain ⟨n, rfl⟩ := Int.eq_ofNat_of_zero_le h
  unfold cutV
  rw [HT.sIx_nat, Int.toNat_natCast, show HT.sIx (ls.map V.int).length 0 none = 0 from rfl, List.drop_zero, Nat.sub_zero, List.map_take, List.length_map]
  by_cases hn : n ≤ ls.length
  · rw [Nat.min_eq_left hn]
  · rw [Nat.min_eq_right (by omega), List.take_of_length_le (by rw [List.length_map]; omega), List.take_of_length_le (by rw [List.length_map]; omega)]

end

/-! ### a caught exception, handed on to a def -/
/-! a def called in the suite that caught p: p's object is pinned while it runs -/
structure FnP (P : Program) (w : World) (K : PySem.W.Frag) (mg : Str → Option Value) (base : Heap) (CX : CXT) (k : Nat) (f : Addr) (fd : FuncData) (ps : List Str) (sp : Addr × Obj → Sp) : Prop where
  len : ∀ p vs H Q E, sp p vs H Q E → vs.length = ps.length
  run : ∀ (A : Around) (outer : List Env) (s : Shared) (H : Hp) (args : Args) (us : List Value) (vs : List V) (Q : VK) (E : XK) (p : Addr × Obj), L2H.RoomH k A → L2H.PinOk outer H s p → Env0 P w K mg base A outer s H → BindsTo s fd args (ps.zip us) → Vals vs us → sp p vs H Q E →
    codeAny (model P w) A (.call (.ref f) args) (CR CX outer P w H s Q E) s
theorem fn_ofP {CX : CXT} {P : Program} {w : World} {K : PySem.W.Frag} {mg : Str → Option Value} {base : Heap} {k : Nat} {f : Addr} {name qual : Str} {params : Arguments} {body : List Stmt} {scope : Scope} {dV kV doc pm cdv ct oc : Value} {an od : Option Addr}
    {osl : Array (Option Value)} {N ps : List Str} {sp : Addr × Obj → Sp} (lk : K.lookup f = some ⟨oc, od, .func (PySem.W.fnOf name qual params body scope dV kV doc pm an cdv ct), osl⟩) (hcd : PySem.W.codeIn K cdv qual = true) (S : FnScope N ps scope)
    (len : ∀ p vs H Q E, sp p vs H Q E → vs.length = ps.length)
    (hbody : ∀ (A : Around) (outer : List Env) (s : Shared) (H : Hp) (vs : List V) (Q : VK) (E : XK) (p : Addr × Obj), L2H.RoomH k (A.deeper (envOfC qual scope s.heap.objs.size f cdv)) → sp p vs H Q E →
      ∃ t, PSs (L2H.cxH CX P w K mg base N qual scope f cdv A outer s H E p) body t ∧ t { nx := fun _ H' => Q .non H', rt := Q } (L2.start N vs) H) :
    FnP P w K mg base CX (k + 1) f (PySem.W.fnOf name qual params body scope dV kV doc pm an cdv ct) ps sp := by
  refine ⟨len, fun A outer s H args us vs Q E p hr hpin e0 hb r hsp => ?_⟩
  have hl := len _ _ _ _ _ hsp
  have KX : K.In s.heap := e0.mod.kin.keeps fun b o e => (e0.bs b o e).1
  have lim : s.heap.NoLimit := e0.mod.nolimit.keeps fun b o e => (e0.bs b o e).1
  have hkind : ∀ y ∈ ps.zip us, scope.names.lookup y.1 = some .local ∨ (scope.names.lookup y.1 = some .cell ∧ ((cellsFrom (s.heap.objs.size + 1) scope.names []).lookup y.1).isSome = true) := fun ⟨n, v⟩ hy => by
    rcases S.par n (List.of_mem_zip hy).1 with q | q
    · exact .inl q
    · exact .inr ⟨q, PySem.W.cellsFrom_some _ _ _ (.inl q)⟩
  refine codeAny_call_function hr.depth (KX _ _ lk) rfl S.co S.gen rfl (PySem.W.codeRec_of KX hcd) (hb _ _ _ _ ?_)
  refine wpAny_newFunctionEnv_cells S.kind hkind fun env he s1 x => ?_
  subst he
  refine ⟨lim.keeps x.toInCall.keep, codeAny_func ?_⟩
  obtain ⟨t, ht, hq⟩ := hbody A outer s H vs Q E p (hr.deeper _) hsp
  have I : Inv (L2H.cxH CX P w K mg base N qual scope f cdv A outer s H E p) [] (L2.start N vs) H s1 := L2H.inv_startH S hpin e0 hl r x
  refine wpAny_mono (ht.run [] s1 (L2.start N vs) H _ I hq) (fun fl s' hs => ?_) fun e s' hs => hs
  have fin : ∀ {σ' : L2.St} {H' : Hp} {v : V} {u : Value}, Inv (L2H.cxH CX P w K mg base N qual scope f cdv A outer s H E p) [] σ' H' s' → RelV v u → Q v H' → CE outer P w H s Q u s' :=
    fun {σ' H' v u} J rv q => ⟨v, H', J.os, J.bare, J.base, J.hok, rv, q⟩
  cases fl with
  | ret u =>
    obtain ⟨v, σ', H', J, rv, q⟩ := hs
    exact fin J rv q
  | next =>
    obtain ⟨σ', H', J, q⟩ := hs
    exact fin (v := V.non) (u := Value.none) J rfl q
  | brk =>
    obtain ⟨_, _, _, q⟩ := hs
    exact False.elim q
  | cont =>
    obtain ⟨_, _, _, q⟩ := hs
    exact False.elim q
theorem Fun.okP {P : Program} {w : World} {K : PySem.W.Frag} {mg : Str → Option Value} {base : Heap} {x qual : Str} {st : Stmt} {f : Addr} {fd : FuncData} {N ps : List Str} {k : Nat} {sp : Addr × Obj → Sp} (F : Fun K x qual st f fd) (S : FnScope N ps (defScope st)) (len : ∀ p vs H Q E, sp p vs H Q E → vs.length = ps.length)
    (hbody : ∀ (cdv : Value) (A : Around) (outer : List Env) (s : Shared) (H : Hp) (vs : List V) (Q : VK) (E : XK) (p : Addr × Obj), L2H.RoomH k (A.deeper (envOfC qual (defScope st) s.heap.objs.size f cdv)) → sp p vs H Q E →
      ∃ t, PSs (L2H.cxH CX0 P w K mg base N qual (defScope st) f cdv A outer s H E p) (defBody st) t ∧ t { nx := fun _ H' => Q .non H', rt := Q } (L2.start N vs) H) : FnP P w K mg base CX0 (k + 1) f fd ps sp := by
  obtain ⟨oc, od, kV, doc, pm, an, cdv, ct, osl, rfl, lk, hcd⟩ := F.ex
  exact fn_ofP lk hcd S len fun A outer s H vs Q E p hr hsp => hbody cdv A outer s H vs Q E p hr hsp
section
variable {X : Cx} {CX : CXT} {k : Nat} {f a : Addr} {fd : FuncData} {ps : List Str} {sp : Addr × Obj → Sp} {x : Str} {p pos : Pos} {e : Expr} {es : List Expr} {t : TA} {oe : Obj} {pn : List (Addr × Obj)}
/-- f(.., err, ..) in an except suite: the exception is pinned while the callee runs -/
def tCallV (a : Addr) (cls : Value) (d : Option Addr) (sp : Addr × Obj → Sp) (t : TA) : TE := fun σ H Q => t σ H fun vs H1 =>
  ∀ oe : Obj, Zc cls d oe → (∃ u, oe.data = .fields u) → sp (a, oe) vs H1 Q (fun _ _ _ => False)
theorem pe_callV {cls : Value} {d : Option Addr} (hz : Zc cls d oe) (hf : ∃ u, oe.data = .fields u) (F : FnP X.prog X.w X.K X.mg X.base CX k f fd ps sp) (hr : Room k X.A) (hg : Gl X x) (hm : X.mg x = some (.ref f)) (hk : PySem.W.keepIn X.K (.ref f) = true) (hb : Binds X.K fd ps [])
    (hx : ∀ (l : List Env) (H : Hp) (s : Shared) (e : Value) (s' : Shared), ¬ CX l H s (fun _ _ _ => False) e s')
    (ha : PA (X.suite a ((a, oe) :: pn)) (e :: es) t) (hdb : (x == ("__debug__" : Str)) = false := by decide) (he : starEach (e :: es) X.env = (false, eval e X.env) :: starEach es X.env := by rfl) (hpl : (backTo pos (starEach es X.env)).any (·.1) = false := by rfl) :
    PE (X.suite a ((a, oe) :: pn)) (.Call (.Name x p) (e :: es) [] pos) (tCallV a cls d sp t) := by
  refine ⟨fun pins s σ H Q I h => ?_⟩
  refine wpAny_Call_Name_kw (ld_glob I hg hm ?_ hdb)
  refine PySem.W.callWith_K (h₀ := X.base) I.ok.mod.kin hk (thn (ha.run pos pins s σ H _ I h) fun us s1 ⟨vs, H1, I1, r, q⟩ => ⟨I1.kIn, ?_⟩) he hpl
  have q := q oe hz hf
  have P1 := I1.pin (a, oe) (List.mem_append_left _ List.mem_cons_self)
  have hpin : L2H.PinOk X.stack H1 s1 (a, oe) := ⟨P1.1, P1.2.1, fun hm => (List.mem_cons.mp (I1.stkSub a hm)).elim P1.2.2.1 P1.2.2.2.1, P1.2.2.2.2⟩
  have hl : us.length = ps.length := by rw [← r.length]; exact F.len _ _ _ _ _ q
  have b := hb s1 us I1.kIn (by rw [List.append_nil]; exact hl)
  rw [List.append_nil] at b
  refine wpAny_call (codeAny_mono (F.run _ X.stack s1 H1 ⟨us, []⟩ us vs Q (fun _ _ _ => False) (a, oe) ⟨hr.dp, hr.un⟩ hpin I1.env0 b r q) fun r s' hq => ?_)
  cases r with
  | error e => exact absurd hq (hx _ _ _ _ _)
  | ok fl =>
    cases fl with
    | ret u => exact I1.after hq
    | next => exact False.elim hq
    | brk => exact False.elim hq
    | cont => exact False.elim hq
/-- where the dict of the exception stands -/
def DOk (H : Hp) (d : Option Addr) : Prop := d = none ∨ ∃ (dd : Addr) (fs : List (Str × V)), d = some dd ∧ H dd = some (.xd fs)
theorem inst_exc {X : Cx} {pins : List (Addr × Obj)} {σ : L2.St} {H : Hp} {s : Shared} {a D : Addr} {d : Option Addr} {oe : Obj} (I : Inv X pins σ H s) (hget : s.heap.get? a = some oe) (hz : Zc (.ref D) d oe) (hf : ∃ vs, oe.data = .fields vs) (hd : DOk H d) :
    ∃ od, PySem.W.InstAt s.heap a oe D od := by
  obtain ⟨vs, hv⟩ := hf
  have hno : PySem.W.notCls oe = true := by unfold PySem.W.notCls; rw [hv] <;> rfl
  rcases hd with rfl | ⟨dd, fs, rfl, ea⟩
  · exact ⟨none, hget, hz.1, hno, by rw [hz.2]; exact trivial⟩
  · have hx : ObjOk X.prog X.w H s.heap dd (.xd fs) := I.hok dd _ ea
    obtain ⟨mA, hns, _⟩ := hx
    obtain ⟨od, ho, _⟩ := lookIn_ns hns
    exact ⟨some od, hget, hz.1, hno, by rw [hz.2]; exact ho⟩
theorem isinst_exc {X : Cx} {pins : List (Addr × Obj)} {σ : L2.St} {H : Hp} {s : Shared} {a D : Addr} {d : Option Addr} {oe : Obj} {cv : Value} {b : Bool} {Q : VK} (I : Inv X pins σ H s) (hget : s.heap.get? a = some oe) (hz : Zc (.ref D) d oe) (hf : ∃ vs, oe.data = .fields vs) (hd : DOk H d) (C : ExcC X.K D)
    (e : PySem.W.kitOne X.K (.ref D) cv = some b) (q : Q (.bl b) H) : wpAny (model X.prog X.w) X.A (call (.builtin "isinstance") [.ref a, cv]) (EP X pins σ Q) X.xe s := by
  obtain ⟨od, J⟩ := inst_exc I hget hz hf hd
  refine PySem.W.kia_one (PySem.W.kitx_exc ?_ C.hg C.hk C.hs C.ha C.hn C.ht C.hm) I.kIn J e (fun z => nomatch z) fun tk => ⟨.bl b, H, I.kept (t' := tk) fun _ _ z => z, rfl, q⟩
  obtain ⟨cd, hc, _⟩ := PySem.W.any_some C.hd
  rw [hc]; rfl
/-- isinstance(e, c), e the caught exception p, in a def that was called in its suite -/
def rIsV (K : PySem.W.Frag) (p : Addr × Obj) : List V → Hp → VK → Prop := fun xs H Q => ∃ (D : Addr) (d : Option Addr) (c : V) (cv : Value) (b : Bool), xs = [.ref p.1, c] ∧ ExcC K D ∧ Zc (.ref D) d p.2 ∧ DOk H d ∧ (∃ vs, p.2.data = .fields vs) ∧ (∀ u, RelV c u → u = cv) ∧ PySem.W.kitOne K (.ref D) cv = some b ∧ Q (.bl b) H
theorem call_isV {X : Cx} {p : Addr × Obj} (hp : X.pn = [p]) : CallR X (.builtin "isinstance") (rIsV X.K p) := by
  intro pins s σ H xs us Q I r h
  obtain ⟨D, d, c, cv, b, rfl, C, hz, hd, hf, hcv, e, q⟩ := h
  cases r with
  | cons rx rr =>
    cases rr with
    | cons rt rr =>
      cases rr
      cases rx
      have ec := hcv _ rt
      subst ec
      exact isinst_exc I (I.pin p (List.mem_append_left _ (by rw [hp]; exact List.mem_cons_self))).1 hz hf hd C e q
/-- isinstance(e, c) in the suite that caught e -/
def rIsC (K : PySem.W.Frag) (a : Addr) (cls : Value) (d : Option Addr) : List V → Hp → VK → Prop := fun xs H Q => ∃ (D : Addr) (c : V) (cv : Value) (b : Bool), cls = .ref D ∧ xs = [.ref a, c] ∧ ExcC K D ∧ DOk H d ∧ (∀ u, RelV c u → u = cv) ∧ PySem.W.kitOne K (.ref D) cv = some b ∧ Q (.bl b) H
theorem call_isC {X : Cx} {a : Addr} {oe : Obj} {pn : List (Addr × Obj)} {cls : Value} {d : Option Addr} (hz : Zc cls d oe) (hf : ∃ vs, oe.data = .fields vs) : CallR (X.suite a ((a, oe) :: pn)) (.builtin "isinstance") (rIsC X.K a cls d) := by
  intro pins s σ H xs us Q I r h
  obtain ⟨D, c, cv, b, rfl, rfl, C, hd, hcv, e, q⟩ := h
  cases r with
  | cons rx rr =>
    cases rr with
    | cons rt rr =>
      cases rr
      cases rx
      have ec := hcv _ rt
      subst ec
      obtain ⟨hget, _⟩ := I.pin (a, oe) (List.mem_append.mpr (.inl List.mem_cons_self))
      exact isinst_exc I hget hz hf hd C e q
end
/-- an error of the class at D, asked of the class at C: an except clause, isinstance -/
theorem exm_of {K : PySem.W.Frag} {D C : Addr} {b : Bool} (h1 : PySem.W.subIn K (.ref C) (.type "BaseException") = some true) (h2 : PySem.W.isClsIn K C = true) (h3 : PySem.W.typeIn K (.ref C) = some (.type "type")) (h4 : PySem.W.subIn K (.ref D) (.ref C) = some b) :
    PySem.W.exmOne K (.ref D) (.ref C) = some b := by
  have e1 : (PySem.W.subIn K (.ref C) (.type "BaseException") == some true) = true := by rw [h1] <;> rfl
  have e2 : ((PySem.W.clsIn K C).isSome && PySem.W.typeIn K (.ref C) == some (.type "type")) = true := by
    have h2' : (PySem.W.clsIn K C).isSome = true := h2
    rw [h2', h3] <;> rfl
  show (if (PySem.W.subIn K (.ref C) (.type "BaseException") == some true) = true then (if ((PySem.W.clsIn K C).isSome && PySem.W.typeIn K (.ref C) == some (.type "type")) = true then PySem.W.subIn K (.ref D) (.ref C) else none) else none) = some b
  rw [if_pos e1, if_pos e2]
  exact h4
theorem kit_of {K : PySem.W.Frag} {D C : Addr} {b : Bool} (h2 : PySem.W.isClsIn K C = true) (h3 : PySem.W.typeIn K (.ref C) = some (.type "type")) (hs : PySem.W.subIn K (.ref C) (.ref C) = some true) (h4 : PySem.W.subIn K (.ref D) (.ref C) = some b) :
    PySem.W.kitOne K (.ref D) (.ref C) = some b := by
  unfold PySem.W.kitOne
  by_cases e : D = C
  · subst e
    rw [hs] at h4
    rw [if_pos (by simp)]
    exact h4
  · rw [if_neg (by simpa using e)]
    have e2 : ((PySem.W.clsIn K C).isSome && PySem.W.typeIn K (.ref C) == some (.type "type")) = true := by
      have h2' : (PySem.W.clsIn K C).isSome = true := h2
      rw [h2', h3] <;> rfl
    show (if ((PySem.W.clsIn K C).isSome && PySem.W.typeIn K (.ref C) == some (.type "type")) = true then PySem.W.subIn K (.ref D) (.ref C) else none) = some b
    rw [if_pos e2]
    exact h4
theorem kit_ve {K : PySem.W.Frag} {D : Addr} {b : Bool} (h : PySem.W.subIn K (.ref D) (.type "ValueError") = some b) : PySem.W.kitOne K (.ref D) (.type "ValueError") = some b := by
  unfold PySem.W.kitOne
  rw [if_neg (by simp)]
  show (if PySem.W.kitMeta "ValueError" = true then PySem.W.subIn K (.ref D) (.type "ValueError") else none) = some b
  rw [if_pos (by decide +kernel)]
  exact h

/-! ### several except clauses, each with a name -/
def wAsM (K : PySem.W.Frag) (Wout : WX) (D : Ends) : List (Value × Nat × (Addr → Value → Option Addr → TS)) → WX
  | [] => Wout
  | (c, i, ts) :: r => fun cls d σ H => ∃ b, PySem.W.exmOne K cls c = some b ∧ (b = true → ∀ a, H a = none → ts a cls d { nx := fun σ' H' => D.nx (σ'.set i none) H', rt := D.rt, bk := fun σ' H' => D.bk (σ'.set i none) H', ct := fun σ' H' => D.ct (σ'.set i none) H' } (σ.set i (some (.ref a))) H) ∧
      (b = false → wAsM K Wout D r cls d σ H)
inductive HasOk (X : Cx) : List ExceptHandler → List (Value × Nat × (Addr → Value → Option Addr → TS)) → Prop
  | nil : HasOk X [] []
  | cons {x n : Str} {c : Value} {i : Nat} {ts : Addr → Value → Option Addr → TS} {b₀ : Stmt} {suite : List Stmt} {np pos' : Pos} {hds : List ExceptHandler} {l : List (Value × Nat × (Addr → Value → Option Addr → TS))}
      (hN : X.N.Nodup) (hi : X.N[i]? = some n) (hln : X.env.kindOf n = some .local) (hc : Names X x c)
      (hsu : ∀ (a : Addr) (oe : Obj) (cls : Value) (d : Option Addr) (pn : List (Addr × Obj)), Zc cls d oe → (∃ vs, oe.data = .fields vs) → PSs (X.suite a ((a, oe) :: pn)) (b₀ :: suite) (ts a cls d)) (r : HasOk X hds l) :
      HasOk X (.ExceptHandler (some (.Name x np)) (some n) (b₀ :: suite) pos' :: hds) ((c, i, ts) :: l)
section
variable {X : Cx} {body : List Stmt} {h₀ : ExceptHandler} {hds : List ExceptHandler} {l : List (Value × Nat × (Addr → Value → Option Addr → TS))} {pos : Pos} {tb : WX → TS} {Wout : WX}
theorem ps_try_asN (hs : X.stack = X.env :: X.outer) (hf : X.env.frame = some X.env.locals) (tk : Takes X Wout)
    (hb : ∀ (W : WX) (pn : List (Addr × Obj)) (xe : Value → Shared → Prop), Takes (X.tr pn xe) W → PassesOwn (model X.prog X.w) X.A X.env xe → PSs (X.tr pn xe) body (tb W))
    (hh : HasOk X (h₀ :: hds) l) : PS X (.Try body (h₀ :: hds) [] [] pos) (fun D σ H => tb (wAsM X.K Wout D l) D σ H) := by
  refine ⟨fun pins s σ H D I h => ?_⟩
  have ok := I.ok
  have hfr : X.A.frames = some (X.env :: X.outer) := by rw [ok.frames, hs]
  refine wpAny_Try_except ?_
  refine wpAny_mono ((hb (wAsM X.K Wout D l) (X.pn ++ pins) (fun e s₁ => wpAny (model X.prog X.w) X.A (noteFrame e X.env) (fun _ s₂ => wpAny (model X.prog X.w) X.A (setFlight e none) (fun _ s₃ =>
    wpAny (model X.prog X.w) X.A (handleBy e X.env (h₀ :: hds)) (SP X pins D) X.xe s₃) X.xe s₂) X.xe s₁) (fun u s' xx => ?_) PassesOwn.looking).run [] s σ H D (I.toTry _) h) (fun f s1 hsp => ?_) (fun e s1 he => he)
  · -- the catch
    obtain ⟨a, B, sI, pins', σ', H', cls, d, rfl, J', nb, up, sky, na, os, ag, w⟩ := xx
    have J : Inv X pins σ' H' sI := J'.ofTry ok
    have sky' : Sky B (X.env :: X.outer) a (Zc cls d) X.env.locals s'.heap := by rw [← hs]; exact sky
    show wpAny (model X.prog X.w) X.A (noteFrame (.ref a) X.env) _ _ _
    refine Sky.land Zc.steady hfr hf sky' fun h3 fl3 up3 => ?_
    have J3 : Inv X pins σ' H' { s' with heap := h3 } := J.landed nb fl3.1 (up.trans up3) os ag
    obtain ⟨oe3, vs3, he3, hz3, hd3⟩ := fl3.there
    have notFr : ∀ {h : Heap} {o : Obj} {vs : Array Value}, h.FunFrames B (X.env :: X.outer) → h.get? a = some o → o.data = .fields vs → a ∉ frs (X.env :: X.outer) := fun {h o vs} ff e dd hm => by
      obtain ⟨_, o', e', hnf⟩ := ff.mem hm
      rw [e] at e'; cases e'
      exact hnf _ dd
    have nfr := notFr fl3.2.2.1 he3 hd3
    have nL : a ≠ X.env.locals := fun z => nfr (List.mem_filterMap.mpr ⟨X.env, List.mem_cons_self, by rw [hf, z]⟩)
    have nF : a ∉ X.fs := fun hm => by
      obtain ⟨e, he, q⟩ := List.mem_filterMap.mp hm
      exact nfr (List.mem_filterMap.mpr ⟨e, List.mem_cons_of_mem _ he, q⟩)
    have S3 := J3.suite he3 hd3 na nL nF
    have go : ∀ {hds' : List ExceptHandler} {l' : List (Value × Nat × (Addr → Value → Option Addr → TS))}, HasOk X hds' l' → wAsM X.K Wout D l' cls d σ' H' →
        wpAny (model X.prog X.w) X.A (handleBy (.ref a) X.env hds') (SP X pins D) X.xe { s' with heap := h3 } := by
      intro hds' l' hk
      induction hk with
      | nil =>
        intro w
        refine wpAny_handleBy_nil ?_
        obtain ⟨k1, k2, k3, oe, vs, T, oT, ts', he, hz, hd, h1, hr⟩ := id fl3
        unfold PySem.passOn
        refine wpAny_bind (wpAny_field he hd h1 ?_)
        rw [if_neg (show ¬ ((Value.ref T == Value.none) = true) from by simp)]
        have fin : wpAny (model X.prog X.w) X.A (setFlight (.ref a) X.env.frame) (fun _ s4 => wpAny (model X.prog X.w) X.A (throw (.ref a) : Sem Flow) (SP X pins D) X.xe s4) X.xe { s' with heap := h3 } := by
          rw [hf]
          refine HandSPX.setFlight_upZ fl3 fun h4 hh4 up4 => wpAny_throw (tk _ _ ?_)
          exact ⟨a, B, sI, pins, σ', H', cls, d, rfl, J, nb, (up.trans up3).trans up4, .inr (.inr (by rw [hs]; exact hh4)), na, os, ag, w⟩
        first
          | exact wpAny_bind (wpAny_pure (wpAny_bind fin))
          | exact wpAny_bind fin
      | @cons x n c i ts b₀ suite np pos' hds2 l2 hN hi hln hc hsu r ih =>
        intro w
        obtain ⟨b, hb1, hyes, hno⟩ := w
        have hloc : Loc X.env.scope n := .inl hln
        refine wpAny_handleBy_cons (codeAny_handlers_test ?_) (by intro q; cases q)
        have LT : PySem.W.Looks (model X.prog X.w) h3 (typeOf (.ref a)) cls := fun A Q E s k q => wpAny_typeOf_ref (k _ _ he3) (by rw [hz3.1]; exact q)
        have LM := PySem.W.exm_one (M := model X.prog X.w) (J3.kIn) LT hb1
        have test : ∀ {Q : Value → Shared → Prop} {E : Value → Shared → Prop}, Q c { s' with heap := h3 } → wpAny (model X.prog X.w) (X.A.mark (some (.ref a))) (eval (.Name x np) X.env) Q E { s' with heap := h3 } := fun {Q E} q => by
          obtain ⟨hg, hdbg, hm | ⟨hm, hv, hnn⟩⟩ := hc
          · exact ld_glob (X := X.suite a ((a, oe3) :: (X.pn ++ pins))) S3 hg hm q hdbg
          · exact ld_blt (X := X.suite a ((a, oe3) :: (X.pn ++ pins))) S3 hg hm hv q hnn hdbg
        refine test (LM.here ?_)
        cases b with
        | true =>
          refine codeAny_handlers_suite_as ?_
          refine HandSPX.lands_againZ fl3 fun h4 fl4 up4 => ?_
          have J4 : Inv X pins σ' H' { s' with heap := h4 } := J.landed nb fl4.1 ((up.trans up3).trans up4) os ag
          obtain ⟨oe4, vs4, he4, hz4, hd4⟩ := fl4.there
          have S4 := J4.suite he4 hd4 na nL nF
          refine store_ok (X := X.suite a ((a, oe4) :: (X.pn ++ pins))) (v := .ref a) S4 hN hi hloc rfl (fun s5 S5 => ?_) (.inr hln)
          refine wpAny_mono ((hsu a oe4 cls d (X.pn ++ pins) hz4 ⟨_, hd4⟩).run [] s5 _ H' _ S5 (hyes rfl a na)) (fun f s6 hsp => ?_) (fun _ _ z => False.elim z)
          have end_ : ∀ {σ6 : L2.St} {H6 : Hp} {Q : Shared → Prop}, Inv (X.suite a ((a, oe4) :: (X.pn ++ pins))) [] σ6 H6 s6 → (∀ s7, Inv X pins (σ6.set i none) H6 s7 → Q s7) →
              wpAny (model X.prog X.w) X.A (do bindName X.env n .none; unbindBehindTheSuite X.env n pos') (fun _ s7 => Q s7) X.xe s6 := fun {σ6 H6 Q} S6 hq => gone_ok (S6.unsuite ok) hN hi hln hq
          cases f with
          | next =>
            obtain ⟨σ6, H6, S6, q6⟩ := hsp
            exact end_ S6 fun s7 J7 => ⟨_, _, J7, q6⟩
          | brk =>
            obtain ⟨σ6, H6, S6, q6⟩ := hsp
            exact end_ S6 fun s7 J7 => ⟨_, _, J7, q6⟩
          | cont =>
            obtain ⟨σ6, H6, S6, q6⟩ := hsp
            exact end_ S6 fun s7 J7 => ⟨_, _, J7, q6⟩
          | ret u =>
            obtain ⟨v6, σ6, H6, S6, r6, q6⟩ := hsp
            exact end_ S6 fun s7 J7 => ⟨_, _, _, J7, r6, q6⟩
        | false =>
          show wpAny _ X.A (handleBy (.ref a) X.env hds2) _ _ _
          exact ih (hno rfl)
    exact go hh w
  · cases f with
    | next =>
      obtain ⟨σ', H', J', q⟩ := hsp
      exact wpAny_execs_nil ⟨σ', H', J'.ofTry ok, q⟩
    | brk =>
      obtain ⟨σ', H', J', q⟩ := hsp
      exact ⟨σ', H', J'.ofTry ok, q⟩
    | cont =>
      obtain ⟨σ', H', J', q⟩ := hsp
      exact ⟨σ', H', J'.ofTry ok, q⟩
    | ret u =>
      obtain ⟨v, σ', H', J', r, q⟩ := hsp
      exact ⟨v, σ', H', J'.ofTry ok, r, q⟩
end
/-! ### C0.__init__(self, ..), C0 an own class whose __init__ is ValueError's -/
section
variable {X : Cx} {e : Expr} {es : List Expr} {ta : TA} {n : Str} {C0 : Addr} {mc : Value} {p1 p2 pos : Pos}
theorem pe_xinit {pl : Sem Bool} (hg : Gl X n) (hm : X.mg n = some (.ref C0)) (r : ClX.CRead X.K C0 mc) (vV : PySem.W.findCls X.K (.ref C0) mc "__init__" = some (.val (.builtin "ValueError.__init__"))) (ha : PA X (e :: es) ta)
    (hc : eval (.Call (.Attribute (.Name n p1) "__init__" p2) (e :: es) [] pos) X.env = (do
      let ov ← eval (.Name n p1) X.env
      standAt p2.atName
      let (f, first) ← holding [ov] (getMethod ov "__init__" pl)
      callWith pos f first (backTo pos (starEach (e :: es) X.env)) (backToKw pos (keywordEach [] X.env))) := by rfl)
    (hd : (n == ("__debug__" : Str)) = false := by decide)
    (he : starEach (e :: es) X.env = (false, eval e X.env) :: starEach es X.env := by rfl) (hpl : (backTo pos (starEach es X.env)).any (·.1) = false := by rfl) :
    PE X (.Call (.Attribute (.Name n p1) "__init__" p2) (e :: es) [] pos) (tVeI X.K ta) := by
  refine ⟨fun pins s σ H Q I h => ?_⟩
  refine PySem.W.methodCall_KW (ld_glob I hg hm ?_ hd) hc
  refine PySem.W.method_cls I.kIn r.ga ?_
  refine PySem.W.cls_value I.kIn r.rd vV (by decide +kernel) ?_
  show wpAny _ _ (callWith pos (Value.builtin "ValueError.__init__") [] (backTo pos (starEach (e :: es) X.env)) []) _ _ _
  refine PyProof.Rows.callWith_method1 (thn (ha.run pos pins _ σ H _ (I.tok _) h) fun us s1 ⟨vs, H1, I1, r1, a, C, ws, ev, hl, T, ea, q⟩ => ?_) he hpl
  subst ev
  cases r1 with
  | @cons _ u0 _ ur ra rw' =>
    obtain rfl : u0 = Value.ref a := ra
    have hlen : ur.length ≤ sizeLine := by
      rw [← Paired.length rw', sizeLine_eq]
      omega
    exact oinit_ok T I1 ea hlen fun s' J => ⟨.non, H1, J, rfl, q⟩
end
/-! ### readings' heads, and what is told of TooLong -/
theorem k_ifSx {c : TT} {t u : TS} {D : Ends} {σ : L2.St} {H : Hp} (h : c σ H fun b H1 => if b = true then t D σ H1 else u D σ H1) : tIfS c t u D σ H := h
theorem k_callSx {sp : Sp} {E : L2.St → XK} {tr : TA} {σ : L2.St} {H : Hp} {Q : VK} (h : tr σ H fun vs H1 => sp vs H1 Q (E σ)) : tCallS sp E tr σ H Q := h
/-- an error of the class at C may lie in the air, that has needed = m -/
def TL (C : Addr) (E : XK) (H : Hp) (m : Int) : Prop := ∀ (d : Addr) (H' : Hp), Same H H' → H' d = some (.xd [("needed", .int m)]) → E (.ref C) (some d) H'
theorem TL.mono {C : Addr} {E : XK} {H H1 : Hp} {m : Int} (t : TL C E H m) (s : Same H H1) : TL C E H1 m := fun d H' s' e => t d H' (s.trans s') e
theorem k_isX {K : PySem.W.Frag} {H : Hp} {Q : VK} {a D : Addr} {d : Option Addr} {c : V} {cv : Value} {b : Bool} (C : ExcC K D) (hd : DOk H d) (hcv : ∀ u, RelV c u → u = cv) (h : PySem.W.kitOne K (.ref D) cv = some b) (q : Q (.bl b) H) : rIsC K a (.ref D) d [.ref a, c] H Q :=
  ⟨D, c, cv, b, rfl, rfl, C, hd, hcv, h, q⟩
theorem k_xf {a C : Addr} {cls : Value} {d : Option Addr} {f : Str} {te : TE} {σ : L2.St} {H : Hp} {Q : VK} (h : te σ H fun x H1 => x = .ref a ∧ cls = .ref C ∧ ∃ (dd : Addr) (fs : List (Str × V)) (v : V), d = some dd ∧ H1 dd = some (.xd fs) ∧ fs.lookup f = some v ∧ Q v H1) : tXf a cls d C f te σ H Q := h
/-- self of an own error, being made -/
theorem tl_made {C a d : Addr} {E : XK} {H H2 : Hp} {m : Int} (t : TL C E H m) (ha : H a = none) (hd : H d = none) (e : H2 = upd (upd (upd H a (exo a C none)) d (exd d [("needed", .int m)])) a (exo a C (some d))) : E (.ref C) (some d) (upd (del H2 a) d (.xd [("needed", .int m)])) := by
  refine t d _ (fun b o h => ?_) upd_same
  have nb : b ≠ d := ne_of_none h hd
  have na : b ≠ a := ne_of_none h ha
  rw [upd_ne nb, del_ne na, e, upd_ne na, upd_ne nb, upd_ne na]
  exact h
/-- C(self, needed) -/
def spTL (C : Addr) : Sp := fun vs H Q _ => ∃ (a : Addr) (m : Int), vs = [.ref a, .int m] ∧ H a = some (exo a C none) ∧ ∀ dx, H dx = none → dx ≠ a → Q .non (upd (upd H dx (exd dx [("needed", .int m)])) a (exo a C (some dx)))
theorem k_mkTL {C : Addr} {H : Hp} {E : XK} {m : Int} (t : TL C E H m) : ([V.int m] : List V).length ≤ 1000 ∧ ∀ a, H a = none → spTL C (.ref a :: ([V.int m] ++ [])) (upd H a (exo a C none))
    (fun v H2 => v = .non ∧ ∃ (d : Addr) (fs : List (Str × V)), H2 a = some (exo a C (some d)) ∧ H2 d = some (exd d fs) ∧ H d = none ∧ E (.ref C) (some d) (upd (del H2 a) d (.xd fs))) (fun _ _ _ => False) := by
  refine ⟨by show 1 ≤ 1000; decide, fun a ha => ⟨a, m, rfl, upd_same, fun dx hd hda => ⟨rfl, dx, [("needed", .int m)], upd_same, ?_, ?_, ?_⟩⟩⟩
  · rw [upd_ne hda, upd_same]
  · rw [upd_ne hda] at hd; exact hd
  · rw [upd_ne hda] at hd
    exact tl_made t ha hd rfl
theorem k_veI {K : PySem.W.Frag} {ta : TA} {σ : L2.St} {H : Hp} {Q : VK} (h : ta σ H fun vs H1 => ∃ (a C : Addr) (ws : List V), vs = .ref a :: ws ∧ ws.length ≤ 1000 ∧ OexC K C ∧ H1 a = some (exo a C none) ∧ Q .non H1) : tVeI K ta σ H Q := h
theorem k_ost {K : PySem.W.Frag} {f : Str} {to te : TE} {D : Ends} {σ : L2.St} {H : Hp} (h : te σ H fun y H1 => to σ H1 fun x H2 => ∃ a C : Addr, x = .ref a ∧ OexC K C ∧ PySem.W.findIn K (.ref C) f = some none ∧
  ((H2 a = some (exo a C none) ∧ ∀ dx, H2 dx = none → dx ≠ a → D.nx σ (upd (upd H2 dx (exd dx [(f, y)])) a (exo a C (some dx)))) ∨
    ∃ (dx : Addr) (fs : List (Str × V)), H2 a = some (exo a C (some dx)) ∧ H2 dx = some (exd dx fs) ∧ fs.length ≤ 900 ∧ D.nx σ (upd H2 dx (exd dx ((f, y) :: fs))))) : tOst K f to te D σ H := h
theorem k_mkO {C : Addr} {sp : Sp} {dvs : List V} {ta : TA} {σ : L2.St} {H : Hp} {Q : XK} (h : ta σ H fun vs H1 => vs.length ≤ 1000 ∧ ∀ a, H1 a = none → sp (.ref a :: (vs ++ dvs)) (upd H1 a (exo a C none))
  (fun v H2 => v = .non ∧ ∃ (d : Addr) (fs : List (Str × V)), H2 a = some (exo a C (some d)) ∧ H2 d = some (exd d fs) ∧ H1 d = none ∧ Q (.ref C) (some d) (upd (del H2 a) d (.xd fs))) (fun _ _ _ => False)) : tMkO C sp dvs ta σ H Q := h

section
open NdefX LamX
/-! ### methods that raise, objects whose making raises -/
section
variable {X : Cx} {CX : CXT} {k : Nat} {f C : Addr} {fd : FuncData} {ps : List Str} {sp : Sp} {dvs : List V} {ds : List Value} {E : L2.St → XK} {x m : Str} {p pos apos : Pos} {e o : Expr} {es : List Expr} {ta : TE} {t : TA}
def tMethX (C : Addr) (m : Str) (sp : Sp) (dvs : List V) (E : L2.St → XK) (ta : TE) (t : TA) : TE := fun σ H Q => ta σ H fun x H1 => ∃ a dx fs, x = .ref a ∧ H1 a = some (.ins C dx fs) ∧ fs.lookup m = none ∧
  t σ H1 fun vs H2 => sp (x :: (vs ++ dvs)) H2 Q (E σ)
theorem pe_methX {pl : Sem Bool} (he : PE X o ta) (c : Cls X.K C) (hm : Meth X.K C m f) (F : FnOk X.prog X.w X.K X.mg X.base CX k f fd ps sp) (hr : Room k X.A) (hb : Binds X.K fd ps ds) (hd : Vals dvs ds) (hx : ∀ σ, PassesAt CX X σ (E σ)) (ha : PA X (e :: es) t)
    (hst : starEach (e :: es) X.env = (false, eval e X.env) :: starEach es X.env := by rfl) (hpl : (backTo pos (starEach es X.env)).any (·.1) = false := by rfl)
    (ht : eval (.Call (.Attribute o m apos) (e :: es) [] pos) X.env = (do
      let ov ← eval o X.env
      standAt apos.atName
      let (f, first) ← holding [ov] (getMethod ov m pl)
      callWith pos f first (backTo pos (starEach (e :: es) X.env)) (backToKw pos (keywordEach [] X.env))) := by rfl) :
    PE X (.Call (.Attribute o m apos) (e :: es) [] pos) (tMethX C m sp dvs E ta t) := by
  refine ⟨fun pins s σ H Q I h => ?_⟩
  refine PySem.W.methodCall_KW (pl := pl) (thn (he.run pins s σ H _ I h) fun u s1 ⟨x, H1, I1, rx, a, dx, fs, ex, ea, l, q⟩ => ?_) ht
  subst ex
  obtain rfl : u = Value.ref a := rx
  refine getmeth_ok I1 ea c hm l ?_
  refine PySem.W.callWith_K (first := [.ref a]) (h₀ := X.base) I.ok.mod.kin hm.kp (thn (ha.run pos pins s1 σ H1 _ I1 q) fun us s2 ⟨vs, H2, I2, r, q2⟩ => ⟨I2.kIn, ?_⟩) hst hpl
  exact run_fnSD (us := .ref a :: us) (vs := .ref a :: vs) F hr hb hd (hx σ) I2 (.cons rfl r) q2
theorem run_makeX {pins : List (Addr × Obj)} {σ : L2.St} {H : Hp} {s : Shared} {Q : VK} {E : XK} {us : List Value} {vs : List V} (M : Mk X.K C f) (F : FnOk X.prog X.w X.K X.mg X.base CX k f fd ps sp) (hr : Room (k + 1) X.A) (hb : Binds X.K fd ps ds) (hd : Vals dvs ds)
    (hx : PassesAt CX X σ E) (I : Inv X pins σ H s) (r : Vals vs us)
    (h : ∀ x dx, H x = none → H dx = none → dx ≠ x → sp (.ref x :: (vs ++ dvs)) (upd (upd H dx (.own x)) x (.ins C dx [])) (fun v H2 => v = .non ∧ Q (.ref x) H2) E) :
    wpAny (model X.prog X.w) X.A (call (.ref C) us) (EP X pins σ Q) X.xe s := by
  have hq := h (s.heap.objs.size + 1) s.heap.objs.size (I.hok.fresh (Nat.le_succ _)) (I.hok.fresh (Nat.le_refl _)) (Nat.ne_of_lt (Nat.lt_succ_self _))
  have I2 := Inv.made (C := C) I
  have r2 : Vals (V.ref (s.heap.objs.size + 1) :: (vs ++ dvs)) (Value.ref (s.heap.objs.size + 1) :: (us ++ ds)) := .cons rfl (r.append hd)
  have hl : (Value.ref (s.heap.objs.size + 1) :: us ++ ds).length = ps.length := by
    have e := r2.length
    rw [F.len _ _ _ _ hq] at e
    exact e.symm
  refine wpAny_call (make_map (f := f) I.kIn M.makes M.init (beq_iff_eq.mp M.fn) (codeAny_mono (F.run _ X.stack _ _ ⟨Value.ref (s.heap.objs.size + 1) :: us, []⟩ (Value.ref (s.heap.objs.size + 1) :: (us ++ ds)) _ _ E (hr.make C us [])
    (I2.env0.make C us []) (hb _ (Value.ref (s.heap.objs.size + 1) :: us) I2.kIn hl) r2 hq) fun r s' hq' => ?_))
  cases r with
  | error e => exact hx pins _ _ e s' I2 hq'
  | ok fl =>
    cases fl with
    | ret u =>
      obtain ⟨v, H', I3, rv, ev, q3⟩ := I2.after hq'
      subst ev
      exact ⟨rv, ⟨V.ref (s.heap.objs.size + 1), H', I3, rfl, q3⟩⟩
    | next => exact False.elim hq'
    | brk => exact False.elim hq'
    | cont => exact False.elim hq'
def tMakeX (C : Addr) (sp : Sp) (dvs : List V) (E : L2.St → XK) (t : TA) : TE := fun σ H Q => t σ H fun vs H1 => ∀ x dx, H1 x = none → H1 dx = none → dx ≠ x →
  sp (.ref x :: (vs ++ dvs)) (upd (upd H1 dx (.own x)) x (.ins C dx [])) (fun v H2 => v = .non ∧ Q (.ref x) H2) (E σ)
theorem pe_makeX (M : Mk X.K C f) (F : FnOk X.prog X.w X.K X.mg X.base CX k f fd ps sp) (hr : Room (k + 1) X.A) (hg : Gl X x) (hm : X.mg x = some (.ref C)) (hb : Binds X.K fd ps ds) (hd : Vals dvs ds) (hx : ∀ σ, PassesAt CX X σ (E σ))
    (ha : PA X (e :: es) t) (hdb : (x == ("__debug__" : Str)) = false := by decide) (he : starEach (e :: es) X.env = (false, eval e X.env) :: starEach es X.env := by rfl) (hpl : (backTo pos (starEach es X.env)).any (·.1) = false := by rfl) :
    PE X (.Call (.Name x p) (e :: es) [] pos) (tMakeX C sp dvs E t) := by
  refine ⟨fun pins s σ H Q I h => ?_⟩
  refine wpAny_Call_Name_kw (ld_glob I hg hm ?_ hdb)
  refine PySem.W.callWith_K (h₀ := X.base) I.ok.mod.kin M.kp (thn (ha.run pos pins s σ H _ I h) fun us s1 ⟨vs, H1, I1, r, q⟩ => ⟨I1.kIn, ?_⟩) he hpl
  exact run_makeX M F hr hb hd (hx σ) I1 r q
end
section
variable {K : PySem.W.Frag} {σ : L2.St} {H : Hp} {Q : VK} {C a : Addr} {m : Str} {ta : TE} {t : TA} {sp : Sp} {dvs : List V} {E : L2.St → XK}
theorem k_metX' (h : ta σ H fun x H1 => MetR C m sp dvs (E σ) t σ x H1 Q) : tMethX C m sp dvs E ta t σ H Q := h
theorem k_makX (h : t σ H fun vs H1 => MakR C sp dvs (E σ) vs H1 Q) : tMakeX C sp dvs E t σ H Q := h
end
/-- an error of the class at C may lie in the air, with these fields -/
def TV (T : List NTab) (C : Addr) (E : XK) (H : Hp) (fs : List (Str × V)) : Prop := ∀ (d : Addr) (H' : Hp), SameT T H H' → H' d = some (.xd fs) → E (.ref C) (some d) H'
/-- an error without fields -/
def TN (T : List NTab) (C : Addr) (E : XK) (H : Hp) : Prop := ∀ H', SameT T H H' → E (.ref C) none H'
theorem TV.mono {T : List NTab} {C : Addr} {E : XK} {H H1 : Hp} {fs : List (Str × V)} (t : TV T C E H fs) (s : SameT T H H1) : TV T C E H1 fs := fun d H' s' e => t d H' (s.trans s') e
theorem TN.mono {T : List NTab} {C : Addr} {E : XK} {H H1 : Hp} (t : TN T C E H) (s : SameT T H H1) : TN T C E H1 := fun H' s' => t H' (s.trans s')
/-- C(self, v): one field -/
def spTV1 (C : Addr) (f : Str) : Sp := fun vs H Q _ => ∃ (a : Addr) (v : V), vs = [.ref a, v] ∧ H a = some (exo a C none) ∧ ∀ dx, H dx = none → dx ≠ a → Q .non (upd (upd H dx (exd dx [(f, v)])) a (exo a C (some dx)))
theorem k_mkTV1 {T : List NTab} {C : Addr} {H : Hp} {E : XK} {f : Str} {v : V} (t : TV T C E H [(f, v)]) : ([v] : List V).length ≤ 1000 ∧ ∀ a, H a = none → spTV1 C f (.ref a :: ([v] ++ [])) (upd H a (exo a C none))
    (fun w H2 => w = .non ∧ ∃ (d : Addr) (fs : List (Str × V)), H2 a = some (exo a C (some d)) ∧ H2 d = some (exd d fs) ∧ H d = none ∧ E (.ref C) (some d) (upd (del H2 a) d (.xd fs))) (fun _ _ _ => False) := by
  refine ⟨by show 1 ≤ 1000; decide, fun a ha => ⟨a, v, rfl, upd_same, fun dx hd hda => ⟨rfl, dx, [(f, v)], upd_same, ?_, ?_, ?_⟩⟩⟩
  · rw [upd_ne hda, upd_same]
  · rw [upd_ne hda] at hd; exact hd
  · rw [upd_ne hda] at hd
    refine t dx _ (.of fun b o h => ?_) upd_same
    have nb : b ≠ dx := ne_of_none h hd
    have na : b ≠ a := ne_of_none h ha
    rw [upd_ne nb, del_ne na, upd_ne na, upd_ne nb, upd_ne na]
    exact h
/-- C(self, v, w): two fields -/
def spTV2 (C : Addr) (f g : Str) : Sp := fun vs H Q _ => ∃ (a : Addr) (v w : V), vs = [.ref a, v, w] ∧ H a = some (exo a C none) ∧ ∀ dx, H dx = none → dx ≠ a → Q .non (upd (upd (upd H dx (exd dx [(f, v)])) a (exo a C (some dx))) dx (exd dx [(g, w), (f, v)]))
theorem k_mkTV2 {T : List NTab} {C : Addr} {H : Hp} {E : XK} {f g : Str} {v w : V} (t : TV T C E H [(g, w), (f, v)]) : ([v, w] : List V).length ≤ 1000 ∧ ∀ a, H a = none → spTV2 C f g (.ref a :: ([v, w] ++ [])) (upd H a (exo a C none))
    (fun u H2 => u = .non ∧ ∃ (d : Addr) (fs : List (Str × V)), H2 a = some (exo a C (some d)) ∧ H2 d = some (exd d fs) ∧ H d = none ∧ E (.ref C) (some d) (upd (del H2 a) d (.xd fs))) (fun _ _ _ => False) := by
  refine ⟨by show 2 ≤ 1000; decide, fun a ha => ⟨a, v, w, rfl, upd_same, fun dx hd hda => ⟨rfl, dx, [(g, w), (f, v)], ?_, upd_same, ?_, ?_⟩⟩⟩
  · rw [upd_ne (fun z => hda z.symm), upd_same]
  · rw [upd_ne hda] at hd; exact hd
  · rw [upd_ne hda] at hd
    refine t dx _ (.of fun b o h => ?_) upd_same
    have nb : b ≠ dx := ne_of_none h hd
    have na : b ≠ a := ne_of_none h ha
    rw [upd_ne nb, del_ne na, upd_ne nb, upd_ne na, upd_ne nb, upd_ne na]
    exact h
theorem k_callSDx {sp : Sp} {dvs : List V} {E : L2.St → XK} {tr : TA} {σ : L2.St} {H : Hp} {Q : VK} (h : tr σ H fun vs H1 => sp (vs ++ dvs) H1 Q (E σ)) : tCallSD sp dvs E tr σ H Q := h
theorem k_altVX {σ : L2.St} {H : Hp} {Q : VK} {C1 C2 : Addr} {m : Str} {t : TA} {sp1 sp2 : Sp} {E : L2.St → XK} {i : Nat} {x : V} (hs : σ[i]? = some (some x)) (h : AltR C1 C2 m sp1 sp2 (E σ) t σ x H Q) : tAlt (tMethX C1 m sp1 [] E (tVar i) t) (tMethX C2 m sp2 [] E (tVar i) t) σ H Q :=
  h.imp (fun h => ⟨x, hs, h⟩) (fun h => ⟨x, hs, h⟩)
/-! == of the same data -/
theorem shaped_lay {d : PyData} (h : SeqAt.shaped d = true) : d.canLay0 = true := by
  unfold SeqAt.shaped at h
  simp only [Bool.and_eq_true] at h
  exact h.1
theorem k_eqSame {K : PySem.W.Frag} {H : Hp} {Q : VK} {x y : V} {d : PyData} (hd : Dp K H x d) (he : Dp K H y d) (s : SeqAt.shaped d = true) (q : Q (.bl true) H) : rEqA K x y H Q := k_eqDD hd he s s (SeqAt.eqv_refl _ (shaped_lay s)) q
theorem k_neSame {K : PySem.W.Frag} {H : Hp} {Q : VK} {x y : V} {d : PyData} (hd : Dp K H x d) (he : Dp K H y d) (s : SeqAt.shaped d = true) (q : Q (.bl false) H) : rNeA K x y H Q := k_neDD hd he s s (SeqAt.eqv_refl _ (shaped_lay s)) q
theorem dp_t3 {K : PySem.W.Frag} {H : Hp} {p : Addr} {a b c : Int} (h : SqT K H p [.int a, .int b, .int c]) : Dp K H (.ref p) (.tuple [.int a, .int b, .int c]) := .tup h (.cons (.int _) (.cons (.int _) (.cons (.int _) .nil)))

end

section
open NdefX LamX
/-! ### a method of an object of one of several classes; C.__init__(self, ..) of an own class -/
theorem FnOk.weaken {P : Program} {w : World} {K : PySem.W.Frag} {mg : Str → Option Value} {base : Heap} {CX : CXT} {k : Nat} {f : Addr} {fd : FuncData} {ps : List Str} {sp sp' : Sp} (h : ∀ vs H Q E, sp' vs H Q E → sp vs H Q E) (F : FnOk P w K mg base CX k f fd ps sp) :
    FnOk P w K mg base CX k f fd ps sp' := ⟨fun vs H Q E x => F.len vs H Q E (h _ _ _ _ x), fun A outer s H args us vs Q E hr e0 hb r hsp => F.run A outer s H args us vs Q E hr e0 hb r (h _ _ _ _ hsp)⟩
theorem FnOk.none {P : Program} {w : World} {K : PySem.W.Frag} {mg : Str → Option Value} {base : Heap} {CX : CXT} {k : Nat} {f : Addr} {fd : FuncData} {ps : List Str} {sp : Sp} (h : ∀ vs H Q E, ¬ sp vs H Q E) : FnOk P w K mg base CX k f fd ps sp :=
  ⟨fun vs H Q E x => (h _ _ _ _ x).elim, fun A outer s H args us vs Q E hr e0 hb r hsp => (h _ _ _ _ hsp).elim⟩
/-- of objects of the class at C only -/
def spIn (C : Addr) (sp : Sp) : Sp := fun vs H Q E => (∃ a rest dx fs, vs = .ref a :: rest ∧ H a = some (.ins C dx fs)) ∧ sp vs H Q E
structure MFam (P : Program) (w : World) (K : PySem.W.Frag) (mg : Str → Option Value) (base : Heap) (CX : CXT) (k : Nat) (m : Str) (Fm : Addr → Prop) (sp : Sp) : Prop where
  all : ∀ C, Fm C → Cls K C ∧ ∃ (f : Addr) (fd : FuncData) (ps : List Str), Meth K C m f ∧ FnOk P w K mg base CX k f fd ps (spIn C sp) ∧ Binds K fd ps []
section
variable {X : Cx} {CX : CXT} {k : Nat} {f C : Addr} {fd : FuncData} {ps : List Str} {sp : Sp} {dvs : List V} {ds : List Value} {E : XK} {Es : L2.St → XK} {x m n : Str} {p p1 p2 pos apos : Pos} {e o : Expr} {es : List Expr} {ta : TE} {t : TA} {Fm : Addr → Prop} {mc : Value}
def tMethF (Fm : Addr → Prop) (m : Str) (sp : Sp) (E : L2.St → XK) (ta : TE) (t : TA) : TE := fun σ H Q => ta σ H fun x H1 => ∃ a C dx fs, x = .ref a ∧ H1 a = some (.ins C dx fs) ∧ Fm C ∧ fs.lookup m = none ∧
  t σ H1 fun vs H2 => (∃ dx' fs', H2 a = some (.ins C dx' fs')) ∧ sp (x :: vs) H2 Q (E σ)
theorem pe_methF {pl : Sem Bool} (he : PE X o ta) (F : MFam X.prog X.w X.K X.mg X.base CX k m Fm sp) (hr : Room k X.A) (hx : ∀ σ, PassesAt CX X σ (Es σ)) (ha : PA X (e :: es) t)
    (hst : starEach (e :: es) X.env = (false, eval e X.env) :: starEach es X.env := by rfl) (hpl : (backTo pos (starEach es X.env)).any (·.1) = false := by rfl)
    (ht : eval (.Call (.Attribute o m apos) (e :: es) [] pos) X.env = (do
      let ov ← eval o X.env
      standAt apos.atName
      let (f, first) ← holding [ov] (getMethod ov m pl)
      callWith pos f first (backTo pos (starEach (e :: es) X.env)) (backToKw pos (keywordEach [] X.env))) := by rfl) :
    PE X (.Call (.Attribute o m apos) (e :: es) [] pos) (tMethF Fm m sp Es ta t) := by
  refine ⟨fun pins s σ H Q I h => ?_⟩
  refine PySem.W.methodCall_KW (pl := pl) (thn (he.run pins s σ H _ I h) fun u s1 ⟨x, H1, I1, rx, a, C, dx, fs, ex, ea, hf, l, q⟩ => ?_) ht
  subst ex
  obtain rfl : u = Value.ref a := rx
  obtain ⟨c, f, fd, ps, hm, G, hb⟩ := F.all C hf
  refine getmeth_ok I1 ea c hm l ?_
  refine PySem.W.callWith_K (first := [.ref a]) (h₀ := X.base) I.ok.mod.kin hm.kp (thn (ha.run pos pins s1 σ H1 _ I1 q) fun us s2 ⟨vs, H2, I2, r, ⟨dx', fs', e2⟩, q2⟩ => ⟨I2.kIn, ?_⟩) hst hpl
  exact run_fnS (us := .ref a :: us) (vs := .ref a :: vs) G hr hb (hx σ) I2 (.cons rfl r) ⟨⟨a, vs, dx', fs', rfl, e2⟩, q2⟩
theorem pe_methF0 {pl : Sem Bool} (he : PE X o ta) (F : MFam X.prog X.w X.K X.mg X.base CX k m Fm sp) (hr : Room k X.A) (hx : ∀ σ, PassesAt CX X σ (Es σ))
    (ht : eval (.Call (.Attribute o m apos) [] [] pos) X.env = (do
      let ov ← eval o X.env
      standAt apos.atName
      let (f, first) ← holding [ov] (getMethod ov m pl)
      callWith pos f first (backTo pos (starEach [] X.env)) (backToKw pos (keywordEach [] X.env))) := by rfl) :
    PE X (.Call (.Attribute o m apos) [] [] pos) (tMethF Fm m sp Es ta tNil) := by
  refine ⟨fun pins s σ H Q I h => ?_⟩
  refine PySem.W.methodCall_KW (pl := pl) (thn (he.run pins s σ H _ I h) fun u s1 ⟨x, H1, I1, rx, a, C, dx, fs, ex, ea, hf, l, q⟩ => ?_) ht
  subst ex
  obtain rfl : u = Value.ref a := rx
  obtain ⟨c, f, fd, ps, hm, G, hb⟩ := F.all C hf
  refine getmeth_ok I1 ea c hm l ?_
  obtain ⟨⟨dx', fs', e2⟩, q2⟩ := q
  exact PySem.W.callWith_K0 (first := [.ref a]) I1.kIn hm.kp (run_fnS (us := [.ref a]) (vs := [.ref a]) G hr hb (hx σ) I1 (.cons rfl .nil) ⟨⟨a, [], dx', fs', rfl, e2⟩, q2⟩)
theorem pass0s {X : Cx} (σ : L2.St) : PassesAt CX0 X σ E0 := fun _ _ _ _ _ _ h => False.elim h
/-- C0.__init__(self, ..) -/
theorem pe_cinit {pl : Sem Bool} {C0 : Addr} (hg : Gl X n) (hm : X.mg n = some (.ref C0)) (r : ClX.CRead X.K C0 mc) (vV : PySem.W.findCls X.K (.ref C0) mc "__init__" = some (.val (.ref f))) (hk : PySem.W.keepIn X.K (.ref f) = true)
    (F : FnOk X.prog X.w X.K X.mg X.base CX k f fd ps sp) (hr : Room k X.A) (hb : Binds X.K fd ps ds) (hd' : Vals dvs ds) (hx : Passes CX X E) (ha : PA X (e :: es) t)
    (hc : eval (.Call (.Attribute (.Name n p1) "__init__" p2) (e :: es) [] pos) X.env = (do
      let ov ← eval (.Name n p1) X.env
      standAt p2.atName
      let (f, first) ← holding [ov] (getMethod ov "__init__" pl)
      callWith pos f first (backTo pos (starEach (e :: es) X.env)) (backToKw pos (keywordEach [] X.env))) := by rfl)
    (hd : (n == ("__debug__" : Str)) = false := by decide)
    (he : starEach (e :: es) X.env = (false, eval e X.env) :: starEach es X.env := by rfl) (hpl : (backTo pos (starEach es X.env)).any (·.1) = false := by rfl) :
    PE X (.Call (.Attribute (.Name n p1) "__init__" p2) (e :: es) [] pos) (tCall sp dvs E t) := by
  refine ⟨fun pins s σ H Q I h => ?_⟩
  refine PySem.W.methodCall_KW (ld_glob I hg hm ?_ hd) hc
  refine PySem.W.method_cls I.kIn r.ga ?_
  refine PySem.W.cls_value I.kIn r.rd vV rfl ?_
  refine PySem.W.callWith_K (first := []) (h₀ := X.base) I.ok.mod.kin hk (thn (ha.run pos pins _ σ H _ (I.tok _) h) fun us s2 ⟨vs, H2, I2, rr, q2⟩ => ⟨I2.kIn, ?_⟩) he hpl
  exact run_fn F hr hb hd' hx I2 rr q2
end
section
variable {K : PySem.W.Frag} {σ : L2.St} {H : Hp} {Q : VK} {a C dx : Addr} {fs : List (Str × V)} {m : Str} {ta : TE} {t : TA} {sp : Sp} {E : L2.St → XK} {Fm : Addr → Prop} {x : V}
def MetF (Fm : Addr → Prop) (m : Str) (sp : Sp) (E : XK) (t : TA) (σ : L2.St) (x : V) (H1 : Hp) (Q : VK) : Prop := ∃ a C dx fs, x = .ref a ∧ H1 a = some (.ins C dx fs) ∧ Fm C ∧ fs.lookup m = none ∧ t σ H1 fun vs H2 => (∃ dx' fs', H2 a = some (.ins C dx' fs')) ∧ sp (x :: vs) H2 Q E
theorem k_callD {sp : Sp} {v : V} {dvs : List V} {E : XK} {Q : VK} {tr : TA} (h : tr σ H fun vs H1 => sp (vs ++ (v :: dvs)) H1 Q E) : tCall sp (v :: dvs) E tr σ H Q := h
theorem k_metF' (h : ta σ H fun x H1 => MetF Fm m sp (E σ) t σ x H1 Q) : tMethF Fm m sp E ta t σ H Q := h
theorem k_metF {E : XK} (h : H a = some (.ins C dx fs)) (hf : Fm C) (l : fs.lookup m = none) (q : t σ H fun vs H2 => (∃ dx' fs', H2 a = some (.ins C dx' fs')) ∧ sp (.ref a :: vs) H2 Q E) : MetF Fm m sp E t σ (.ref a) H Q := ⟨a, C, dx, fs, rfl, h, hf, l, q⟩
theorem k_metF0 {E : XK} (h : H a = some (.ins C dx fs)) (hf : Fm C) (l : fs.lookup m = none) (q : sp [.ref a] H Q E) : MetF Fm m sp E tNil σ (.ref a) H Q := ⟨a, C, dx, fs, rfl, h, hf, l, ⟨dx, fs, h⟩, q⟩
end
structure InsT (K : PySem.W.Frag) (C : Addr) : Prop where
  cl : Cls K C
  ha : PySem.W.findIn K (.ref C) "__class__" = some (some (.builtin "object.__class__"))
  hn : PySem.W.specialIn K (.builtin "object.__class__") "__get__" = some (some (.builtin "getset_descriptor.__get__"))
  htk : PySem.W.takesIn K (.builtin "object.__class__") = some true
  hm : PySem.W.mroIn K C (.type "object") = some true
theorem k_isi_insX {K : PySem.W.Frag} {H : Hp} {Q : VK} {a C D dx : Addr} {fs : List (Str × V)} {b : Bool} (h : H a = some (.ins C dx fs)) (i : InsT K C) (hk : PySem.W.kitOne K (.ref C) (.ref D) = some b) (q : Q (.bl b) H) : rIsi K [.ref a, .ref D] H Q :=
  ⟨.ref a, .ref D, .ref C, .ref D, b, rfl, .own D, .base (.ins h i.cl i.ha i.hn i.htk i.hm), hk, q⟩
theorem sm_addX {i j : Int} {a : Nat} (h : Sm a i) (h' : Sm a j) : Sm (a + 1) (i + j) := by
  have h1 := h.h
  have h2 := h'.h
  refine ⟨?_⟩
  rw [Nat.pow_succ]; omega
theorem sm_subX {i j : Int} {a : Nat} (h : Sm a i) (h' : Sm a j) : Sm (a + 1) (i - j) := by
  have h1 := h.h
  have h2 := h'.h
  refine ⟨?_⟩
  rw [Nat.pow_succ]; omega

end

section
open NdefX LamX
/-! ### the order of dates -/
abbrev D3 := Int × Int × Int
def d3V (d : D3) : List V := [.int d.1, .int d.2.1, .int d.2.2]
def lt3 (a b : D3) : Prop := a.1 < b.1 ∨ (a.1 = b.1 ∧ (a.2.1 < b.2.1 ∨ (a.2.1 = b.2.1 ∧ a.2.2 < b.2.2)))
instance (a b : D3) : Decidable (lt3 a b) := by unfold lt3; exact inferInstance
theorem lt3_irr (a : D3) : ¬ lt3 a a := by unfold lt3; omega
theorem lt3_trans {a b c : D3} (h : lt3 a b) (h' : lt3 b c) : lt3 a c := by unfold lt3 at *; omega
theorem lt3_asym {a b : D3} (h : lt3 a b) : ¬ lt3 b a := by unfold lt3 at *; omega
theorem lt3_ge {a b c : D3} (h : ¬ lt3 b a) (h' : lt3 b c) : lt3 a c := by unfold lt3 at *; omega
theorem lt3_ge' {a b c : D3} (h : lt3 a b) (h' : ¬ lt3 c b) : lt3 a c := by unfold lt3 at *; omega
theorem lt3_cases {a b : D3} (h : ¬ lt3 a b) (h' : ¬ lt3 b a) : a = b := by
  obtain ⟨a1, a2, a3⟩ := a
  obtain ⟨b1, b2, b3⟩ := b
  unfold lt3 at *
  simp only at *
  have e1 : a1 = b1 := by omega
  have e2 : a2 = b2 := by omega
  have e3 : a3 = b3 := by omega
  rw [e1, e2, e3]
def rGeT (K : PySem.W.Frag) : R2 := fun x y H Q => ∃ (a b : Addr) (ns ms : List Int), x = .ref a ∧ y = .ref b ∧ SqT K H a (ns.map V.int) ∧ SqT K H b (ms.map V.int) ∧
  Q (.bl (Ob.lexAt (fun j => decide (ns.getD j 0 = ms.getD j 0)) (fun j => decide (ms.getD j 0 ≤ ns.getD j 0)) (decide (ns.length ≥ ms.length)) 0 (min ns.length ms.length))) H
theorem op_geT {X : Cx} (hu : X.A.units < cLine) : OpR X (compareOp .GtE) (rGeT X.K) := by
  intro pins s σ H x y v u Q I rx ry h
  obtain ⟨a, b, ns, ms, rfl, rfl, ha, hb, q⟩ := h
  cases rx
  cases ry
  obtain ⟨its, r1, p1, _⟩ := I.tuple ha
  obtain ⟨its2, r2, p2, _⟩ := I.tuple hb
  have i1 : IntsAre its ns := Vals.ints r1
  have i2 : IntsAre its2 ms := Vals.ints r2
  have e1 : its.toArray.size = ns.length := by rw [List.size_toArray]; exact i1.length
  have e2 : its2.toArray.size = ms.length := by rw [List.size_toArray]; exact i2.length
  have at1 : ∀ j (h1 : j < its.toArray.size), ∃ t, its.toArray[j] = .int (ns.getD j 0) t := fun j h1 => PyProof.Rows.IntsAre.int_at i1 _ _ (by simp at h1; simp [h1])
  have at2 : ∀ j (h1 : j < its2.toArray.size), ∃ t, its2.toArray[j] = .int (ms.getD j 0) t := fun j h1 => PyProof.Rows.IntsAre.int_at i2 _ _ (by simp at h1; simp [h1])
  have R := Ob.RcOp.tuples_ge (A := X.A) (s := s) (e := fun j => decide (ns.getD j 0 = ms.getD j 0)) (r := fun j => decide (ms.getD j 0 ≤ ns.getD j 0)) p1 p2 hu (fun j h1 h2 => by
    obtain ⟨t, et⟩ := at1 j h1
    obtain ⟨t', et'⟩ := at2 j h2
    rw [et, et']
    have z : (ns.getD j 0 == ms.getD j 0) = decide (ns.getD j 0 = ms.getD j 0) := by
      by_cases q : ns.getD j 0 = ms.getD j 0
      · rw [decide_eq_true q]; exact beq_iff_eq.mpr q
      · rw [decide_eq_false q]; exact beq_eq_false_iff_ne.mpr q
    rw [← z]
    exact SeqAt.EqAt.int_int _ _ _ _) (fun j h1 h2 _ => by
    obtain ⟨t, et⟩ := at1 j h1
    obtain ⟨t', et'⟩ := at2 j h2
    rw [et, et']
    exact Ob.RcOp.ge_int _ _ _ _)
  rw [e1, e2] at R
  have z : wpAny (model X.prog X.w) X.A (compareOp .GtE (.ref a) (.ref b)) (EP X pins σ Q) X.xe s := R X.prog X.w X.xe (EP X pins σ Q) ⟨.bl _, H, I, rfl, q⟩
  exact z
section
variable {X : Cx} (K : PySem.W.Frag) (hK : X.K = K := by rfl) (hu : X.A.units + 64 < cLine)
include hK hu
theorem kb_ltT : OpR X (compareOp .Lt) (rLtT K) := hK ▸ op_ltT (Nat.lt_of_le_of_lt (Nat.le_add_right _ 64) hu)
theorem kb_leT : OpR X (compareOp .LtE) (rLeT K) := hK ▸ op_leT (Nat.lt_of_le_of_lt (Nat.le_add_right _ 64) hu)
theorem kb_geT : OpR X (compareOp .GtE) (rGeT K) := hK ▸ op_geT (Nat.lt_of_le_of_lt (Nat.le_add_right _ 64) hu)
end
theorem nb_dec {b : Bool} {p : Prop} [Decidable p] (h : b = true ↔ ¬ p) : b = !decide p := by
  rw [← decide_not]; exact b_dec h
section
variable {K : PySem.W.Frag} {H : Hp} {Q : VK} {p q : Addr} {a b : D3}
theorem k_ltT (h1 : SqT K H p (d3V a)) (h2 : SqT K H q (d3V b)) (r : Q (.bl (decide (lt3 a b))) H) : rLtT K (.ref p) (.ref q) H Q := by
  refine ⟨p, q, [a.1, a.2.1, a.2.2], [b.1, b.2.1, b.2.2], rfl, rfl, h1, h2, ?_⟩
  have e : HT.lexLt [a.1, a.2.1, a.2.2] [b.1, b.2.1, b.2.2] = decide (lt3 a b) := by
    refine b_dec ?_
    unfold lt3
    simp only [HT.lexLt]
    by_cases c1 : a.1 = b.1
    · by_cases c2 : a.2.1 = b.2.1
      · by_cases c3 : a.2.2 = b.2.2
        · simp [c1, c2, c3]
        · simp [c1, c2, c3]
      · simp [c1, c2]
    · simp [c1]
  rw [e]; exact r
theorem k_leT (h1 : SqT K H p (d3V a)) (h2 : SqT K H q (d3V b)) (r : Q (.bl (!decide (lt3 b a))) H) : rLeT K (.ref p) (.ref q) H Q := by
  refine ⟨p, q, [a.1, a.2.1, a.2.2], [b.1, b.2.1, b.2.2], rfl, rfl, h1, h2, ?_⟩
  have e : Ob.lexAt (fun j => decide (([a.1, a.2.1, a.2.2] : List Int).getD j 0 = ([b.1, b.2.1, b.2.2] : List Int).getD j 0)) (fun j => decide (([a.1, a.2.1, a.2.2] : List Int).getD j 0 ≤ ([b.1, b.2.1, b.2.2] : List Int).getD j 0)) (decide (([a.1, a.2.1, a.2.2] : List Int).length ≤ ([b.1, b.2.1, b.2.2] : List Int).length)) 0 (min ([a.1, a.2.1, a.2.2] : List Int).length ([b.1, b.2.1, b.2.2] : List Int).length) = !decide (lt3 b a) := by
    refine nb_dec ?_
    unfold lt3
    show Ob.lexAt _ _ _ 0 3 = true ↔ _
    simp only [Ob.lexAt, List.getD_cons_zero, List.getD_cons_succ]
    by_cases c1 : a.1 = b.1
    · rw [decide_eq_true c1, if_pos rfl]
      by_cases c2 : a.2.1 = b.2.1
      · rw [decide_eq_true c2, if_pos rfl]
        by_cases c3 : a.2.2 = b.2.2
        · rw [decide_eq_true c3, if_pos rfl]
          exact ⟨fun _ => by omega, fun _ => by simp⟩
        · rw [decide_eq_false c3, if_neg (by decide), decide_eq_true_iff]
          omega
      · rw [decide_eq_false c2, if_neg (by decide), decide_eq_true_iff]
        omega
    · rw [decide_eq_false c1, if_neg (by decide), decide_eq_true_iff]
      omega
  rw [e]; exact r
theorem k_geT (h1 : SqT K H p (d3V a)) (h2 : SqT K H q (d3V b)) (r : Q (.bl (!decide (lt3 a b))) H) : rGeT K (.ref p) (.ref q) H Q := by
  refine ⟨p, q, [a.1, a.2.1, a.2.2], [b.1, b.2.1, b.2.2], rfl, rfl, h1, h2, ?_⟩
  have e : Ob.lexAt (fun j => decide (([a.1, a.2.1, a.2.2] : List Int).getD j 0 = ([b.1, b.2.1, b.2.2] : List Int).getD j 0)) (fun j => decide (([b.1, b.2.1, b.2.2] : List Int).getD j 0 ≤ ([a.1, a.2.1, a.2.2] : List Int).getD j 0)) (decide (([a.1, a.2.1, a.2.2] : List Int).length ≥ ([b.1, b.2.1, b.2.2] : List Int).length)) 0 (min ([a.1, a.2.1, a.2.2] : List Int).length ([b.1, b.2.1, b.2.2] : List Int).length) = !decide (lt3 a b) := by
    refine nb_dec ?_
    unfold lt3
    show Ob.lexAt _ _ _ 0 3 = true ↔ _
    simp only [Ob.lexAt, List.getD_cons_zero, List.getD_cons_succ]
    by_cases c1 : a.1 = b.1
    · rw [decide_eq_true c1, if_pos rfl]
      by_cases c2 : a.2.1 = b.2.1
      · rw [decide_eq_true c2, if_pos rfl]
        by_cases c3 : a.2.2 = b.2.2
        · rw [decide_eq_true c3, if_pos rfl]
          exact ⟨fun _ => by omega, fun _ => by simp⟩
        · rw [decide_eq_false c3, if_neg (by decide), decide_eq_true_iff]
          omega
      · rw [decide_eq_false c2, if_neg (by decide), decide_eq_true_iff]
        omega
    · rw [decide_eq_false c1, if_neg (by decide), decide_eq_true_iff]
      omega
  rw [e]; exact r
end
/-! ### calendars, and changes of them -/
inductive Chg where
  | base (c : Cal)
  | chg (o n : Chg) (t : Int) (l f : D3)
def Chg.date : Chg → Int → D3 → Prop
  | .base c, x, d => DateIs c x d.1 d.2.1 d.2.2
  | .chg o n t _ _, x, d => if x < t then o.date x d else n.date x d
inductive DayR where
  | day (x : Int)
  | no
  | gap (t : Int)
open Classical in
noncomputable def Chg.day : Chg → D3 → DayR
  | .base c, d => if GoodD c d.1 d.2.1 d.2.2 then .day (dayOf c d.1 d.2.1 d.2.2) else .no
  | .chg o n t l f, d => if ¬ lt3 l d then o.day d else if ¬ lt3 d f then n.day d else .gap t
def Chg.Ok : Chg → Prop
  | .base c => c.Ok ∧ Sm 400 c.st
  | .chg o n t l f => o.Ok ∧ n.Ok ∧ o.date (t - 1) l ∧ n.date t f ∧ lt3 l f ∧ Sm 400 t ∧ Sm 4000 l.1 ∧ Sm 4000 f.1
def Chg.dep : Chg → Nat
  | .base _ => 1
  | .chg o n _ _ _ => max o.dep n.dep + 1
def cfs (po pn : Addr) (t : Int) (pl pf : Addr) : List (Str × V) := [("old", .ref po), ("new", .ref pn), ("day", .int t), ("last", .ref pl), ("first", .ref pf)]
def Chg.At (K : PySem.W.Frag) (cs co cm cx : Addr) (H : Hp) : Chg → Addr → Prop
  | .base c, a => CalAt K cs co cm H a c
  | .chg o n t l f, a => ∃ dx po pn pl pf, H a = some (.ins cx dx (cfs po pn t pl pf)) ∧ SqT K H pl (d3V l) ∧ SqT K H pf (d3V f) ∧ o.At K cs co cm cx H po ∧ n.At K cs co cm cx H pn
theorem Chg.At.mono {T : List NTab} {K : PySem.W.Frag} {cs co cm cx : Addr} {H H' : Hp} (s : SameT T H H') : ∀ {c : Chg} {a : Addr}, c.At K cs co cm cx H a → c.At K cs co cm cx H' a
  | .base c, a, h => CalAt.mono s h
  | .chg o n t l f, a, h => by
    obtain ⟨dx, po, pn, pl, pf, h1, h2, h3, h4, h5⟩ := h
    exact ⟨dx, po, pn, pl, pf, s.ins h1, s.sqt h2, s.sqt h3, Chg.At.mono s h4, Chg.At.mono s h5⟩
theorem date_lt {c : Cal} (ok : c.Ok) {x x' : Int} {d d' : D3} (h : DateIs c x d.1 d.2.1 d.2.2) (h' : DateIs c x' d'.1 d'.2.1 d'.2.2) (hx : x < x') : lt3 d d' := by
  obtain ⟨a1, a2⟩ := h.year ok
  obtain ⟨b1, b2⟩ := h'.year ok
  by_cases c1 : d.1 < d'.1
  · exact .inl c1
  have e1 : d.1 = d'.1 := by
    by_cases c2 : d'.1 < d.1
    · have := c.le ok (show d'.1 + 1 ≤ d.1 by omega); omega
    · omega
  refine .inr ⟨e1, ?_⟩
  have nn := nn_of (c.bd ok d.1)
  have e := h.e
  have e' := h'.e
  unfold dayOf at e e'
  rw [← e1] at e'
  have h1 := h.m1
  have h2 := h.m2
  have h3 := h.d1
  have h4 := h.d2
  have g1 := h'.m1
  have g2 := h'.m2
  have g3 := h'.d1
  have g4 := h'.d2
  rw [← e1] at g2 g4
  have p1 := pre_succ (L := c.lens d.1) (i := (d.2.1 - 1).toNat) (by omega)
  have p1' := pre_succ (L := c.lens d.1) (i := (d'.2.1 - 1).toNat) (by omega)
  by_cases c2 : d.2.1 < d'.2.1
  · exact .inl c2
  by_cases c3 : d'.2.1 < d.2.1
  · have := pre_le nn (show (d'.2.1 - 1).toNat + 1 ≤ (d.2.1 - 1).toNat by omega)
    omega
  have e2 : d.2.1 = d'.2.1 := by omega
  rw [e2] at e
  exact .inr ⟨e2, by omega⟩
theorem Chg.uniq : ∀ {c : Chg}, c.Ok → ∀ {x : Int} {d d' : D3}, c.date x d → c.date x d' → d = d'
  | .base c, ok, x, d, d', h, h' => by
    obtain ⟨e1, e2, e3⟩ := DateIs.uniq ok.1 h h'
    obtain ⟨a, b, c⟩ := d
    obtain ⟨a', b', c'⟩ := d'
    simp only at e1 e2 e3
    rw [e1, e2, e3]
  | .chg o n t l f, ok, x, d, d', h, h' => by
    obtain ⟨k1, k2, _⟩ := ok
    unfold Chg.date at h h'
    by_cases c1 : x < t
    · rw [if_pos c1] at h h'; exact Chg.uniq k1 h h'
    · rw [if_neg c1] at h h'; exact Chg.uniq k2 h h'
theorem Chg.lt : ∀ {c : Chg}, c.Ok → ∀ {x x' : Int} {d d' : D3}, c.date x d → c.date x' d' → x < x' → lt3 d d'
  | .base c, ok, x, x', d, d', h, h', hx => date_lt ok.1 h h' hx
  | .chg o n t l f, ok, x, x', d, d', h, h', hx => by
    obtain ⟨k1, k2, k3, k4, k5, _⟩ := ok
    unfold Chg.date at h h'
    by_cases c1 : x < t
    · rw [if_pos c1] at h
      have hl : ¬ lt3 l d := fun z => by
        by_cases e : x = t - 1
        · subst e
          -- the same day
          exact lt3_irr _ (by
            have := Chg.uniq k1 h k3
            rw [this] at z; exact z)
        · exact lt3_asym (Chg.lt k1 h k3 (by omega)) z
      by_cases c2 : x' < t
      · rw [if_pos c2] at h'
        exact Chg.lt k1 h h' hx
      · rw [if_neg c2] at h'
        have hf : ¬ lt3 d' f := fun z => by
          by_cases e : x' = t
          · subst e
            have := Chg.uniq k2 h' k4
            rw [this] at z; exact lt3_irr _ z
          · exact lt3_asym (Chg.lt k2 k4 h' (by omega)) z
        exact lt3_ge' (lt3_ge hl k5) hf
    · rw [if_neg c1] at h
      rw [if_neg (show ¬ x' < t by omega)] at h'
      exact Chg.lt k2 h h' hx
theorem Chg.day_of : ∀ {c : Chg}, c.Ok → ∀ {x : Int} {d : D3}, c.date x d → c.day d = .day x
  | .base c, ok, x, d, h => by
    have h : DateIs c x d.1 d.2.1 d.2.2 := h
    unfold Chg.day
    rw [if_pos h.good, ← h.e]
  | .chg o n t l f, ok, x, d, h => by
    obtain ⟨k1, k2, k3, k4, k5, _⟩ := ok
    unfold Chg.date at h
    unfold Chg.day
    by_cases c1 : x < t
    · rw [if_pos c1] at h
      have hl : ¬ lt3 l d := fun z => by
        by_cases e : x = t - 1
        · subst e
          rw [Chg.uniq k1 h k3] at z; exact lt3_irr _ z
        · exact lt3_asym (Chg.lt k1 h k3 (by omega)) z
      rw [if_pos hl]
      exact Chg.day_of k1 h
    · rw [if_neg c1] at h
      have hf : ¬ lt3 d f := fun z => by
        by_cases e : x = t
        · subst e
          rw [Chg.uniq k2 h k4] at z; exact lt3_irr _ z
        · exact lt3_asym (Chg.lt k2 k4 h (by omega)) z
      rw [if_neg (fun z => z (lt3_ge' k5 hf)), if_pos hf]
      exact Chg.day_of k2 h
theorem Chg.of_day : ∀ {c : Chg}, c.Ok → ∀ {x : Int} {d : D3}, c.day d = .day x → c.date x d
  | .base c, ok, x, d, h => by
    unfold Chg.day at h
    by_cases g : GoodD c d.1 d.2.1 d.2.2
    · rw [if_pos g] at h
      have e : dayOf c d.1 d.2.1 d.2.2 = x := by injection h
      rw [← e]; exact g.is
    · rw [if_neg g] at h; cases h
  | .chg o n t l f, ok, x, d, h => by
    obtain ⟨k1, k2, k3, k4, k5, _⟩ := ok
    unfold Chg.day at h
    unfold Chg.date
    by_cases c1 : lt3 l d
    · rw [if_neg (fun z => z c1)] at h
      by_cases c2 : lt3 d f
      · rw [if_neg (fun z => z c2)] at h; cases h
      · rw [if_pos c2] at h
        have hd := Chg.of_day k2 h
        by_cases c3 : x < t
        · exact absurd (Chg.lt k2 hd k4 c3) c2
        · rw [if_neg c3]; exact hd
    · rw [if_pos c1] at h
      have hd := Chg.of_day k1 h
      by_cases c3 : x < t
      · rw [if_pos c3]; exact hd
      · exact absurd (Chg.lt k1 k3 hd (by omega)) c1
/-! the fields of a change -/
theorem cfs_get (po pn : Addr) (t : Int) (pl pf : Addr) : (cfs po pn t pl pf).lookup ("old" : Str) = some (.ref po) ∧ (cfs po pn t pl pf).lookup ("new" : Str) = some (.ref pn) ∧ (cfs po pn t pl pf).lookup ("day" : Str) = some (.int t) ∧ (cfs po pn t pl pf).lookup ("last" : Str) = some (.ref pl) ∧ (cfs po pn t pl pf).lookup ("first" : Str) = some (.ref pf) := by
  have e1 : (("new" : Str) == "old") = false := by decide +kernel
  have e2 : (("day" : Str) == "old") = false := by decide +kernel
  have e3 : (("day" : Str) == "new") = false := by decide +kernel
  have e4 : (("last" : Str) == "old") = false := by decide +kernel
  have e5 : (("last" : Str) == "new") = false := by decide +kernel
  have e6 : (("last" : Str) == "day") = false := by decide +kernel
  have e7 : (("first" : Str) == "old") = false := by decide +kernel
  have e8 : (("first" : Str) == "new") = false := by decide +kernel
  have e9 : (("first" : Str) == "day") = false := by decide +kernel
  have e10 : (("first" : Str) == "last") = false := by decide +kernel
  simp [cfs, List.lookup, e1, e2, e3, e4, e5, e6, e7, e8, e9, e10]
theorem cfs_p (po pn : Addr) (t : Int) (pl pf : Addr) : putF "first" (.ref pf) (putF "last" (.ref pl) (putF "day" (.int t) (putF "new" (.ref pn) (putF "old" (.ref po) [])))) = cfs po pn t pl pf := by
  have e : ∀ (k : Str) (v : V), putF k v [] = [(k, v)] := fun _ _ => rfl
  have c : ∀ {f g : Str} {v w : V} {r : List (Str × V)}, g ≠ f → putF f v ((g, w) :: r) = (g, w) :: putF f v r := fun h => putF_ne h
  have h1 : putF "new" (.ref pn) (putF "old" (.ref po) []) = [(("old" : Str), V.ref po), (("new" : Str), V.ref pn)] := by rw [e, c (by decide +kernel), e]
  have h2 : putF "day" (.int t) [(("old" : Str), V.ref po), (("new" : Str), V.ref pn)] = [(("old" : Str), V.ref po), (("new" : Str), V.ref pn), (("day" : Str), V.int t)] := by rw [c (by decide +kernel), c (by decide +kernel), e]
  have h3 : putF "last" (.ref pl) [(("old" : Str), V.ref po), (("new" : Str), V.ref pn), (("day" : Str), V.int t)] = [(("old" : Str), V.ref po), (("new" : Str), V.ref pn), (("day" : Str), V.int t), (("last" : Str), V.ref pl)] := by rw [c (by decide +kernel), c (by decide +kernel), c (by decide +kernel), e]
  rw [h1, h2, h3, c (by decide +kernel), c (by decide +kernel), c (by decide +kernel), c (by decide +kernel), e]
  rfl
theorem cfs_no (po pn : Addr) (t : Int) (pl pf : Addr) {m : Str} (h1 : (m == ("old" : Str)) = false) (h2 : (m == ("new" : Str)) = false) (h3 : (m == ("day" : Str)) = false) (h4 : (m == ("last" : Str)) = false) (h5 : (m == ("first" : Str)) = false) : (cfs po pn t pl pf).lookup m = none := by
  simp [cfs, List.lookup, h1, h2, h3, h4, h5]
/-! ### promises of the methods -/
structure CCls where
  s : Addr
  o : Addr
  m : Addr
  x : Addr
def Chg.AtC (K : PySem.W.Frag) (cc : CCls) (H : Hp) (c : Chg) (a : Addr) : Prop := c.At K cc.s cc.o cc.m cc.x H a
theorem Chg.AtC.mono {T : List NTab} {K : PySem.W.Frag} {cc : CCls} {H H' : Hp} {c : Chg} {a : Addr} (h : c.AtC K cc H a) (s : SameT T H H') : c.AtC K cc H' a := Chg.At.mono s h
def CCls.fam (cc : CCls) (C : Addr) : Prop := C = cc.s ∨ C = cc.o ∨ C = cc.x
structure CNd (cc : CCls) : Prop where
  so : cc.s ≠ cc.o
  sx : cc.s ≠ cc.x
  ox : cc.o ≠ cc.x
def spDate (K : PySem.W.Frag) (cc : CCls) (TB : List NTab) (D : Nat) : Sp := fun vs H Q _ => ∃ (a : Addr) (c : Chg) (x : Int), vs = [.ref a, .int x] ∧ c.AtC K cc H a ∧ c.Ok ∧ c.dep ≤ D ∧ Sm 1000 x ∧ TabsN TB H ∧
  ∀ (p : Addr) (H' : Hp) (d : D3), New H p → SameT TB H H' → H' p = some (.tup (d3V d)) → c.date x d → Sm 2100 d.1 → Q (.ref p) H'
def DayQ (TB : List NTab) (cN cG : Addr) (p : Addr) (r : DayR) (H : Hp) (Q : VK) (E : XK) : Prop := match r with
  | .day x => ∀ H', SameT TB H H' → Q (.int x) H'
  | .no => TV TB cN E H [("date", .ref p)]
  | .gap g => TV TB cG E H [("day", .int g), ("date", .ref p)]
theorem DayQ.mono {TB : List NTab} {cN cG p : Addr} {r : DayR} {H H1 : Hp} {Q : VK} {E : XK} (h : DayQ TB cN cG p r H Q E) (s : SameT TB H H1) : DayQ TB cN cG p r H1 Q E := by
  cases r with
  | day x => exact fun H' s' => h H' (s.trans s')
  | no => exact TV.mono h s
  | gap g => exact TV.mono h s
def spDay (K : PySem.W.Frag) (cc : CCls) (TB : List NTab) (cN cG : Addr) (D : Nat) : Sp := fun vs H Q E => ∃ (a : Addr) (c : Chg) (p : Addr) (d : D3), vs = [.ref a, .ref p] ∧ c.AtC K cc H a ∧ c.Ok ∧ c.dep ≤ D ∧ SqT K H p (d3V d) ∧ Sm 4700 d.1 ∧ TabsN TB H ∧ DayQ TB cN cG p (c.day d) H Q E
theorem dep_pos1 (c : Chg) : 1 ≤ c.dep := by cases c <;> simp [Chg.dep]
theorem spDate_zero {K : PySem.W.Frag} {cc : CCls} {TB : List NTab} {vs : List V} {H : Hp} {Q : VK} {E : XK} (h : spDate K cc TB 0 vs H Q E) : False := by
  obtain ⟨a, c, x, _, _, _, hd, _⟩ := h
  have := dep_pos1 c; omega
theorem spDay_zero {K : PySem.W.Frag} {cc : CCls} {TB : List NTab} {cN cG : Addr} {vs : List V} {H : Hp} {Q : VK} {E : XK} (h : spDay K cc TB cN cG 0 vs H Q E) : False := by
  obtain ⟨a, c, p, d, _, _, _, hd, _⟩ := h
  have := dep_pos1 c; omega
/-- an object of the sun's or the moon's class is no change -/
theorem Chg.ins {K : PySem.W.Frag} {cc : CCls} {H : Hp} {c : Chg} {a : Addr} (h : c.AtC K cc H a) : ∃ C dx fs, H a = some (.ins C dx fs) ∧ cc.fam C ∧ fs ≠ [] ∧ fs.lookup ("date_of" : Str) = none ∧ fs.lookup ("day_of" : Str) = none ∧ ((C = cc.x ∧ ∃ o n t l f, c = .chg o n t l f) ∨ ∃ b, c = .base b ∧ CalAt K cc.s cc.o cc.m H a b) := by
  cases c with
  | base b =>
    have hb : CalAt K cc.s cc.o cc.m H a b := h
    cases b with
    | sun =>
      obtain ⟨dx, pm, py, h1, h2, h3⟩ := id hb
      exact ⟨_, _, _, h1, .inl rfl, by simp [sfs], sfs_no _ _ _ _ noF_date_of.s noF_date_of.mo noF_date_of.l noF_date_of.y, sfs_no _ _ _ _ noF_day_of.s noF_day_of.mo noF_day_of.l noF_day_of.y, .inr ⟨_, rfl, hb⟩⟩
    | moon =>
      obtain ⟨dx, pd, pm, h1, h2, h3⟩ := id hb
      exact ⟨_, _, _, h1, .inr (.inl rfl), by simp [mofs], mofs_no _ _ _ noF_date_of.s noF_date_of.d noF_date_of.ma, mofs_no _ _ _ noF_day_of.s noF_day_of.d noF_day_of.ma, .inr ⟨_, rfl, hb⟩⟩
  | chg o n t l f =>
    obtain ⟨dx, po, pn, pl, pf, h1, _⟩ := h
    refine ⟨_, _, _, h1, .inr (.inr rfl), by simp [cfs], ?_, ?_, .inl ⟨rfl, _, _, _, _, _, rfl⟩⟩
    · exact cfs_no (m := "date_of") _ _ _ _ _ (by decide +kernel) (by decide +kernel) (by decide +kernel) (by decide +kernel) (by decide +kernel)
    · exact cfs_no (m := "day_of") _ _ _ _ _ (by decide +kernel) (by decide +kernel) (by decide +kernel) (by decide +kernel) (by decide +kernel)
theorem base_of {K : PySem.W.Frag} {cc : CCls} {H : Hp} {c : Chg} {a C dx : Addr} {fs : List (Str × V)} (h : c.AtC K cc H a) (hi : H a = some (.ins C dx fs)) (hC : C ≠ cc.x) : ∃ b, c = .base b ∧ CalAt K cc.s cc.o cc.m H a b := by
  obtain ⟨C', dx', fs', h1, _, _, _, _, h2⟩ := Chg.ins h
  rw [hi] at h1
  have e : C = C' := by injection h1 with h1; injection h1
  rcases h2 with ⟨h2, _⟩ | h2
  · exact absurd (e.trans h2) hC
  · exact h2
theorem chg_of {K : PySem.W.Frag} {cc : CCls} (nd : CNd cc) {H : Hp} {c : Chg} {a dx : Addr} {fs : List (Str × V)} (h : c.AtC K cc H a) (hi : H a = some (.ins cc.x dx fs)) : ∃ o n t l f, c = .chg o n t l f := by
  cases c with
  | base b =>
    have hb : CalAt K cc.s cc.o cc.m H a b := h
    cases b with
    | sun =>
      obtain ⟨dx, pm, py, h1, _⟩ := hb
      rw [hi] at h1
      have e : cc.x = cc.s := by injection h1 with h1; injection h1
      exact absurd e.symm nd.sx
    | moon =>
      obtain ⟨dx, pd, pm, h1, _⟩ := hb
      rw [hi] at h1
      have e : cc.x = cc.o := by injection h1 with h1; injection h1
      exact absurd e.symm nd.ox
  | chg o n t l f => exact ⟨o, n, t, l, f, rfl⟩
/-! what stood ahead of a making stays -/
section
variable {T : List NTab} {K : PySem.W.Frag} {H H' : Hp} {x C dx : Addr}
theorem blank_ne (hx : H x = some (.ins C dx [])) (s : SameX T x H H') {b : Addr} {o : HO} (h : H b = some o) (n : ∀ C d, o ≠ .ins C d []) (nt : ∀ ps, o ≠ .tbl ps) : H' b = some o := s.ext b o h (fun z => by rw [z, hx] at h; exact n _ _ (Option.some.inj h).symm) nt
theorem blank_tup (hx : H x = some (.ins C dx [])) (s : SameX T x H H') {a : Addr} {xs : List V} (h : SqT K H a xs) : SqT K H' a xs := by
  rcases h with (h | ⟨o, h⟩) | h
  · exact .inl (.inl (blank_ne hx s h (fun _ _ z => nomatch z) (fun _ z => nomatch z)))
  · exact .inl (.inr ⟨o, blank_ne hx s h (fun _ _ z => nomatch z) (fun _ z => nomatch z)⟩)
  · exact .inr h
theorem blank_lst (hx : H x = some (.ins C dx [])) (s : SameX T x H H') {a : Addr} {xs : List V} (h : SqL K H a xs) : SqL K H' a xs := by
  rcases h with (h | ⟨o, h⟩) | h
  · exact .inl (.inl (blank_ne hx s h (fun _ _ z => nomatch z) (fun _ z => nomatch z)))
  · exact .inl (.inr ⟨o, blank_ne hx s h (fun _ _ z => nomatch z) (fun _ z => nomatch z)⟩)
  · exact .inr h
theorem blank_ins (hx : H x = some (.ins C dx [])) (s : SameX T x H H') {a C' d : Addr} {fs : List (Str × V)} (h : H a = some (.ins C' d fs)) (n : fs ≠ []) : H' a = some (.ins C' d fs) := blank_ne hx s h (fun _ _ z => by injection z with _ _ z; exact n z) (fun _ z => nomatch z)
theorem blank_meas (hx : H x = some (.ins C dx [])) (s : SameX T x H H') {CM m : Addr} {b : Int} {ts : List Tm} (h : MeasAt K CM H m b ts) : MeasAt K CM H' m b ts := by
  obtain ⟨d, l, h1, qs, g1, g2, g3⟩ := h
  exact ⟨d, l, blank_ins hx s h1 (by simp [mfs]), qs, blank_lst hx s g1, g2, fun i q t a b => blank_tup hx s (g3 i q t a b)⟩
theorem blank_cal (hx : H x = some (.ins C dx [])) (s : SameX T x H H') {cs co cm c : Addr} {cal : Cal} (h : CalAt K cs co cm H c cal) : CalAt K cs co cm H' c cal := by
  cases cal with
  | sun =>
    obtain ⟨d, pm, py, h1, h2, h3⟩ := h
    exact ⟨d, pm, py, blank_ins hx s h1 (by simp [sfs]), blank_lst hx s h2, blank_meas hx s h3⟩
  | moon =>
    obtain ⟨d, pd, pm, h1, h2, h3⟩ := h
    exact ⟨d, pd, pm, blank_ins hx s h1 (by simp [mofs]), blank_meas hx s h2, blank_meas hx s h3⟩
theorem blank_chg (hx : H x = some (.ins C dx [])) (s : SameX T x H H') {cc : CCls} : ∀ {c : Chg} {a : Addr}, c.AtC K cc H a → c.AtC K cc H' a
  | .base c, a, h => blank_cal (cal := c) hx s h
  | .chg o n t l f, a, h => by
    obtain ⟨d, po, pn, pl, pf, h1, h2, h3, h4, h5⟩ := h
    exact ⟨d, po, pn, pl, pf, blank_ins hx s h1 (by simp [cfs]), blank_tup hx s h2, blank_tup hx s h3, blank_chg hx s (c := o) h4, blank_chg hx s (c := n) h5⟩
end
/-! sizes -/
def Chg.Sz (N : Nat) : Chg → Prop
  | .base c => Sm N c.st
  | .chg o n _ _ _ => o.Sz N ∧ n.Sz N
theorem Chg.Sz.mono {a b : Nat} (h : a ≤ b) : ∀ {c : Chg}, c.Sz a → c.Sz b
  | .base c, k => sm_mono k h
  | .chg o n _ _ _, k => ⟨Chg.Sz.mono h k.1, Chg.Sz.mono h k.2⟩
theorem start_far {c : Cal} (ok : c.Ok) (k : Nat) : c.st + k ≤ c.start k ∧ c.start (-k) ≤ c.st - k := by
  induction k with
  | zero =>
    have := c.start0 ok
    exact ⟨by show c.st + 0 ≤ c.start 0; omega, by show c.start (-0) ≤ c.st - 0; rw [Int.neg_zero]; omega⟩
  | succ k ih =>
    have h1 := c.lt ok (show (k : Int) < ((k + 1 : Nat) : Int) by omega)
    have h2 := c.lt ok (show -((k + 1 : Nat) : Int) < -(k : Int) by omega)
    omega
theorem year_far {c : Cal} (ok : c.Ok) {x y m d : Int} (h : DateIs c x y m d) : y.natAbs ≤ (x - c.st).natAbs := by
  obtain ⟨a1, a2⟩ := h.year ok
  by_cases hy : 0 ≤ y
  · have := (start_far ok y.toNat).1
    rw [show ((y.toNat : Nat) : Int) = y by omega] at this
    omega
  · have := (start_far ok (-(y + 1)).toNat).2
    rw [show -(((-(y + 1)).toNat : Nat) : Int) = y + 1 by omega] at this
    omega
theorem Chg.year_sm {N : Nat} : ∀ {c : Chg}, c.Ok → c.Sz N → ∀ {x : Int} {d : D3}, Sm N x → c.date x d → Sm (N + 1) d.1
  | .base c, ok, sz, x, d, sx, h => by
    have h1 := year_far ok.1 h
    have h2 := (sm_subX sx sz).h
    exact ⟨Nat.lt_of_le_of_lt h1 h2⟩
  | .chg o n t l f, ok, sz, x, d, sx, h => by
    obtain ⟨k1, k2, _⟩ := ok
    unfold Chg.date at h
    by_cases c1 : x < t
    · rw [if_pos c1] at h; exact Chg.year_sm k1 sz.1 sx h
    · rw [if_neg c1] at h; exact Chg.year_sm k2 sz.2 sx h
theorem d3_eq {K : PySem.W.Frag} {H : Hp} {Q : VK} {p q : Addr} {a b : D3} (h1 : SqT K H p (d3V a)) (h2 : SqT K H q (d3V b)) (r : Q (.bl (decide (a = b))) H) : rEqA K (.ref p) (.ref q) H Q :=
  k_eqT (l := [a.1, a.2.1, a.2.2]) (m := [b.1, b.2.1, b.2.2]) h1 h2 (by
    have e : decide (([a.1, a.2.1, a.2.2] : List Int) = [b.1, b.2.1, b.2.2]) = decide (a = b) := by
      obtain ⟨a1, a2, a3⟩ := a
      obtain ⟨b1, b2, b3⟩ := b
      exact decide_eq_decide.mpr (by simp)
    rw [e]; exact r)
theorem d3_ne {K : PySem.W.Frag} {H : Hp} {Q : VK} {p q : Addr} {a b : D3} (h1 : SqT K H p (d3V a)) (h2 : SqT K H q (d3V b)) (r : Q (.bl (!decide (a = b))) H) : rNeA K (.ref p) (.ref q) H Q :=
  k_neT (l := [a.1, a.2.1, a.2.2]) (m := [b.1, b.2.1, b.2.2]) h1 h2 (by
    have e : decide (([a.1, a.2.1, a.2.2] : List Int) = [b.1, b.2.1, b.2.2]) = decide (a = b) := by
      obtain ⟨a1, a2, a3⟩ := a
      obtain ⟨b1, b2, b3⟩ := b
      exact decide_eq_decide.mpr (by simp)
    rw [e]; exact r)
theorem Chg.old_date {o n : Chg} {t : Int} {l f : D3} {x : Int} {d : D3} (h : x < t) : (Chg.chg o n t l f).date x d ↔ o.date x d := by show (if x < t then _ else _) ↔ _; rw [if_pos h]
theorem Chg.new_date {o n : Chg} {t : Int} {l f : D3} {x : Int} {d : D3} (h : ¬ x < t) : (Chg.chg o n t l f).date x d ↔ n.date x d := by show (if x < t then _ else _) ↔ _; rw [if_neg h]
theorem tms_mut {K : PySem.W.Frag} {H H' : Hp} {p : Addr} {xs : List V} {qs : List Addr} {ts : List Tm} (m : Mut p H H') (hp : H p = some (.lst xs)) (h : TmsAt K H qs ts) : TmsAt K H' qs ts := ⟨h.1, fun i q t a b => mut_t m hp (h.2 i q t a b)⟩
theorem or_splitS {t u : TT} {σ : L2.St} {H : Hp} {R : Bool → Hp → Prop} (p : Prop) (P : Hp → Prop) (hT : ∀ H', P H' → p → R true H') (hF : ∀ H', P H' → ¬ p → R false H') (h : ∀ R' : Bool → Hp → Prop, (∀ H', P H' → p → R' true H') → (∀ H', P H' → ¬ p → R' false H') → tOr t u σ H R') : tOr t u σ H R := h R hT hF
section
variable {X : Cx} {CX : CXT} {k : Nat} {f C : Addr} {fd : FuncData} {ps : List Str} {sp : Sp} {dvs : List V} {ds : List Value} {E : L2.St → XK} {m : Str} {pos apos : Pos} {o : Expr} {ta : TE}
/-- a method that raises, called without arguments -/
theorem pe_methX0 {pl : Sem Bool} (he : PE X o ta) (c : Cls X.K C) (hm : Meth X.K C m f) (F : FnOk X.prog X.w X.K X.mg X.base CX k f fd ps sp) (hr : Room k X.A) (hb : Binds X.K fd ps ds) (hd : Vals dvs ds) (hx : ∀ σ, PassesAt CX X σ (E σ))
    (ht : eval (.Call (.Attribute o m apos) [] [] pos) X.env = (do
      let ov ← eval o X.env
      standAt apos.atName
      let (f, first) ← holding [ov] (getMethod ov m pl)
      callWith pos f first (backTo pos (starEach [] X.env)) (backToKw pos (keywordEach [] X.env))) := by rfl) :
    PE X (.Call (.Attribute o m apos) [] [] pos) (tMethX C m sp dvs E ta tNil) := by
  refine ⟨fun pins s σ H Q I h => ?_⟩
  refine PySem.W.methodCall_KW (pl := pl) (thn (he.run pins s σ H _ I h) fun u s1 ⟨x, H1, I1, rx, a, dx, fs, ex, ea, l, q⟩ => ?_) ht
  subst ex
  obtain rfl : u = Value.ref a := rx
  refine getmeth_ok I1 ea c hm l ?_
  exact PySem.W.callWith_K0 (first := [.ref a]) I1.kIn hm.kp (run_fnSD (us := [.ref a]) (vs := [.ref a]) F hr hb hd (hx σ) I1 (.cons rfl .nil) q)
end

end

/-! ### the walker: one step, by the head of the reading -/
local macro_rules | `(tactic| walk_at "hp") => `(tactic| first | assumption | (refine' same_t ?h1 ?h2; (case h1 => assumption); (case h2 => walk_at "hp")) | (refine' same_l ?h1 ?h2; (case h1 => assumption); (case h2 => walk_at "hp")) | (refine' same_at ?h1 ?h2; (case h1 => assumption); (case h2 => walk_at "hp")) | fail)
local macro_rules | `(tactic| walk_at "hl") => `(tactic| first | walk_at "hp" | (refine' SqL.of ?h1; (case h1 => walk_at "hp")) | fail)
local macro_rules | `(tactic| walk_at "ht") => `(tactic| first | walk_at "hp" | (refine' SqT.of ?h1; (case h1 => walk_at "hp")) | fail)
local macro_rules | `(tactic| walk_at "sm") => `(tactic| first | assumption | (refine' sm_lit ?h1; (case h1 => decide +kernel)) | exact sm41 (by omega) (by omega) | walk_at "smx" | (refine' sm_mul ?h1 ?h2; (case h1 => walk_at "sm"); (case h2 => walk_at "sm")) | fail)
local macro_rules | `(tactic| walk_at "sd") => `(tactic| first
  | omega
  | decide +kernel
  | ((with_reducible apply Int.emod_nonneg); omega)
  | ((with_reducible refine sm_divx (b := 200) ?_ ?_ (by decide) (by decide)) <;> first | omega | walk_at "sm")
  | ((with_reducible refine sm_div (b := 200) ?_ ?_ (by decide) (by decide)) <;> first | omega | walk_at "sm")
  | walk_at "sdx"
  | ((with_reducible refine' sm_mulx ?h1 ?h2 ?h3); (case h1 => walk_at "sm"); (case h2 => walk_at "sm"); (case h3 => decide +kernel)) | fail)
local macro_rules | `(tactic| walk_at "st") => `(tactic| first
  | (with_reducible apply k_seqA)
  | (with_reducible apply k_seqD)
  | (with_reducible apply k_seqP)
  | ((with_reducible apply k_var); (· rfl))
  | (with_reducible apply k_c)
  | (with_reducible apply k_op)
  | (with_reducible apply k_add)
  | (with_reducible apply k_I0)
  | (with_reducible apply k_asg)
  | (with_reducible apply k_call)
  | (with_reducible apply k_cb)
  | (with_reducible apply k_cons)
  | (with_reducible apply k_nil)
  | (with_reducible apply k_ret)
  | (with_reducible apply k_test)
  | (with_reducible apply k_eq)
  | (with_reducible apply k_ne)
  | (with_reducible apply k_bl)
  | ((with_reducible apply k_I); (· walk_at "sd"))
  | (with_reducible apply k_U)
  | (with_reducible apply k_un)
  | ((with_reducible apply k_ixT); (· walk_at "ht"); (· rfl))
  | ((with_reducible apply k_ixL); (· walk_at "hl"); (· rfl))
  | (with_reducible apply k_tup)
  | ((with_reducible apply k_newtup); (· exact Nat.le_of_ble_eq_true rfl); intro p H' hn hs ht)
  | (with_reducible apply k_lst)
  | ((with_reducible apply k_newlst); (· exact Nat.le_of_ble_eq_true rfl); intro p H' hn hs ht)
  | (with_reducible apply k_B)
  | (with_reducible apply k_and)
  | (with_reducible apply k_or)
  | (with_reducible apply k_not)
  | ((with_reducible apply k_and2); (· rfl); (· rfl))
  | ((with_reducible apply k_or2); (· rfl); (· rfl))
  | ((with_reducible apply k_andn2); (· rfl); (· rfl))
  | (with_reducible apply k_andV)
  | (with_reducible apply k_orV)
  | (with_reducible apply k_notV)
  | (with_reducible apply k_chain)
  | (with_reducible apply k_eqb)
  | (with_reducible apply k_neb)
  | (with_reducible apply k_eqs)
  | (with_reducible apply k_nes)
  | (with_reducible apply k_drop)
  | (with_reducible apply k_next)
  | (with_reducible apply if_t)
  | (with_reducible apply if_f)
  | (with_reducible apply if_nt)
  | (with_reducible apply if_nf)
  | (with_reducible apply k_isi_ii)
  | (with_reducible apply k_isi_ib)
  | (with_reducible apply k_isi_bb)
  | (with_reducible apply k_isi_it)
  | ((with_reducible apply k_isi_tt); (· walk_at "ht"))
  | (with_reducible apply k_abs)
  | ((with_reducible apply k_max2); intro k hk1 hk2 hk3)
  | ((with_reducible apply k_min2); intro k hk1 hk2 hk3)
  | ((with_reducible apply k_lenT); (· walk_at "ht"))
  | ((with_reducible apply k_lenL); (· walk_at "hl"))
  | (with_reducible apply k_intI)
  | (with_reducible apply k_intB)
  | (with_reducible apply k_par)
  | (with_reducible apply k_par2)
  | (with_reducible apply k_ifx)
  | (with_reducible apply k_gname)
  | (with_reducible apply k_asgG)
  | (with_reducible apply k_retN)
  | (with_reducible apply k_lstrg)
  | ((with_reducible apply k_lstrgV); (· omega); intro p H' hn hs ht)
  | (with_reducible apply k_bits)
  | (with_reducible apply k_bitsV)
  | (with_reducible apply k_isN_n)
  | (with_reducible apply k_isN_i)
  | (with_reducible apply k_isN_r)
  | (with_reducible apply k_notN_n)
  | (with_reducible apply k_notN_i)
  | (with_reducible apply k_notN_r)
  | (with_reducible apply k_lc)
  | (with_reducible apply k_itup)
  | (with_reducible apply k_ilst)
  | ((with_reducible apply k_sqt); (· walk_at "ht"))
  | ((with_reducible apply k_sql); (· walk_at "hl"))
  | (with_reducible apply k_irng1)
  | ((with_reducible apply k_rng1); (· first | decide | omega))
  | (with_reducible apply k_irng2L)
  | (with_reducible apply k_rng2L)
  | (with_reducible apply k_irng2)
  | (with_reducible apply k_irng3)
  | ((with_reducible apply k_rng2); (· first | decide | omega))
  | ((with_reducible apply k_gtup); (· walk_at "ht"); (· rfl))
  | (with_reducible apply k_gcons)
  | (with_reducible apply k_gnil)
  | ((with_reducible apply k_notin2); (· walk_at "hl"))
  | ((with_reducible apply k_in2); (· walk_at "hl"))
  | ((with_reducible apply k_in3); (· walk_at "hl"))
  | ((with_reducible apply k_notinL); (· walk_at "hl"))
  | ((with_reducible apply k_inL'); (· walk_at "hl"))
  | ((with_reducible apply k_divmod); (· walk_at "sd"); intro p H' hn hs ht) | fail)
local macro_rules | `(tactic| walk_at "go") => `(tactic| repeat' walk_at "st")
/-- a branch: both ways, those that cannot be shut by omega -/
local macro_rules | `(tactic| walk_at "br") => `(tactic| (first | with_reducible apply if_dec | with_reducible apply if_ndec | with_reducible apply if_b) <;> intro hbr <;> first | (first | exact absurd (by assumption) hbr | exact absurd hbr (by assumption) | (exfalso; omega) | (exfalso; simp only [List.length_cons, List.length_nil] at hbr; omega)) | skip)
/-- an if statement: its test walked, the ways that can be -/
local macro_rules | `(tactic| walk_at "if") => `(tactic| ((first | with_reducible apply k_seqI | with_reducible apply k_if); walk_at "go"; walk_at "br"))
/-- a branch of which omega shuts one way -/
local macro_rules | `(tactic| walk_at "br1") => `(tactic| first
  | (with_reducible apply if_dec; (· (intro hbr; first | exact absurd (by assumption) hbr | exact absurd hbr (by assumption) | (exfalso; omega) | (exfalso; simp only [List.length_cons, List.length_nil] at hbr; omega))); intro hbr)
  | (with_reducible apply if_dec; rotate_left; (· (intro hbr; first | exact absurd (by assumption) hbr | exact absurd hbr (by assumption) | (exfalso; omega) | (exfalso; simp only [List.length_cons, List.length_nil] at hbr; omega))); intro hbr)
  | (with_reducible apply if_ndec; (· (intro hbr; first | exact absurd (by assumption) hbr | exact absurd hbr (by assumption) | (exfalso; omega) | (exfalso; simp only [List.length_cons, List.length_nil] at hbr; omega))); intro hbr)
  | (with_reducible apply if_ndec; rotate_left; (· (intro hbr; first | exact absurd (by assumption) hbr | exact absurd hbr (by assumption) | (exfalso; omega) | (exfalso; simp only [List.length_cons, List.length_nil] at hbr; omega))); intro hbr) | fail)
local macro_rules | `(tactic| walk_at "run") => `(tactic| repeat' (first | walk_at "st" | walk_at "br1" | with_reducible apply k_seqI | with_reducible apply k_if))
local macro_rules | `(tactic| walk_at "all") => `(tactic| repeat' (first | walk_at "st" | walk_at "br1" | walk_at "br" | with_reducible apply k_seqI | with_reducible apply k_if))
local macro_rules | `(tactic| walk_at "st") => `(tactic| first
  | ((with_reducible apply k_eqP); (· walk_at "ht"); (· walk_at "ht"))
  | ((with_reducible apply k_neP); (· walk_at "ht"); (· walk_at "ht")) | fail)
local macro_rules | `(tactic| walk_at "st") => `(tactic| first
  | ((with_reducible apply if_seq); (· rfl))
  | ((with_reducible apply if_nseq); (· rfl))
  | ((with_reducible apply if_sne); (· decide +kernel))
  | ((with_reducible apply if_nsne); (· decide +kernel)) | fail)

local macro_rules | `(tactic| walk_at "smx") => `(tactic| first | exact sm_ofB (by omega) | exact sm_bitsOf (by omega) | exact sm_mask (by omega) | (refine' sm_modp ?h1; (case h1 => walk_at "sm")) | (refine' sm_divp ?h1; (case h1 => walk_at "sm")) | (refine' sm_shl ?h1 ?h2; (case h1 => walk_at "sm"); (case h2 => omega)) | (refine' sm_or ?h1 ?h2; (case h1 => walk_at "sm"); (case h2 => walk_at "sm")) | (refine' sm_xor ?h1 ?h2; (case h1 => walk_at "sm"); (case h2 => walk_at "sm")) | (refine' sm_and ?h1; (case h1 => walk_at "sm")) | fail)
local macro_rules | `(tactic| walk_at "sdx") => `(tactic| first | (with_reducible exact pow_pos_c _) | ((with_reducible refine' cshl ?h1 ?h2 ?h3 ?h4); (case h1 => walk_at "sm"); (case h2 => omega); (case h3 => omega); (case h4 => decide +kernel)) | fail)
local macro_rules | `(tactic| walk_at "st") => `(tactic| first
  | (with_reducible apply k_andm)
  | (with_reducible apply k_andc)
  | (with_reducible apply k_orc)
  | (with_reducible apply k_xorm)
  | (with_reducible apply k_xorc)
  | ((with_reducible apply k_shl1); (· first | omega | exact modbd (by omega) (by omega)))
  | ((with_reducible apply k_shlc); (· exact cshl (by walk_at "sm") (by omega) (by omega) (by decide +kernel)))
  | ((with_reducible apply k_shrc); (· first | omega | exact Int.emod_nonneg _ (by omega))) | fail)
local macro_rules | `(tactic| walk_at "hr") => `(tactic| first | assumption | (refine' RT.mono ?h1 ?h2; (case h2 => assumption); (case h1 => walk_at "hr")) | fail)
local macro_rules | `(tactic| walk_at "lround") => `(tactic| (walk_at "go"))

local macro_rules | `(tactic| walk_at "st") => `(tactic| first
  | (with_reducible apply k_bm)
  | ((with_reducible apply k_bmA); (· walk_at "hl"))
  | ((with_reducible apply k_app); (· walk_at "hp"); (· first | assumption | decide | omega | (simp; done) | (simp; omega)); intro H' hm hh)
  | (with_reducible apply k_sl)
  | (with_reducible apply k_part)
  | (with_reducible apply k_partV)
  | (with_reducible apply k_nopart)
  | ((with_reducible apply k_slV); (· walk_at "hl"); intro p H' hn hs ht)
  | ((with_reducible apply k_lofL); (· walk_at "hl"); intro p H' hn hs ht)
  | (with_reducible apply k_gsub)
  | ((with_reducible apply k_eqE); (· walk_at "hl"); (· walk_at "hl"))
  | ((with_reducible apply k_neE); (· walk_at "hl"); (· walk_at "hl")) | fail)

local macro_rules | `(tactic| walk_at "hp") => `(tactic| first | assumption | (refine' SameT.sql ?h1 ?h2; (case h1 => assumption); (case h2 => walk_at "hp")) | (refine' SameT.sqt ?h1 ?h2; (case h1 => assumption); (case h2 => walk_at "hp")) | (refine' same_t ?h1 ?h2; (case h1 => assumption); (case h2 => walk_at "hp")) | (refine' same_l ?h1 ?h2; (case h1 => assumption); (case h2 => walk_at "hp")) | (refine' same_at ?h1 ?h2; (case h1 => assumption); (case h2 => walk_at "hp")) | fail)

local macro_rules | `(tactic| walk_at "st") => `(tactic| first
  | (with_reducible apply k_seqO)
  | (with_reducible apply k_fld)
  | (with_reducible apply k_sto)
  | (with_reducible apply k_met')
  | (with_reducible apply k_mak) | fail)

local macro_rules | `(tactic| walk_at "st") => `(tactic| first | ((with_reducible apply k_altV); (· rfl)) | (with_reducible apply k_break) | fail)

local macro_rules | `(tactic| walk_at "st") => `(tactic| first | (with_reducible apply k_metX') | (with_reducible apply k_makX) | (with_reducible apply k_callSDx) | ((with_reducible apply k_altVX); (· rfl)) | fail)

local macro_rules | `(tactic| walk_at "st") => `(tactic| first | (with_reducible apply k_metF') | (with_reducible apply k_callD) | fail)

local macro_rules | `(tactic| walk_at "st") => `(tactic| first | (with_reducible apply k_callSx) | fail)

theorem and_splitS {t u : TT} {σ : L2.St} {H : Hp} {R : Bool → Hp → Prop} (p : Prop) (P : Hp → Prop) (hT : ∀ H', P H' → p → R true H') (hF : ∀ H', P H' → ¬ p → R false H') (h : ∀ R' : Bool → Hp → Prop, (∀ H', P H' → p → R' true H') → (∀ H', P H' → ¬ p → R' false H') → tAnd t u σ H R') : tAnd t u σ H R := h R hT hF
/-- a calendar of the sun, told as a Cal -/
def SAt (K : PySem.W.Frag) (CS CM : Addr) (H : Hp) (c : Addr) : Cal → Prop
  | .sun st ls lp ts => SunAt K CS CM H c st ls lp ts
  | .moon .. => False
theorem SAt.mono {T : List NdefX.NTab} {K : PySem.W.Frag} {CS CM : Addr} {H H' : Hp} {c : Addr} {cal : Cal} (h : SAt K CS CM H c cal) (s : SameT T H H') : SAt K CS CM H' c cal := by
  cases cal with
  | sun => exact SunAt.mono s h
  | moon => exact False.elim h
theorem k_metS {K : PySem.W.Frag} {CS CM c : Addr} {H : Hp} {Q : VK} {cal : Cal} {m : Str} {sp : Sp} {E : XK} {t : TA} {σ : L2.St} (hc : SAt K CS CM H c cal) (n : NoF m) (h : t σ H fun vs H2 => sp (.ref c :: (vs ++ [])) H2 Q E) : MetR CS m sp [] E t σ (.ref c) H Q := by
  cases cal with
  | sun =>
    obtain ⟨dx, pm, py, h1, _, _⟩ := hc
    exact k_metX h1 (sfs_no _ _ _ _ n.s n.mo n.l n.y) h
  | moon => exact False.elim hc
/-- the years of the law -/
def MLen : List Int := [31, 28, 31, 30, 31, 30, 31, 31, 30, 31, 30, 31]
def TOld : List Tm := [⟨1, 1, 3, 4⟩]
def TNew : List Tm := [⟨1, 1, 3, 4⟩, ⟨-1, 1, 99, 100⟩, ⟨1, 1, 399, 400⟩]
def CalO : Cal := .sun 0 MLen 2 TOld
def CalN : Cal := .sun 2 MLen 2 TNew
def CalE (e : Bool) : Cal := if e = true then CalO else CalN
def DLast : D3 := (1582, 10, 4)
def DFirst : D3 := (1582, 10, 15)
theorem old_ok : CalO.Ok := (⟨by decide, by decide, by decide, by decide, by decide, by decide, by decide, by decide, by
  intro t ht
  rw [List.mem_singleton.mp ht]
  exact ⟨.inl rfl, by decide, by decide, by decide, by decide, by decide, by decide⟩⟩ : SunOk MLen 2 TOld)
theorem new_ok : CalN.Ok := (⟨by decide, by decide, by decide, by decide, by decide, by decide, by decide, by decide, by
  intro t ht
  simp only [TNew, List.mem_cons, List.not_mem_nil, or_false] at ht
  rcases ht with rfl | rfl | rfl
  · exact ⟨.inl rfl, by decide, by decide, by decide, by decide, by decide, by decide⟩
  · exact ⟨.inr rfl, by decide, by decide, by decide, by decide, by decide, by decide⟩
  · exact ⟨.inl rfl, by decide, by decide, by decide, by decide, by decide, by decide⟩⟩ : SunOk MLen 2 TNew)
theorem last_is : DateIs CalO 578102 1582 10 4 := ⟨by decide, by decide +kernel, by decide, by decide +kernel, by decide +kernel⟩
theorem first_is : DateIs CalN 578103 1582 10 15 := ⟨by decide, by decide +kernel, by decide, by decide +kernel, by decide +kernel⟩
theorem blank_S {T : List NdefX.NTab} {K : PySem.W.Frag} {H H' : Hp} {x C dx : Addr} (hx : H x = some (.ins C dx [])) (s : SameX T x H H') {CS CM c : Addr} {cal : Cal} (h : SAt K CS CM H c cal) : SAt K CS CM H' c cal := by
  cases cal with
  | sun st ls lp ts => exact blank_cal (cs := CS) (co := CS) (cm := CM) (cal := .sun st ls lp ts) hx s h
  | moon => exact False.elim h
/-- a year with a day more -/
def LeapE (e : Bool) (y : Int) : Prop := y % 4 = 0 ∧ (e = true ∨ y % 100 ≠ 0 ∨ y % 400 = 0)
theorem rise_old (y : Int) : riseT TOld y = if y % 4 = 0 then 1 else 0 := by
  simp only [riseT, TOld, riseM, List.map_cons, List.map_nil, List.sum_cons, List.sum_nil]
  split <;> omega
theorem rise_new (y : Int) : riseT TNew y = if y % 4 = 0 ∧ (y % 100 ≠ 0 ∨ y % 400 = 0) then 1 else 0 := by
  simp only [riseT, TNew, riseM, List.map_cons, List.map_nil, List.sum_cons, List.sum_nil]
  split <;> omega
theorem lens_leap {e : Bool} {y : Int} (h : LeapE e y) : (CalE e).lens y = MLen.set 1 29 := by
  unfold LeapE at h
  cases e with
  | true =>
    show lensS MLen 2 TOld y = _
    unfold lensS
    rw [rise_old, if_pos h.1]; rfl
  | false =>
    show lensS MLen 2 TNew y = _
    unfold lensS
    rw [rise_new, if_pos ⟨h.1, h.2.resolve_left (by decide)⟩]; rfl
theorem lens_plain {e : Bool} {y : Int} (h : ¬ LeapE e y) : (CalE e).lens y = MLen := by
  unfold LeapE at h
  cases e with
  | true =>
    show lensS MLen 2 TOld y = _
    unfold lensS
    rw [rise_old, if_neg (fun z => h ⟨z, .inl rfl⟩)]; rfl
  | false =>
    show lensS MLen 2 TNew y = _
    unfold lensS
    rw [rise_new, if_neg (fun z => h ⟨z.1, .inr z.2⟩)]; rfl
theorem lens_12 (e : Bool) (y : Int) : ((CalE e).lens y).length = 12 := by
  by_cases h : LeapE e y
  · rw [lens_leap h]; rfl
  · rw [lens_plain h]; rfl
def sumE (e : Bool) (y : Int) : Int := if e = true then 365 * y + (y + 3) / 4 else 365 * y + (y + 3) / 4 - (y + 99) / 100 + (y + 399) / 400 + 2
theorem start_E (e : Bool) (y : Int) : (CalE e).start y = sumE e y := by
  cases e with
  | true =>
    show 0 + uptoM MLen.sum TOld y = _
    simp only [uptoM, sumT, TOld, sumE, List.map_cons, List.map_nil, List.sum_cons, List.sum_nil, show MLen.sum = 365 from by decide]
    simp <;> omega
  | false =>
    show 2 + uptoM MLen.sum TNew y = _
    simp only [uptoM, sumT, TNew, sumE, List.map_cons, List.map_nil, List.sum_cons, List.sum_nil, show MLen.sum = 365 from by decide]
    simp <;> omega
/-- which day of the change a date is -/
def ChD (x : Int) (d : D3) : Prop := if x < 578103 then DateIs CalO x d.1 d.2.1 d.2.2 else DateIs CalN x d.1 d.2.1 d.2.2
open Classical in
noncomputable def chDay (d : D3) : DayR := if ¬ lt3 DLast d then (if GoodD CalO d.1 d.2.1 d.2.2 then .day (dayOf CalO d.1 d.2.1 d.2.2) else .no) else if ¬ lt3 d DFirst then (if GoodD CalN d.1 d.2.1 d.2.2 then .day (dayOf CalN d.1 d.2.1 d.2.2) else .no) else .gap 578103
theorem chD_day {x : Int} {d : D3} (h : ChD x d) : chDay d = .day x ∧ DateIs (CalE (decide (x < 578103))) x d.1 d.2.1 d.2.2 := by
  unfold ChD at h
  unfold chDay
  by_cases hx : x < 578103
  · rw [if_pos hx] at h
    rw [decide_eq_true hx]
    have hl : ¬ lt3 DLast d := by
      by_cases z : x = 578102
      · subst z
        obtain ⟨e1, e2, e3⟩ := h.uniq old_ok last_is
        have : d = DLast := Prod.ext e1 (Prod.ext e2 e3)
        rw [this]; exact lt3_irr _
      · exact lt3_asym (date_lt (d := d) (d' := DLast) old_ok h last_is (by omega))
    rw [if_pos hl, if_pos h.good]
    exact ⟨by rw [h.e], h⟩
  · rw [if_neg hx] at h
    rw [decide_eq_false hx]
    have hf : ¬ lt3 d DFirst := by
      by_cases z : x = 578103
      · subst z
        obtain ⟨e1, e2, e3⟩ := h.uniq new_ok first_is
        have : d = DFirst := Prod.ext e1 (Prod.ext e2 e3)
        rw [this]; exact lt3_irr _
      · exact lt3_asym (date_lt (d := DFirst) (d' := d) new_ok first_is h (by omega))
    have hl : lt3 DLast d := by
      have h1 : lt3 DLast DFirst := by unfold lt3 DLast DFirst; decide
      exact lt3_ge' h1 hf
    rw [if_neg (fun z => z hl), if_pos hf, if_pos h.good]
    exact ⟨by rw [h.e], h⟩
def tolV (p : Addr) : DayR → List V
  | .day x => [.str "day", .int x, .int 0]
  | .no => [.str "none", .ref p, .int 0]
  | .gap g => [.str "gap", .ref p, .int g]
def tolDD (d : D3) : DayR → PyData
  | .day x => .tuple [.str "day", .int x, .int 0]
  | .no => .tuple [.str "none", .tuple [.int d.1, .int d.2.1, .int d.2.2], .int 0]
  | .gap g => .tuple [.str "gap", .tuple [.int d.1, .int d.2.1, .int d.2.2], .int g]
theorem tolV_dp {K : PySem.W.Frag} {H : Hp} {p q : Addr} {d : D3} {r : DayR} (h : SqT K H q (tolV p r)) (hp : SqT K H p (d3V d)) : Dp K H (.ref q) (tolDD d r) := by
  cases r with
  | day x => exact .tup h (.cons (.str _) (.cons (.int _) (.cons (.int _) .nil)))
  | no => exact .tup h (.cons (.str _) (.cons (dp_t3 hp) (.cons (.int _) .nil)))
  | gap g => exact .tup h (.cons (.str _) (.cons (dp_t3 hp) (.cons (.int _) .nil)))
theorem tolV_sh (d : D3) (r : DayR) : SeqAt.shaped (tolDD d r) = true := by
  cases r <;> simp [tolDD, SeqAt.shaped, PyData.canLay0, PyData.canLayAll0, PyData.depth, PyData.depthAll] <;> decide +kernel

def topS (i : Nat) : Stmt := PySem.Challenge.pw_feastwheel_k46_a_change_of_years.main.body.getD i (.Pass ⟨0, 0, 0, 0⟩)
abbrev s_sized : Stmt := topS 10
theorem sc_sized : FnScope ["size"] ["size"] (defScope s_sized) := ⟨rfl, rfl, rfl, by decide +kernel, rfl, by decide +kernel, by decide +kernel⟩
abbrev s_divisor : Stmt := topS 9
theorem sc_divisor : FnScope ["one", "other"] ["one", "other"] (defScope s_divisor) := ⟨rfl, rfl, rfl, by decide +kernel, rfl, by decide +kernel, by decide +kernel⟩
abbrev s_common : Stmt := topS 11
theorem sc_common : FnScope ["one", "other"] ["one", "other"] (defScope s_common) := ⟨rfl, rfl, rfl, by decide +kernel, rfl, by decide +kernel, by decide +kernel⟩
abbrev s_Measure_period : Stmt := inClass (topS 22) 3
theorem sc_Measure_period : FnScope ["self", "size", "term"] ["self"] (defScope s_Measure_period) := ⟨rfl, rfl, rfl, by decide +kernel, rfl, by decide +kernel, by decide +kernel⟩
abbrev s_counter_summed : Stmt := (defBody (topS 18)).getD 1 (.Pass ⟨0, 0, 0, 0⟩)
theorem sc_counter_summed : NdefX.NScope ["k", "kept", "total", "sign", "a", "b", "n"] ["k"] ["kept"] (C8.fnScope s_counter_summed) := NdefX.nscope_by (by decide +kernel)
abbrev s_counter : Stmt := topS 18
theorem sc_counter : FnScope ["terms", "summed", "kept"] ["terms"] (defScope s_counter) := ⟨rfl, rfl, rfl, by decide +kernel, rfl, by decide +kernel, by decide +kernel⟩
abbrev s_Measure_upto : Stmt := inClass (topS 22) 2
theorem sc_Measure_upto : FnScope ["self", "k", "summed"] ["self", "k"] (defScope s_Measure_upto) := ⟨rfl, rfl, rfl, by decide +kernel, rfl, by decide +kernel, by decide +kernel⟩
abbrev s_Measure_seek : Stmt := inClass (topS 22) 4
theorem sc_Measure_seek : FnScope ["self", "total", "size", "rounds", "rest", "low", "high", "middle"] ["self", "total"] (defScope s_Measure_seek) := ⟨rfl, rfl, rfl, by decide +kernel, rfl, by decide +kernel, by decide +kernel⟩
abbrev s_Sun_year_at : Stmt := inClass (topS 28) 3
theorem sc_Sun_year_at : FnScope ["self", "day"] ["self", "day"] (defScope s_Sun_year_at) := ⟨rfl, rfl, rfl, by decide +kernel, rfl, by decide +kernel, by decide +kernel⟩
abbrev s_term_on : Stmt := topS 17
theorem sc_term_on : FnScope ["term", "k", "a", "n"] ["term", "k"] (defScope s_term_on) := ⟨rfl, rfl, rfl, by decide +kernel, rfl, by decide +kernel, by decide +kernel⟩
abbrev s_Measure_at : Stmt := inClass (topS 22) 1
theorem sc_Measure_at : FnScope ["self", "k", "found", "term"] ["self", "k"] (defScope s_Measure_at) := ⟨rfl, rfl, rfl, by decide +kernel, rfl, by decide +kernel, by decide +kernel⟩
abbrev s_Sun_lengths : Stmt := inClass (topS 28) 2
theorem sc_Sun_lengths : FnScope ["self", "year", "some"] ["self", "year"] (defScope s_Sun_lengths) := ⟨rfl, rfl, rfl, by decide +kernel, rfl, by decide +kernel, by decide +kernel⟩
abbrev s_Sun_year_start : Stmt := inClass (topS 28) 1
theorem sc_Sun_year_start : FnScope ["self", "year"] ["self", "year"] (defScope s_Sun_year_start) := ⟨rfl, rfl, rfl, by decide +kernel, rfl, by decide +kernel, by decide +kernel⟩
abbrev s_Calendar_date_of : Stmt := inClass (topS 27) 0
theorem sc_Calendar_date_of : FnScope ["self", "day", "year", "rest", "month", "many"] ["self", "day"] (defScope s_Calendar_date_of) := ⟨rfl, rfl, rfl, by decide +kernel, rfl, by decide +kernel, by decide +kernel⟩
abbrev s_Change_date_of : Stmt := inClass (topS 30) 1
theorem sc_Change_date_of : FnScope ["self", "day"] ["self", "day"] (defScope s_Change_date_of) := ⟨rfl, rfl, rfl, by decide +kernel, rfl, by decide +kernel, by decide +kernel⟩
abbrev s_list_of : Stmt := topS 20
theorem sc_list_of : FnScope ["terms"] ["terms"] (defScope s_list_of) := ⟨rfl, rfl, rfl, by decide +kernel, rfl, by decide +kernel, by decide +kernel⟩
abbrev s_many_fall : Stmt := topS 19
theorem sc_many_fall : FnScope ["terms", "term"] ["terms"] (defScope s_many_fall) := ⟨rfl, rfl, rfl, by decide +kernel, rfl, by decide +kernel, by decide +kernel⟩
abbrev s_is_term : Stmt := topS 16
theorem sc_is_term : FnScope ["term", "sign", "a", "b", "n"] ["term"] (defScope s_is_term) := ⟨rfl, rfl, rfl, by decide +kernel, rfl, by decide +kernel, by decide +kernel⟩
abbrev s_is_measure : Stmt := topS 21
theorem sc_is_measure : FnScope ["base", "terms", "term"] ["base", "terms"] (defScope s_is_measure) := ⟨rfl, rfl, rfl, by decide +kernel, rfl, by decide +kernel, by decide +kernel⟩
abbrev s_Measure_init : Stmt := inClass (topS 22) 0
theorem sc_Measure_init : FnScope ["self", "base", "terms", "kept"] ["self", "base", "terms"] (defScope s_Measure_init) := ⟨rfl, rfl, rfl, by decide +kernel, rfl, by decide +kernel, by decide +kernel⟩
abbrev s_are_months : Stmt := topS 26
theorem sc_are_months : FnScope ["lengths", "leap", "terms"] ["lengths", "leap", "terms"] (defScope s_are_months) := ⟨rfl, rfl, rfl, by decide +kernel, rfl, by decide +kernel, by decide +kernel⟩
abbrev s_Sun_init : Stmt := inClass (topS 28) 0
theorem sc_Sun_init : FnScope ["self", "start", "lengths", "leap", "terms", "months", "kept"] ["self", "start", "lengths", "leap", "terms"] (defScope s_Sun_init) := ⟨rfl, rfl, rfl, by decide +kernel, rfl, by decide +kernel, by decide +kernel⟩
abbrev s_Change_init : Stmt := inClass (topS 30) 0
theorem sc_Change_init : FnScope ["self", "old", "new", "day", "last", "first"] ["self", "old", "new", "day"] (defScope s_Change_init) := ⟨rfl, rfl, rfl, by decide +kernel, rfl, by decide +kernel, by decide +kernel⟩
abbrev s_Lchange : Stmt := topS 35
theorem sc_Lchange : FnScope ["_law_months", "_law_old", "_law_new"] [] (defScope s_Lchange) := ⟨rfl, rfl, rfl, by decide +kernel, rfl, by decide +kernel, by decide +kernel⟩
abbrev s_Lcell_at : Stmt := topS 32
theorem sc_Lcell_at : FnScope ["_law_script", "_law_k"] ["_law_script", "_law_k"] (defScope s_Lcell_at) := ⟨rfl, rfl, rfl, by decide +kernel, rfl, by decide +kernel, by decide +kernel⟩
abbrev s_Lnumber : Stmt := topS 34
theorem sc_Lnumber : FnScope ["_law_cell", "_law_part"] ["_law_cell"] (defScope s_Lnumber) := ⟨rfl, rfl, rfl, by decide +kernel, rfl, by decide +kernel, by decide +kernel⟩
abbrev s_Llengths : Stmt := topS 36
theorem sc_Llengths : FnScope ["_law_year", "_law_elder", "_law_lengths_here"] ["_law_year", "_law_elder"] (defScope s_Llengths) := ⟨rfl, rfl, rfl, by decide +kernel, rfl, by decide +kernel, by decide +kernel⟩
abbrev s_Lsum : Stmt := topS 38
theorem sc_Lsum : FnScope ["_law_date", "_law_elder", "_law_year", "_law_month", "_law_day_here", "_law_whole_here"] ["_law_date", "_law_elder"] (defScope s_Lsum) := ⟨rfl, rfl, rfl, by decide +kernel, rfl, by decide +kernel, by decide +kernel⟩
abbrev s_Lday : Stmt := topS 42
theorem sc_Lday : FnScope ["_law_script", "_law_cell", "_law_far", "_law_year"] ["_law_script"] (defScope s_Lday) := ⟨rfl, rfl, rfl, by decide +kernel, rfl, by decide +kernel, by decide +kernel⟩
abbrev s_Lturned : Stmt := topS 41
theorem sc_Lturned : FnScope ["_law_date", "_law_cell", "_law_far", "_law_year", "_law_month", "_law_day_here"] ["_law_date", "_law_cell", "_law_far"] (defScope s_Lturned) := ⟨rfl, rfl, rfl, by decide +kernel, rfl, by decide +kernel, by decide +kernel⟩
abbrev s_InGap_init : Stmt := inClass (topS 6) 0
theorem sc_InGap_init : FnScope ["self", "date", "day"] ["self", "date", "day"] (defScope s_InGap_init) := ⟨rfl, rfl, rfl, by decide +kernel, rfl, by decide +kernel, by decide +kernel⟩
abbrev s_NoDate_init : Stmt := inClass (topS 5) 0
theorem sc_NoDate_init : FnScope ["self", "date"] ["self", "date"] (defScope s_NoDate_init) := ⟨rfl, rfl, rfl, by decide +kernel, rfl, by decide +kernel, by decide +kernel⟩
abbrev s_Calendar_day_of : Stmt := inClass (topS 27) 1
theorem sc_Calendar_day_of : FnScope ["self", "date", "year", "month", "day", "some"] ["self", "date"] (defScope s_Calendar_day_of) := ⟨rfl, rfl, rfl, by decide +kernel, rfl, by decide +kernel, by decide +kernel⟩
abbrev s_Change_day_of : Stmt := inClass (topS 30) 2
theorem sc_Change_day_of : FnScope ["self", "date"] ["self", "date"] (defScope s_Change_day_of) := ⟨rfl, rfl, rfl, by decide +kernel, rfl, by decide +kernel, by decide +kernel⟩
abbrev s_Ltold : Stmt := topS 40
theorem sc_Ltold : FnScope ["_law_change_here", "_law_date", "_law_found", "e"] ["_law_change_here", "_law_date"] (defScope s_Ltold) := ⟨rfl, rfl, rfl, by decide +kernel, rfl, by decide +kernel, by decide +kernel⟩
abbrev s_Lhas : Stmt := topS 37
theorem sc_Lhas : FnScope ["_law_date", "_law_elder"] ["_law_date", "_law_elder"] (defScope s_Lhas) := ⟨rfl, rfl, rfl, by decide +kernel, rfl, by decide +kernel, by decide +kernel⟩
abbrev s_Lwhole : Stmt := topS 33
theorem sc_Lwhole : FnScope ["_law_found"] ["_law_found"] (defScope s_Lwhole) := ⟨rfl, rfl, rfl, by decide +kernel, rfl, by decide +kernel, by decide +kernel⟩
abbrev s_Ldue : Stmt := topS 39
theorem sc_Ldue : FnScope ["_law_date"] ["_law_date"] (defScope s_Ldue) := ⟨rfl, rfl, rfl, by decide +kernel, rfl, by decide +kernel, by decide +kernel⟩
abbrev s_law : Stmt := topS 43
theorem sc_law : FnScope ["_law_script", "_law_change_here", "_law_day_here", "_law_date", "_law_elder", "_law_found", "_law_part"] ["_law_script"] (defScope s_law) := ⟨rfl, rfl, rfl, by decide +kernel, rfl, by decide +kernel, by decide +kernel⟩
set_option genSizeOf false in
set_option genSizeOfSpec false in
set_option genInjectivity false in
structure Txt (K : PySem.W.Frag) (mg : Str → Option Value) (base : Heap) where
  a_sized : Addr
  fd_sized : FuncData
  F_sized : Fun K "sized" "sized" s_sized a_sized fd_sized
  g_sized : mg "sized" = some (.ref a_sized)
  b_sized : Binds K fd_sized ["size"] []
  a_divisor : Addr
  fd_divisor : FuncData
  F_divisor : Fun K "divisor" "divisor" s_divisor a_divisor fd_divisor
  g_divisor : mg "divisor" = some (.ref a_divisor)
  b_divisor : Binds K fd_divisor ["one", "other"] []
  a_common : Addr
  fd_common : FuncData
  F_common : Fun K "common" "common" s_common a_common fd_common
  g_common : mg "common" = some (.ref a_common)
  b_common : Binds K fd_common ["one", "other"] []
  a_Measure_period : Addr
  fd_Measure_period : FuncData
  F_Measure_period : Fun K "period" "Measure.period" s_Measure_period a_Measure_period fd_Measure_period
  b_Measure_period : Binds K fd_Measure_period ["self"] []
  a_counter : Addr
  fd_counter : FuncData
  cc_counter : Addr
  ct_counter : Addr
  tb_counter : LamX.TabB base mg cc_counter ct_counter
  F_counter : FunC K "counter" "counter" s_counter a_counter fd_counter cc_counter
  g_counter : mg "counter" = some (.ref a_counter)
  b_counter : Binds K fd_counter ["terms"] []
  a_Measure_upto : Addr
  fd_Measure_upto : FuncData
  F_Measure_upto : Fun K "upto" "Measure.upto" s_Measure_upto a_Measure_upto fd_Measure_upto
  b_Measure_upto : Binds K fd_Measure_upto ["self", "k"] []
  a_Measure_seek : Addr
  fd_Measure_seek : FuncData
  F_Measure_seek : Fun K "seek" "Measure.seek" s_Measure_seek a_Measure_seek fd_Measure_seek
  b_Measure_seek : Binds K fd_Measure_seek ["self", "total"] []
  a_Sun_year_at : Addr
  fd_Sun_year_at : FuncData
  F_Sun_year_at : Fun K "year_at" "Sun.year_at" s_Sun_year_at a_Sun_year_at fd_Sun_year_at
  b_Sun_year_at : Binds K fd_Sun_year_at ["self", "day"] []
  a_term_on : Addr
  fd_term_on : FuncData
  F_term_on : Fun K "term_on" "term_on" s_term_on a_term_on fd_term_on
  g_term_on : mg "term_on" = some (.ref a_term_on)
  b_term_on : Binds K fd_term_on ["term", "k"] []
  a_Measure_at : Addr
  fd_Measure_at : FuncData
  F_Measure_at : Fun K "at" "Measure.at" s_Measure_at a_Measure_at fd_Measure_at
  b_Measure_at : Binds K fd_Measure_at ["self", "k"] []
  a_Sun_lengths : Addr
  fd_Sun_lengths : FuncData
  F_Sun_lengths : Fun K "lengths" "Sun.lengths" s_Sun_lengths a_Sun_lengths fd_Sun_lengths
  b_Sun_lengths : Binds K fd_Sun_lengths ["self", "year"] []
  a_Sun_year_start : Addr
  fd_Sun_year_start : FuncData
  F_Sun_year_start : Fun K "year_start" "Sun.year_start" s_Sun_year_start a_Sun_year_start fd_Sun_year_start
  b_Sun_year_start : Binds K fd_Sun_year_start ["self", "year"] []
  a_Calendar_date_of : Addr
  fd_Calendar_date_of : FuncData
  F_Calendar_date_of : Fun K "date_of" "Calendar.date_of" s_Calendar_date_of a_Calendar_date_of fd_Calendar_date_of
  b_Calendar_date_of : Binds K fd_Calendar_date_of ["self", "day"] []
  a_Change_date_of : Addr
  fd_Change_date_of : FuncData
  F_Change_date_of : Fun K "date_of" "Change.date_of" s_Change_date_of a_Change_date_of fd_Change_date_of
  b_Change_date_of : Binds K fd_Change_date_of ["self", "day"] []
  a_list_of : Addr
  fd_list_of : FuncData
  F_list_of : Fun K "list_of" "list_of" s_list_of a_list_of fd_list_of
  g_list_of : mg "list_of" = some (.ref a_list_of)
  b_list_of : Binds K fd_list_of ["terms"] []
  a_many_fall : Addr
  fd_many_fall : FuncData
  F_many_fall : Fun K "many_fall" "many_fall" s_many_fall a_many_fall fd_many_fall
  g_many_fall : mg "many_fall" = some (.ref a_many_fall)
  b_many_fall : Binds K fd_many_fall ["terms"] []
  a_is_term : Addr
  fd_is_term : FuncData
  F_is_term : Fun K "is_term" "is_term" s_is_term a_is_term fd_is_term
  g_is_term : mg "is_term" = some (.ref a_is_term)
  b_is_term : Binds K fd_is_term ["term"] []
  a_is_measure : Addr
  fd_is_measure : FuncData
  F_is_measure : Fun K "is_measure" "is_measure" s_is_measure a_is_measure fd_is_measure
  g_is_measure : mg "is_measure" = some (.ref a_is_measure)
  b_is_measure : Binds K fd_is_measure ["base", "terms"] []
  a_Measure_init : Addr
  fd_Measure_init : FuncData
  F_Measure_init : FunD K "__init__" "Measure.__init__" (defArgs s_Measure_init) (defBody s_Measure_init) (defScope s_Measure_init) [.non] [] a_Measure_init fd_Measure_init
  ds_Measure_init_3 : List Value
  v_Measure_init_3 : Vals [] ds_Measure_init_3
  b_Measure_init_3 : Binds K fd_Measure_init ["self", "base", "terms"] ds_Measure_init_3
  a_are_months : Addr
  fd_are_months : FuncData
  F_are_months : Fun K "are_months" "are_months" s_are_months a_are_months fd_are_months
  g_are_months : mg "are_months" = some (.ref a_are_months)
  b_are_months : Binds K fd_are_months ["lengths", "leap", "terms"] []
  a_Sun_init : Addr
  fd_Sun_init : FuncData
  F_Sun_init : FunD K "__init__" "Sun.__init__" (defArgs s_Sun_init) (defBody s_Sun_init) (defScope s_Sun_init) [.int 1, .non] [] a_Sun_init fd_Sun_init
  ds_Sun_init_5 : List Value
  v_Sun_init_5 : Vals [] ds_Sun_init_5
  b_Sun_init_5 : Binds K fd_Sun_init ["self", "start", "lengths", "leap", "terms"] ds_Sun_init_5
  a_Change_init : Addr
  fd_Change_init : FuncData
  F_Change_init : Fun K "__init__" "Change.__init__" s_Change_init a_Change_init fd_Change_init
  b_Change_init : Binds K fd_Change_init ["self", "old", "new", "day"] []
  a_Lchange : Addr
  fd_Lchange : FuncData
  F_Lchange : Fun K "_law_change" "_law_change" s_Lchange a_Lchange fd_Lchange
  g_Lchange : mg "_law_change" = some (.ref a_Lchange)
  b_Lchange : Binds K fd_Lchange [] []
  a_Lcell_at : Addr
  fd_Lcell_at : FuncData
  F_Lcell_at : Fun K "_law_cell_at" "_law_cell_at" s_Lcell_at a_Lcell_at fd_Lcell_at
  g_Lcell_at : mg "_law_cell_at" = some (.ref a_Lcell_at)
  b_Lcell_at : Binds K fd_Lcell_at ["_law_script", "_law_k"] []
  a_Lnumber : Addr
  fd_Lnumber : FuncData
  F_Lnumber : Fun K "_law_number" "_law_number" s_Lnumber a_Lnumber fd_Lnumber
  g_Lnumber : mg "_law_number" = some (.ref a_Lnumber)
  b_Lnumber : Binds K fd_Lnumber ["_law_cell"] []
  a_Llengths : Addr
  fd_Llengths : FuncData
  F_Llengths : Fun K "_law_lengths" "_law_lengths" s_Llengths a_Llengths fd_Llengths
  g_Llengths : mg "_law_lengths" = some (.ref a_Llengths)
  b_Llengths : Binds K fd_Llengths ["_law_year", "_law_elder"] []
  a_Lsum : Addr
  fd_Lsum : FuncData
  F_Lsum : Fun K "_law_sum" "_law_sum" s_Lsum a_Lsum fd_Lsum
  g_Lsum : mg "_law_sum" = some (.ref a_Lsum)
  b_Lsum : Binds K fd_Lsum ["_law_date", "_law_elder"] []
  a_Lday : Addr
  fd_Lday : FuncData
  F_Lday : Fun K "_law_day" "_law_day" s_Lday a_Lday fd_Lday
  g_Lday : mg "_law_day" = some (.ref a_Lday)
  b_Lday : Binds K fd_Lday ["_law_script"] []
  a_Lturned : Addr
  fd_Lturned : FuncData
  F_Lturned : Fun K "_law_turned" "_law_turned" s_Lturned a_Lturned fd_Lturned
  g_Lturned : mg "_law_turned" = some (.ref a_Lturned)
  b_Lturned : Binds K fd_Lturned ["_law_date", "_law_cell", "_law_far"] []
  a_InGap_init : Addr
  fd_InGap_init : FuncData
  F_InGap_init : Fun K "__init__" "InGap.__init__" s_InGap_init a_InGap_init fd_InGap_init
  b_InGap_init : Binds K fd_InGap_init ["self", "date", "day"] []
  a_NoDate_init : Addr
  fd_NoDate_init : FuncData
  F_NoDate_init : Fun K "__init__" "NoDate.__init__" s_NoDate_init a_NoDate_init fd_NoDate_init
  b_NoDate_init : Binds K fd_NoDate_init ["self", "date"] []
  a_Calendar_day_of : Addr
  fd_Calendar_day_of : FuncData
  F_Calendar_day_of : Fun K "day_of" "Calendar.day_of" s_Calendar_day_of a_Calendar_day_of fd_Calendar_day_of
  b_Calendar_day_of : Binds K fd_Calendar_day_of ["self", "date"] []
  a_Change_day_of : Addr
  fd_Change_day_of : FuncData
  F_Change_day_of : Fun K "day_of" "Change.day_of" s_Change_day_of a_Change_day_of fd_Change_day_of
  b_Change_day_of : Binds K fd_Change_day_of ["self", "date"] []
  a_Ltold : Addr
  fd_Ltold : FuncData
  F_Ltold : Fun K "_law_told" "_law_told" s_Ltold a_Ltold fd_Ltold
  g_Ltold : mg "_law_told" = some (.ref a_Ltold)
  b_Ltold : Binds K fd_Ltold ["_law_change_here", "_law_date"] []
  a_Lhas : Addr
  fd_Lhas : FuncData
  F_Lhas : Fun K "_law_has" "_law_has" s_Lhas a_Lhas fd_Lhas
  g_Lhas : mg "_law_has" = some (.ref a_Lhas)
  b_Lhas : Binds K fd_Lhas ["_law_date", "_law_elder"] []
  a_Lwhole : Addr
  fd_Lwhole : FuncData
  F_Lwhole : Fun K "_law_whole" "_law_whole" s_Lwhole a_Lwhole fd_Lwhole
  g_Lwhole : mg "_law_whole" = some (.ref a_Lwhole)
  b_Lwhole : Binds K fd_Lwhole ["_law_found"] []
  a_Ldue : Addr
  fd_Ldue : FuncData
  F_Ldue : Fun K "_law_due" "_law_due" s_Ldue a_Ldue fd_Ldue
  g_Ldue : mg "_law_due" = some (.ref a_Ldue)
  b_Ldue : Binds K fd_Ldue ["_law_date"] []
  a_law : Addr
  fd_law : FuncData
  F_law : Fun K "law" "law" s_law a_law fd_law
  g_law : mg "law" = some (.ref a_law)
  b_law : Binds K fd_law ["_law_script"] []
  t_MOST_N : Tok
  c_MOST_N : mg "MOST_N" = some (.int 1000 t_MOST_N)
  t_MOST_BASE : Tok
  c_MOST_BASE : mg "MOST_BASE" = some (.int 20000 t_MOST_BASE)
  t_MOST_TERMS : Tok
  c_MOST_TERMS : mg "MOST_TERMS" = some (.int 6 t_MOST_TERMS)
  t_MOST_MONTHS : Tok
  c_MOST_MONTHS : mg "MOST_MONTHS" = some (.int 20 t_MOST_MONTHS)
  t_MOST_DAYS : Tok
  c_MOST_DAYS : mg "MOST_DAYS" = some (.int 1000 t_MOST_DAYS)
  n_abs : mg "abs" = none
  n_all : mg "all" = none
  n_bool : mg "bool" = none
  n_divmod : mg "divmod" = none
  n_int : mg "int" = none
  n_isinstance : mg "isinstance" = none
  n_len : mg "len" = none
  n_list : mg "list" = none
  n_max : mg "max" = none
  n_min : mg "min" = none
  n_sum : mg "sum" = none
  n_tuple : mg "tuple" = none
  C_NoChange : Addr
  gc_NoChange : mg "NoChange" = some (.ref C_NoChange)
  x_NoChange : PySem.W.excIn K C_NoChange [.type "ValueError", .type "Exception", .type "BaseException", .type "object"] "ValueError.__new__" = true
  kc_NoChange : PySem.W.keepIn K (.ref C_NoChange) = true
  bc_NoChange : PySem.W.subIn K (.ref C_NoChange) (.type "BaseException") = some true
  tc_NoChange : PySem.W.typeIn K (.ref C_NoChange) = some (.type "type")
  ic_NoChange : PySem.W.isClsIn K C_NoChange = true
  sc_NoChange : PySem.W.subIn K (.ref C_NoChange) (.ref C_NoChange) = some true
  C_FeastError : Addr
  gc_FeastError : mg "FeastError" = some (.ref C_FeastError)
  kc_FeastError : PySem.W.keepIn K (.ref C_FeastError) = true
  bc_FeastError : PySem.W.subIn K (.ref C_FeastError) (.type "BaseException") = some true
  tc_FeastError : PySem.W.typeIn K (.ref C_FeastError) = some (.type "type")
  ic_FeastError : PySem.W.isClsIn K C_FeastError = true
  sc_FeastError : PySem.W.subIn K (.ref C_FeastError) (.ref C_FeastError) = some true
  C_NoDate : Addr
  gc_NoDate : mg "NoDate" = some (.ref C_NoDate)
  kc_NoDate : PySem.W.keepIn K (.ref C_NoDate) = true
  bc_NoDate : PySem.W.subIn K (.ref C_NoDate) (.type "BaseException") = some true
  tc_NoDate : PySem.W.typeIn K (.ref C_NoDate) = some (.type "type")
  ic_NoDate : PySem.W.isClsIn K C_NoDate = true
  sc_NoDate : PySem.W.subIn K (.ref C_NoDate) (.ref C_NoDate) = some true
  C_InGap : Addr
  gc_InGap : mg "InGap" = some (.ref C_InGap)
  kc_InGap : PySem.W.keepIn K (.ref C_InGap) = true
  bc_InGap : PySem.W.subIn K (.ref C_InGap) (.type "BaseException") = some true
  tc_InGap : PySem.W.typeIn K (.ref C_InGap) = some (.type "type")
  ic_InGap : PySem.W.isClsIn K C_InGap = true
  sc_InGap : PySem.W.subIn K (.ref C_InGap) (.ref C_InGap) = some true
  sb_NoChange_FeastError : PySem.W.subIn K (.ref C_NoChange) (.ref C_FeastError) = some true
  sb_NoChange_NoDate : PySem.W.subIn K (.ref C_NoChange) (.ref C_NoDate) = some false
  sb_NoChange_InGap : PySem.W.subIn K (.ref C_NoChange) (.ref C_InGap) = some false
  sb_NoDate_NoChange : PySem.W.subIn K (.ref C_NoDate) (.ref C_NoChange) = some false
  sb_NoDate_FeastError : PySem.W.subIn K (.ref C_NoDate) (.ref C_FeastError) = some true
  sb_NoDate_InGap : PySem.W.subIn K (.ref C_NoDate) (.ref C_InGap) = some false
  sb_InGap_NoChange : PySem.W.subIn K (.ref C_InGap) (.ref C_NoChange) = some false
  sb_InGap_FeastError : PySem.W.subIn K (.ref C_InGap) (.ref C_FeastError) = some true
  sb_InGap_NoDate : PySem.W.subIn K (.ref C_InGap) (.ref C_NoDate) = some false
  xc_NoChange : ExcC K C_NoChange
  sv_NoChange : PySem.W.subIn K (.ref C_NoChange) (.type "ValueError") = some true
  xc_NoDate : ExcC K C_NoDate
  sv_NoDate : PySem.W.subIn K (.ref C_NoDate) (.type "ValueError") = some true
  xc_InGap : ExcC K C_InGap
  sv_InGap : PySem.W.subIn K (.ref C_InGap) (.type "ValueError") = some true
  C_Measure : Addr
  gc_Measure : mg "Measure" = some (.ref C_Measure)
  cl_Measure : Cls K C_Measure
  mk_Measure : Mk K C_Measure a_Measure_init
  na_Measure_base : NoAttr K C_Measure "base"
  na_Measure_terms : NoAttr K C_Measure "terms"
  me_Measure_at : Meth K C_Measure "at" a_Measure_at
  me_Measure_upto : Meth K C_Measure "upto" a_Measure_upto
  me_Measure_period : Meth K C_Measure "period" a_Measure_period
  me_Measure_seek : Meth K C_Measure "seek" a_Measure_seek
  C_Sun : Addr
  gc_Sun : mg "Sun" = some (.ref C_Sun)
  cl_Sun : Cls K C_Sun
  mk_Sun : Mk K C_Sun a_Sun_init
  na_Sun_start : NoAttr K C_Sun "start"
  na_Sun_months : NoAttr K C_Sun "months"
  na_Sun_leap : NoAttr K C_Sun "leap"
  na_Sun_years : NoAttr K C_Sun "years"
  me_Sun_year_start : Meth K C_Sun "year_start" a_Sun_year_start
  me_Sun_lengths : Meth K C_Sun "lengths" a_Sun_lengths
  me_Sun_year_at : Meth K C_Sun "year_at" a_Sun_year_at
  me_Sun_date_of : Meth K C_Sun "date_of" a_Calendar_date_of
  me_Sun_day_of : Meth K C_Sun "day_of" a_Calendar_day_of
  C_Change : Addr
  gc_Change : mg "Change" = some (.ref C_Change)
  cl_Change : Cls K C_Change
  mk_Change : Mk K C_Change a_Change_init
  na_Change_old : NoAttr K C_Change "old"
  na_Change_new : NoAttr K C_Change "new"
  na_Change_day : NoAttr K C_Change "day"
  na_Change_last : NoAttr K C_Change "last"
  na_Change_first : NoAttr K C_Change "first"
  me_Change_date_of : Meth K C_Change "date_of" a_Change_date_of
  me_Change_day_of : Meth K C_Change "day_of" a_Change_day_of
  in_NoDate_init : PySem.W.findIn K (.ref C_NoDate) "__init__" = some (some (.ref a_NoDate_init))
  ti_NoDate_init : PySem.W.typeIn K (.ref a_NoDate_init) = some (.type "function")
  xf_NoDate : XfC K C_NoDate
  no_NoDate_date : PySem.W.findIn K (.ref C_NoDate) "date" = some none
  ox_NoDate : OexC K C_NoDate
  in_InGap_init : PySem.W.findIn K (.ref C_InGap) "__init__" = some (some (.ref a_InGap_init))
  ti_InGap_init : PySem.W.typeIn K (.ref a_InGap_init) = some (.type "function")
  xf_InGap : XfC K C_InGap
  no_InGap_date : PySem.W.findIn K (.ref C_InGap) "date" = some none
  no_InGap_day : PySem.W.findIn K (.ref C_InGap) "day" = some none
  ox_InGap : OexC K C_InGap
  cr_FeastError : ClX.CRead K C_FeastError (.type "type")
  vi_FeastError : PySem.W.findCls K (.ref C_FeastError) (.type "type") "__init__" = some (.val (.builtin "ValueError.__init__"))
section
variable {P : Program} {w : World} {K : PySem.W.Frag} {mg : Str → Option Value} {base : Heap}

/-! ### sized -/
def sp_sized (K : PySem.W.Frag) : Sp := fun vs H Q _ => ∃ i, vs = [.int i] ∧ 1 ≤ i ∧ Q .non H
theorem ok_sized (T : Txt K mg base) : FnOk P w K mg base CX0 1 T.a_sized T.fd_sized ["size"] (sp_sized K) := by
  refine T.F_sized.ok sc_sized (fun vs H Q E h => ?_) (fun cdv A outer s H vs Q E hr h => ?_)
  · obtain ⟨i, rfl, _⟩ := h; rfl
  · obtain ⟨i, rfl, h1, q⟩ := h
    refine ⟨_, (pss_one (ps_if (pt_cmpR op_lt (pv 0) pe_int (nomark _)) (pss_one ps_never) pss_nil)), ?_⟩
    walk_at "if"; walk_at "go"; exact q
theorem k_sized {H : Hp} {Q : VK} {E : XK} {i : Int} (h1 : 1 ≤ i) (q : Q .non H) : sp_sized K [.int i] H Q E := ⟨i, rfl, h1, q⟩
local macro_rules | `(tactic| walk_at "st") => `(tactic| first | ((with_reducible apply k_sized); (· omega)) | fail)

/-! ### divisor -/
def sp_divisor (K : PySem.W.Frag) : Sp := fun vs H Q _ => ∃ i j : Int, vs = [.int i, .int j] ∧ Q (.int (Int.gcd i j : Nat)) H
theorem ok_divisor (T : Txt K mg base) : FnOk P w K mg base CX0 1 T.a_divisor T.fd_divisor ["one", "other"] (sp_divisor K) := by
  refine T.F_divisor.ok sc_divisor (fun vs H Q E h => ?_) (fun cdv A outer s H vs Q E hr h => ?_)
  · obtain ⟨_, _, rfl, _⟩ := h; rfl
  · obtain ⟨i, j, rfl, q⟩ := h
    have hu := hr.units
    refine ⟨_, (pss_cons (ps_set (i := 0) sc_divisor.nd rfl (Or.inl rfl) (pe_callB cb_abs (by rfl) T.n_abs (by decide +kernel) (pa_cons (pv 0) pa_nil)))
        (pss_cons (ps_set (i := 1) sc_divisor.nd rfl (Or.inl rfl) (pe_callB cb_abs (by rfl) T.n_abs (by decide +kernel) (pa_cons (pv 1) pa_nil)))
        (pss_cons (ps_while PassesOwn.never (pt_cmpR (kb_ne K (hu := hu)) (pv 1) pe_int (nomark _)) (pss_one (ps_par rfl sc_divisor.nd (i := 0) (j := 1) rfl rfl (by decide) rfl rfl (pa_cons (pv 1) (pa_cons (pe_op op_mod (pv 0) (pv 1)) pa_nil)) (by rfl))))
        (pss_one (ps_ret (pv 0)))))), ?_⟩
    walk_at "go"
    apply k_seqW
    refine k_while (fun m σ' H' => ∃ x y : Int, σ' = [some (.int x), some (.int y)] ∧ H = H' ∧ 0 ≤ x ∧ 0 ≤ y ∧ m = y.toNat ∧ Int.gcd x y = Int.gcd i j) _ ⟨_, _, rfl, rfl, abs_nn _, abs_nn _, rfl, gcd_abs i j⟩ ?_
    rintro m _ _ ⟨x, y, rfl, rfl, hx, hy, rfl, hg⟩
    walk_at "go"
    refine if_ndec (fun hbr => ?_) (fun hbr => ?_)
    · apply k_turn
      walk_at "go"
      have h1 := Int.emod_nonneg x hbr
      have h2 := Int.emod_lt_of_pos x (show 0 < y by omega)
      exact ⟨_, by omega, _, _, rfl, rfl, hy, h1, rfl, by rw [gcd_mod]; exact hg⟩
    · walk_at "go"
      rw [← hg, hbr, gcd_zero x hx] at q
      exact q
theorem k_divisor {H : Hp} {Q : VK} {E : XK} {i j : Int} (q : Q (.int (Int.gcd i j : Nat)) H) : sp_divisor K [.int i, .int j] H Q E := ⟨i, j, rfl, q⟩
local macro_rules | `(tactic| walk_at "st") => `(tactic| first | (with_reducible apply k_divisor) | fail)

/-! ### common -/
def sp_common (K : PySem.W.Frag) : Sp := fun vs H Q _ => ∃ i j : Int, vs = [.int i, .int j] ∧ 1 ≤ i ∧ 1 ≤ j ∧ Sm 300 i ∧ Sm 300 j ∧ Q (.int (lcmI i j)) H
theorem ok_common (T : Txt K mg base) : FnOk P w K mg base CX0 2 T.a_common T.fd_common ["one", "other"] (sp_common K) := by
  refine T.F_common.ok sc_common (fun vs H Q E h => ?_) (fun cdv A outer s H vs Q E hr h => ?_)
  · obtain ⟨_, _, rfl, _⟩ := h; rfl
  · obtain ⟨i, j, rfl, h1, h2, s1, s2, q⟩ := h
    have g1 := gcd_pos (b := j) h1
    have g2 := gcd_le (b := j) h1
    have sg : Sm 300 ((Int.gcd i j : Nat) : Int) := ⟨Nat.lt_of_le_of_lt (by omega) s1.h⟩
    have sq : Sm 300 (i / ((Int.gcd i j : Nat) : Int)) := ⟨Nat.lt_of_le_of_lt (by
      have := Int.ediv_le_self ((Int.gcd i j : Nat) : Int) (show 0 ≤ i by omega)
      have := Int.ediv_nonneg (show 0 ≤ i by omega) (show (0 : Int) ≤ ((Int.gcd i j : Nat) : Int) by omega)
      omega) s1.h⟩
    refine ⟨_, (pss_cons (ps_expr (pe_call (ok_sized T) (hr.mono (by decide)) (by rfl) T.g_sized T.F_sized.kp T.b_sized .nil pass0 (pa_cons (pv 0) pa_nil)))
        (pss_cons (ps_expr (pe_call (ok_sized T) (hr.mono (by decide)) (by rfl) T.g_sized T.F_sized.kp T.b_sized .nil pass0 (pa_cons (pv 1) pa_nil)))
        (pss_one (ps_ret (pe_op op_mulX (pe_op op_fdivW (pv 0) (pe_call (ok_divisor T) (hr.mono (by decide)) (by rfl) T.g_divisor T.F_divisor.kp T.b_divisor .nil pass0 (pa_cons (pv 0) (pa_cons (pv 1) pa_nil)))) (pv 1)))))), ?_⟩
    walk_at "go"
    refine k_I (sm_div (by omega) sg (by decide) (by decide)) ?_
    walk_at "go"
    exact q
theorem k_common {H : Hp} {Q : VK} {E : XK} {i j : Int} (h1 : 1 ≤ i) (h2 : 1 ≤ j) (s1 : Sm 300 i) (s2 : Sm 300 j) (q : Q (.int (lcmI i j)) H) : sp_common K [.int i, .int j] H Q E := ⟨i, j, rfl, h1, h2, s1, s2, q⟩
theorem sm300 {i : Int} (h : Sm 200 i) : Sm 300 i := sm_mono h (by decide)
local macro_rules | `(tactic| walk_at "st") => `(tactic| first | ((with_reducible apply k_common); (· omega); (· omega); (· first | assumption | exact sm300 (sm41 (by omega) (by omega))); (· first | assumption | exact sm300 (sm41 (by omega) (by omega)))) | fail)

/-! ### Measure.period -/
def sp_Measure_period (K : PySem.W.Frag) (T : Txt K mg base) : Sp := fun vs H Q _ => ∃ (m : Addr) (b : Int) (ts : List Tm), vs = [.ref m] ∧ MeasAt K T.C_Measure H m b ts ∧ (∀ t ∈ ts, TmOk t) ∧ ts.length ≤ 6 ∧ Q (.int (perT ts)) H
theorem ok_Measure_period (T : Txt K mg base) : FnOk P w K mg base CX0 3 T.a_Measure_period T.fd_Measure_period ["self"] (sp_Measure_period K T) := by
  refine T.F_Measure_period.ok sc_Measure_period (fun vs H Q E h => ?_) (fun cdv A outer s H vs Q E hr h => ?_)
  · obtain ⟨_, _, _, rfl, _⟩ := h; rfl
  · obtain ⟨m, b, ts, rfl, ⟨dx, l, hm, qs, hS, hq⟩, hok, hl, q⟩ := h
    have hu := hr.units
    refine ⟨_, (pss_cons (ps_set (i := 1) sc_Measure_period.nd rfl (Or.inl rfl) pe_int)
        (pss_cons (ps_for PassesOwn.never rfl (pi_list (pe_fld (pv 0) rfl)) (pg_name (i := 2) sc_Measure_period.nd rfl (Or.inl rfl)) (pss_one (ps_set (i := 1) sc_Measure_period.nd rfl (Or.inl rfl) (pe_call (ok_common T) (hr.mono (by decide)) (by rfl) T.g_common T.F_common.kp T.b_common .nil pass0 (pa_cons (pv 1) (pa_cons (pe_ix (kb_ix K) (pv 2) pe_int (fun _ _ => rfl)) pa_nil))))))
        (pss_one (ps_ret (pv 1))))), ?_⟩
    walk_at "go"
    with_reducible apply k_seqF
    with_reducible apply k_for
    walk_at "go"
    refine k_fldX hm T.cl_Measure T.na_Measure_terms (mfs_terms _ _) ?_
    walk_at "go"
    have hlq := hq.1
    refine for_list (xs := qs.map V.ref) (fun i σ' H' => ∃ v : Option V, σ' = [some (.ref m), some (.int (perT (ts.take i))), v] ∧ H = H') ⟨none, rfl, rfl⟩
      (fun i σ' H' _ hW => by obtain ⟨_, _, rfl⟩ := hW; exact hS) (fun i y σ' H' hy hW => ?_) (fun σ' H' hW => ?_)
    · obtain ⟨_, rfl, rfl⟩ := hW
      rw [List.getElem?_map] at hy
      obtain ⟨p, hp, rfl⟩ := Option.map_eq_some_iff.mp hy
      have hi : i < ts.length := by
        have := (List.getElem?_eq_some_iff.mp hp).1
        omega
      have ht := List.getElem?_eq_getElem hi
      have htq := hq.2 i p _ hp ht
      have ok := hok _ (List.getElem_mem hi)
      have es := perT_snoc ht
      obtain ⟨g1, g2⟩ := perT_bd hok hl i
      generalize ts[i] = t at *
      have ht4 : SqT K H p [.int t.s, .int t.a, .int t.b, .int t.n] := htq
      have hn1 := ok.n1
      have hn2 := ok.n2
      walk_at "go"
      exact ⟨_, by rw [es]; rfl, rfl⟩
    · obtain ⟨_, rfl, rfl⟩ := hW
      rw [List.length_map, hlq, List.take_of_length_le (Nat.le_refl _)]
      walk_at "go"
      exact q
theorem k_Measure_period {T : Txt K mg base} {H : Hp} {Q : VK} {E : XK} {m : Addr} {b : Int} {ts : List Tm} (h : MeasAt K T.C_Measure H m b ts) (hok : ∀ t ∈ ts, TmOk t) (hl : ts.length ≤ 6) (q : Q (.int (perT ts)) H) : sp_Measure_period K T [.ref m] H Q E := ⟨m, b, ts, rfl, h, hok, hl, q⟩

/-! ### counter.summed -/
def mk_counter_summed (ca c : Addr) : NdefX.NF := NdefX.NF.of s_counter_summed "summed" "counter.<locals>.summed" [("kept", ca)] c
def sp_counter_summed (K : PySem.W.Frag) : V → Sp := fun x vs H Q _ => ∃ (l : Addr) (ts : List Tm) (k : Int), x = .ref l ∧ vs = [.int k] ∧ TmsL K H l ts ∧ (∀ t ∈ ts, TmOk t) ∧ Sm 5000 k ∧ ∀ H', Same H H' → Q (.int (sumT ts k)) H'
theorem ok_counter_summed (T : Txt K mg base) (f ca c : Addr) : NdefX.NOk P w K mg base CX0 1 f (mk_counter_summed ca c) ["k"] ["kept"] (fun ws vs H Q E => ∃ x, ws = [some x] ∧ sp_counter_summed K x vs H Q E) := by
  refine NdefX.nok_of sc_counter_summed (fun _ _ _ us hl => match us, hl with | [_], _ => rfl) (fun ws vs H Q E h => ?_) (fun A outer s H vs ws Q E hr hf hc hw h => ?_)
  · obtain ⟨x, rfl, l, ts, k, rfl, rfl, _⟩ := h; rfl
  · obtain ⟨x, rfl, l, ts, k, rfl, rfl, hT, hok, sk, q⟩ := h
    have hu := hr.units
    obtain ⟨qs, hS, hlen, hts⟩ := hT
    refine ⟨_, PSs.nox (pss_cons (ps_set (i := 2) sc_counter_summed.nd rfl (Or.inl rfl) pe_int)
        (pss_cons (ps_for PassesOwn.never rfl (pi_list (pv 1)) (pg_tup rfl (pgs_cons (pg_name (i := 3) sc_counter_summed.nd rfl (Or.inl rfl)) (pgs_cons (pg_name (i := 4) sc_counter_summed.nd rfl (Or.inl rfl)) (pgs_cons (pg_name (i := 5) sc_counter_summed.nd rfl (Or.inl rfl)) (pgs_cons (pg_name (i := 6) sc_counter_summed.nd rfl (Or.inl rfl)) pgs_nil))))) (pss_one (ps_set (i := 2) sc_counter_summed.nd rfl (Or.inl rfl) (pe_op op_addA (pv 2) (pe_op op_mulX (pv 3) (pe_op op_fdivW (pe_op op_addA (pe_op op_mulX (pv 4) (pv 0)) (pv 5)) (pv 6)))))))
        (pss_one (ps_ret (pv 2))))), ?_⟩
    walk_at "go"
    with_reducible apply k_seqF
    with_reducible apply k_for
    walk_at "go"
    refine for_list (xs := qs.map V.ref) (fun i σ' H' => ∃ v3 v4 v5 v6 : Option V, σ' = [some (.int k), some (.ref l), some (.int (sumT (ts.take i) k)), v3, v4, v5, v6] ∧ H = H') ⟨none, none, none, none, rfl, rfl⟩
      (fun i σ' H' _ hW => by obtain ⟨_, _, _, _, _, rfl⟩ := hW; exact hS) (fun i y σ' H' hy hW => ?_) (fun σ' H' hW => ?_)
    · obtain ⟨_, _, _, _, rfl, rfl⟩ := hW
      rw [List.getElem?_map] at hy
      obtain ⟨p, hp, rfl⟩ := Option.map_eq_some_iff.mp hy
      have hi : i < ts.length := by
        have := (List.getElem?_eq_some_iff.mp hp).1
        omega
      have ht := List.getElem?_eq_getElem hi
      have htq := hts i p _ hp ht
      have ok := hok _ (List.getElem_mem hi)
      have es := sumT_snoc (k := k) ht
      generalize ts[i] = t at *
      have ht4 : SqT K H p [.int t.s, .int t.a, .int t.b, .int t.n] := htq
      have hs1 := ok.s
      have hn1 := ok.n1
      have hn2 := ok.n2
      have ha0 := ok.a0
      have han := ok.an
      have hb0 := ok.b0
      have hbn := ok.bn
      walk_at "go"
      refine k_I (sm_mulx (sm41 (i := t.s) (by omega) (by omega)) (sm_quot (sm_addM (sm_mul (sm41 (i := t.a) (by omega) (by omega)) sk) (sm41 (i := t.b) (by omega) (by omega)))) (by decide)) ?_
      walk_at "go"
      rw [← es]
      exact ⟨_, _, _, _, rfl, rfl⟩
    · obtain ⟨_, _, _, _, rfl, rfl⟩ := hW
      rw [List.length_map, hlen, List.take_of_length_le (Nat.le_refl _)]
      walk_at "go"
      exact q _ (Same.refl _)

/-! ### counter -/
/-- a counter stands at f, of the terms ts, its own list at l -/
structure CloP (K : PySem.W.Frag) (T : Txt K mg base) (H : Hp) (f l : Addr) (ts : List Tm) (c' ca : Addr) (ob : Obj) (u : Value) : Prop where
  fn : H f = some (NdefX.FnO f (mk_counter_summed ca c'))
  co : H c' = some (LamX.CodeO c' "counter.<locals>.summed")
  ce : H ca = some (exV ca ob)
  da : ob.data = .cell (some u)
  rl : RelV (.ref l) u
  n1 : f ≠ ca
  n2 : c' ≠ ca
  tm : TmsL K H l ts
  ok : ∀ t ∈ ts, TmOk t
def Clo (K : PySem.W.Frag) (T : Txt K mg base) (H : Hp) (f l : Addr) (ts : List Tm) : Prop := ∃ (c' ca : Addr) (ob : Obj) (u : Value), CloP K T H f l ts c' ca ob u
theorem CloP.mono {T : Txt K mg base} {H H' : Hp} {f l c' ca : Addr} {ts : List Tm} {ob : Obj} {u : Value} (s : SameT (NT T.ct_counter) H H') (h : CloP K T H f l ts c' ca ob u) : CloP K T H' f l ts c' ca ob u :=
  ⟨s.ext _ _ h.fn NdefX.fnO_ne, s.ext _ _ h.co LamX.codeO_ne, s.ext _ _ h.ce (fun _ => exV_tbl), h.da, h.rl, h.n1, h.n2, h.tm.mono s, h.ok⟩
theorem Clo.mono {T : Txt K mg base} {H H' : Hp} {f l : Addr} {ts : List Tm} (s : SameT (NT T.ct_counter) H H') (h : Clo K T H f l ts) : Clo K T H' f l ts := by
  obtain ⟨c', ca, ob, u, h⟩ := h
  exact ⟨c', ca, ob, u, h.mono s⟩
def CloFin (K : PySem.W.Frag) (f : Addr) (c' ca l : Addr) (ob : Obj) (u : Value) (vs : List V) (H1 : Hp) (Q : VK) : Prop :=
  H1 f = some (NdefX.FnO f (mk_counter_summed ca c')) ∧ H1 (mk_counter_summed ca c').c = some (LamX.CodeO (mk_counter_summed ca c').c (mk_counter_summed ca c').qual) ∧ H1 ca = some (exV ca ob) ∧ ob.data = .cell (some u) ∧ RelV (.ref l) u ∧ f ≠ ca ∧ (mk_counter_summed ca c').c ≠ ca ∧
    sp_counter_summed K (.ref l) vs (dlH H1 ca) (fun v H2 => Q v (upd H2 ca (exV ca ob))) (fun _ _ _ => False)
theorem k_clo1 {T : Txt K mg base} {i : Nat} {t : TA} {σ : L2.St} {H : Hp} {Q : VK} {f l c' ca : Addr} {ts : List Tm} {ob : Obj} {u : Value} (hc : CloP K T H f l ts c' ca ob u) (hi : σ[i]? = some (some (.ref f)))
    (h : t σ H fun vs H1 => CloFin K f c' ca l ob u vs H1 Q) : tCallClo mk_counter_summed i (sp_counter_summed K) t σ H Q := ⟨f, c', ca, ob, u, .ref l, hi, hc.fn, h⟩
theorem k_clo2 {T : Txt K mg base} {H : Hp} {Q : VK} {f l c' ca : Addr} {ts : List Tm} {ob : Obj} {u : Value} {k : Int} (hc : CloP K T H f l ts c' ca ob u) (sk : Sm 5000 k) (q : ∀ H', Same H H' → Q (.int (sumT ts k)) H') : CloFin K f c' ca l ob u [.int k] H Q :=
  ⟨hc.fn, hc.co, hc.ce, hc.da, hc.rl, hc.n1, hc.n2, l, ts, k, rfl, rfl, hc.tm.dl hc.ce, hc.ok, sk, fun H2 s2 => q _ (upd_dl hc.ce s2)⟩
/-- another list changes -/
theorem Clo.mut {T : Txt K mg base} {H : Hp} {f l a : Addr} {ts : List Tm} {xs ys : List V} (h : Clo K T H f l ts) (ha : H a = some (.lst xs)) (hl : l ≠ a) : Clo K T (upd H a (.lst ys)) f l ts := by
  obtain ⟨c', ca, ob, u, h⟩ := h
  have ne : ∀ {b : Addr} {o : HO}, H b = some o → (∀ z, o ≠ .lst z) → upd H a (.lst ys) b = some o := fun {b o} hb hn => by
    rw [upd_ne (fun z => by rw [z, ha] at hb; exact hn _ (Option.some.inj hb).symm)]; exact hb
  obtain ⟨qs, hS, hq⟩ := h.tm
  refine ⟨c', ca, ob, u, ne h.fn (fun z e => by cases e), ne h.co (fun z e => by cases e), ne h.ce (fun z e => by cases e), h.da, h.rl, h.n1, h.n2, ⟨qs, ?_, hq.updL ha⟩, h.ok⟩
  rcases hS with (hS | ⟨o, hS⟩) | hS
  · exact .inl (.inl (by rw [upd_ne hl]; exact hS))
  · exact .inl (.inr ⟨o, by rw [upd_ne hl]; exact hS⟩)
  · exact .inr hS
def sp_counter (K : PySem.W.Frag) (T : Txt K mg base) : Sp := fun vs H Q _ => ∃ (a : Addr) (ts : List Tm), vs = [.ref a] ∧ TmsL K H a ts ∧ (∀ t ∈ ts, TmOk t) ∧ ts.length ≤ 100 ∧ NdefX.TabsN (NT T.ct_counter) H ∧ ∀ f l H', SameT (NT T.ct_counter) H H' → H l = none → Clo K T H' f l ts → Q (.ref f) H'
theorem ok_counter (T : Txt K mg base) : FnOk P w K mg base CX0 2 T.a_counter T.fd_counter ["terms"] (sp_counter K T) := by
  refine FunC.okClo (j := 2) (y := "kept") T.F_counter sc_counter (fun vs H Q E h => ?_) rfl rfl rfl (fun A outer s H vs Q E hr h => ?_)
  · obtain ⟨_, _, rfl, _⟩ := h; rfl
  · obtain ⟨a, ts, rfl, ⟨qs, hS, hq⟩, hok, hl, hT, q⟩ := h
    have hu := hr.units
    refine ⟨_, _, _, (ps_set (i := 2) sc_counter.nd rfl (Or.inr rfl) (pe_callTy (kb_lof K rfl) (by rfl) T.n_list (by decide +kernel) (pa_cons (pv 0) pa_nil))), NdefX.ps_ndefMS (i := 1) (st := s_counter_summed) (T := NT T.ct_counter) (nm := fun _ _ => "counter.<locals>.summed") rfl T.tb_counter rfl List.mem_cons_self rfl (fun p hp _ => by cases List.mem_singleton.mp hp; rfl) (NdefX.ndef_free (sc := defScope s_counter) (nsc := C8.fnScope s_counter_summed) (fr := ["kept"]) (by decide +kernel)) rfl rfl rfl sc_counter.nd rfl (Or.inl rfl) (Or.inl rfl), (pv 1), ?_⟩
    walk_at "go"
    rename_i p H1 hn s1 t1
    refine ⟨hT.ext s1, fun f c' H2 eN _ T2 f0 f1 c1 => ?_⟩
    walk_at "go"
    refine ⟨.ref p, rfl, fun ca ob u hca hH f3 hd hru => ?_⟩
    have e1 : cellsFrom (s.heap.objs.size + 1) (defScope s_counter).names [] = [(("kept" : Str), s.heap.objs.size + 1)] := rfl
    rw [e1] at hca
    have e2 : s.heap.objs.size + 1 = ca := by simpa [List.lookup] using hca
    subst e2
    have ne : ∀ {b : Addr} {o : HO}, H2 b = some o → b ≠ s.heap.objs.size + 1 := fun {b o} h z => by
      rw [z, f3] at h; cases h
    have s2 : SameT (NT T.ct_counter) H1 H2 := ⟨eN, fun _ => T2⟩
    have s3 : SameT (NT T.ct_counter) H2 (upd H2 (s.heap.objs.size + 1) (exV (s.heap.objs.size + 1) ob)) := .of (same_new f3)
    have s13 := (SameT.of (T := NT T.ct_counter) s1).trans (s2.trans s3)
    refine q f p _ s13 hn ⟨c', _, ob, u, s3.ext _ _ f1 NdefX.fnO_ne, s3.ext _ _ c1 LamX.codeO_ne, upd_same, hd, hru, ne f1, ne c1, ⟨qs, ?_, hq.mono s13⟩, hok⟩
    exact (s2.trans s3).sql (SqL.of t1)
theorem k_counter {T : Txt K mg base} {H : Hp} {Q : VK} {E : XK} {a : Addr} {ts : List Tm} (hS : TmsL K H a ts) (hok : ∀ t ∈ ts, TmOk t) (hl : ts.length ≤ 100) (hT : NdefX.TabsN (NT T.ct_counter) H)
    (q : ∀ f l H', SameT (NT T.ct_counter) H H' → H l = none → Clo K T H' f l ts → Q (.ref f) H') : sp_counter K T [.ref a] H Q E := ⟨a, ts, rfl, hS, hok, hl, hT, q⟩

/-! ### Measure.upto -/
def sp_Measure_upto (K : PySem.W.Frag) (T : Txt K mg base) : Sp := fun vs H Q _ => ∃ (m : Addr) (b : Int) (ts : List Tm) (k : Int), vs = [.ref m, .int k] ∧ MeasAt K T.C_Measure H m b ts ∧ 0 ≤ b ∧ b ≤ 20000 ∧ (∀ t ∈ ts, TmOk t) ∧ ts.length ≤ 100 ∧ Sm 5000 k ∧ NdefX.TabsN (NT T.ct_counter) H ∧ ∀ H', SameT (NT T.ct_counter) H H' → Q (.int (uptoM b ts k)) H'
theorem ok_Measure_upto (T : Txt K mg base) : FnOk P w K mg base CX0 3 T.a_Measure_upto T.fd_Measure_upto ["self", "k"] (sp_Measure_upto K T) := by
  refine T.F_Measure_upto.ok sc_Measure_upto (fun vs H Q E h => ?_) (fun cdv A outer s H vs Q E hr h => ?_)
  · obtain ⟨_, _, _, _, rfl, _⟩ := h; rfl
  · obtain ⟨m, b, ts, k, rfl, ⟨dx, l, hm, hT⟩, b0, b1, hok, hl, sk, hTab, q⟩ := h
    have hu := hr.units
    refine ⟨_, (pss_cons (ps_set (i := 2) sc_Measure_upto.nd rfl (Or.inl rfl) (pe_call (ok_counter T) (hr.mono (by decide)) (by rfl) T.g_counter T.F_counter.kp T.b_counter .nil pass0 (pa_cons (pe_fld (pv 0) rfl) pa_nil)))
        (pss_one (ps_ret (pe_op op_addA (pe_op op_mulX (pe_fld (pv 0) rfl) (pv 1)) (pe_callClo (i := 2) (fun f ca c => ok_counter_summed T f ca c) (fun _ _ => rfl) (hr.mono (by decide)) (fun _ _ _ _ _ z => z) rfl (Or.inl rfl) (pa_cons (pv 1) pa_nil)))))), ?_⟩
    walk_at "go"
    refine k_fldX hm T.cl_Measure T.na_Measure_terms (mfs_terms _ _) ?_
    walk_at "go"
    refine k_counter hT hok hl hTab fun f l2 H1 s1 _ hc => ?_
    have hm1 := s1.ins hm
    obtain ⟨c', ca, ob, u, hcp⟩ := hc
    walk_at "go"
    refine k_fldX hm1 T.cl_Measure T.na_Measure_base (mfs_base _ _) ?_
    walk_at "go"
    refine k_clo1 hcp rfl ?_
    walk_at "go"
    refine k_clo2 hcp sk fun H2 s2 => ?_
    walk_at "go"
    exact q _ (s1.trans (.of s2))
theorem k_Measure_upto {T : Txt K mg base} {H : Hp} {Q : VK} {E : XK} {m : Addr} {b : Int} {ts : List Tm} {k : Int} (h : MeasAt K T.C_Measure H m b ts) (b0 : 0 ≤ b) (b1 : b ≤ 20000) (hok : ∀ t ∈ ts, TmOk t) (hl : ts.length ≤ 100) (sk : Sm 5000 k) (hT : NdefX.TabsN (NT T.ct_counter) H)
    (q : ∀ H', SameT (NT T.ct_counter) H H' → Q (.int (uptoM b ts k)) H') : sp_Measure_upto K T [.ref m, .int k] H Q E := ⟨m, b, ts, k, rfl, h, b0, b1, hok, hl, sk, hT, q⟩

/-! ### Measure.seek -/
def sp_Measure_seek (K : PySem.W.Frag) (T : Txt K mg base) : Sp := fun vs H Q _ => ∃ (m : Addr) (b : Int) (ts : List Tm) (x : Int) (n : Nat), vs = [.ref m, .int x] ∧ MeasAt K T.C_Measure H m b ts ∧ MeasOk b ts ∧ Sm n x ∧ n ≤ 4000 ∧ NdefX.TabsN (NT T.ct_counter) H ∧
  ∀ (z : Int) (H' : Hp), SameT (NT T.ct_counter) H H' → uptoM b ts z ≤ x → x < uptoM b ts (z + 1) → Sm (n + 500) z → Q (.int z) H'
theorem ok_Measure_seek (T : Txt K mg base) : FnOk P w K mg base CX0 4 T.a_Measure_seek T.fd_Measure_seek ["self", "total"] (sp_Measure_seek K T) := by
  refine T.F_Measure_seek.ok sc_Measure_seek (fun vs H Q E h => ?_) (fun cdv A outer s H vs Q E hr h => ?_)
  · obtain ⟨_, _, _, _, _, rfl, _⟩ := h; rfl
  · obtain ⟨m, b, ts, x, n, rfl, ma, ok, sx, hn, hT, q⟩ := h
    have hu := hr.units
    obtain ⟨dx, lm, hmi, htm⟩ := ma
    have no_up : (mfs b lm).lookup ("upto" : Str) = none := mfs_no _ _ (by decide +kernel) (by decide +kernel)
    have no_pe : (mfs b lm).lookup ("period" : Str) = none := mfs_no _ _ (by decide +kernel) (by decide +kernel)
    have ma : MeasAt K T.C_Measure H m b ts := ⟨dx, lm, hmi, htm⟩
    have b0 := ok.b0
    have b1 := ok.b1
    have hlen := ok.len
    obtain ⟨p1, p2⟩ := per_bd ok
    obtain ⟨u1, u2⟩ := per_upto ok
    refine ⟨_, (pss_cons (ps_set (i := 2) sc_Measure_seek.nd rfl (Or.inl rfl) (pe_meth0 (pv 0) T.cl_Measure T.me_Measure_period (ok_Measure_period T) (hr.mono (by decide)) T.b_Measure_period .nil pass0))
        (pss_cons (ps_asg (pe_callB cb_divmod (by rfl) T.n_divmod (by decide +kernel) (pa_cons (pv 1) (pa_cons (pe_meth (pv 0) T.cl_Measure T.me_Measure_upto (ok_Measure_upto T) (hr.mono (by decide)) T.b_Measure_upto .nil pass0 (pa_cons (pv 2) pa_nil)) pa_nil))) (pg_tup rfl (pgs_cons (pg_name (i := 3) sc_Measure_seek.nd rfl (Or.inl rfl)) (pgs_cons (pg_name (i := 4) sc_Measure_seek.nd rfl (Or.inl rfl)) pgs_nil))))
        (pss_cons (ps_set (i := 5) sc_Measure_seek.nd rfl (Or.inl rfl) pe_int)
        (pss_cons (ps_set (i := 6) sc_Measure_seek.nd rfl (Or.inl rfl) (pv 2))
        (pss_cons (ps_while PassesOwn.never (pt_cmpR op_gt (pe_op op_sub (pv 6) (pv 5)) pe_int (nomark _)) (pss_cons (ps_set (i := 7) sc_Measure_seek.nd rfl (Or.inl rfl) (pe_op op_fdivW (pe_op op_addA (pv 5) (pv 6)) pe_int))
        (pss_one (ps_if (pt_cmpR op_le (pe_meth (pv 0) T.cl_Measure T.me_Measure_upto (ok_Measure_upto T) (hr.mono (by decide)) T.b_Measure_upto .nil pass0 (pa_cons (pv 7) pa_nil)) (pv 4) (nomark _)) (pss_one (ps_set (i := 5) sc_Measure_seek.nd rfl (Or.inl rfl) (pv 7))) (pss_one (ps_set (i := 6) sc_Measure_seek.nd rfl (Or.inl rfl) (pv 7)))))))
        (pss_one (ps_ret (pe_op op_addA (pe_op op_mulX (pv 3) (pv 2)) (pv 5))))))))), ?_⟩
    walk_at "go"
    refine k_metX hmi no_pe ?_
    walk_at "go"
    refine k_Measure_period ma ok.ok hlen ?_
    have hro := fun r k => upto_rounds (b := b) ok.ok (per_dvd ok) r k
    generalize hP : perT ts = R at *
    walk_at "go"
    refine k_metX hmi no_up ?_
    walk_at "go"
    refine k_Measure_upto ma b0 b1 ok.ok (by omega) (sm_mono (sm41 (by omega) (by omega)) (by decide)) hT fun H1 s1 => ?_
    have ma1 := ma.mono s1
    have hmi1 := s1.ins hmi
    have hT1 := s1.tab hT
    generalize hU : uptoM b ts R = U at *
    have e1 := Int.emod_add_mul_ediv x U
    have m1 := Int.emod_nonneg x (show U ≠ 0 by omega)
    have m2 := Int.emod_lt_of_pos x (show 0 < U by omega)
    walk_at "go"
    refine k_divmod (sm_divp4 (by omega) sx hn) fun p H2 hnp s2 t2 => ?_
    have s12 := s1.trans (.of s2)
    walk_at "go"
    apply k_seqW
    refine k_while (fun j σ' H' => ∃ (lo hi : Int) (v : Option V), σ' = [some (.ref m), some (.int x), some (.int R), some (.int (x / U)), some (.int (x % U)), some (.int lo), some (.int hi), v] ∧ SameT (NT T.ct_counter) H H' ∧ 0 ≤ lo ∧ lo < hi ∧ hi ≤ R ∧ uptoM b ts lo ≤ x % U ∧ x % U < uptoM b ts hi ∧ j = (hi - lo).toNat) (R.toNat)
      ⟨0, R, none, rfl, s12, by omega, by omega, by omega, by rw [upto_zero ok.ok]; exact m1, by rw [hU]; exact m2, by omega⟩ ?_
    rintro j _ H3 ⟨lo, hi, _, rfl, s3, g0, g1, g2, g3, g4, rfl⟩
    have ma3 := ma.mono s3
    have hmi3 := s3.ins hmi
    have hT3 := s3.tab hT
    walk_at "go"
    refine if_dec (fun hbr => ?_) (fun hbr => ?_)
    · apply k_turn
      walk_at "go"
      have d1 : lo < (lo + hi) / 2 := by omega
      have d2 : (lo + hi) / 2 < hi := by omega
      generalize (lo + hi) / 2 = mid at *
      with_reducible apply k_if
      walk_at "go"
      refine k_metX hmi3 no_up ?_
      walk_at "go"
      refine k_Measure_upto ma3 b0 b1 ok.ok (by omega) (sm_mono (sm41 (by omega) (by omega)) (by decide)) hT3 fun H4 s4 => ?_
      walk_at "go"
      refine if_dec (fun hb2 => ?_) (fun hb2 => ?_)
      · walk_at "go"
        exact ⟨_, by omega, _, _, _, rfl, s3.trans s4, by omega, by omega, by omega, hb2, g4, rfl⟩
      · walk_at "go"
        exact ⟨_, by omega, _, _, _, rfl, s3.trans s4, by omega, by omega, by omega, g3, by omega, rfl⟩
    · have hh : hi = lo + 1 := by omega
      subst hh
      have sz : Sm n (x / U) := sm_quot sx
      have sR : Sm 200 R := sm41 (by omega) (by omega)
      have sl : Sm 200 lo := sm41 (by omega) (by omega)
      walk_at "go"
      refine k_I (sm_mulx sz sR (by omega)) ?_
      walk_at "go"
      refine q _ _ s3 ?_ ?_ (sm_mono (sm_addM (sm_mul sz sR) sl) (by omega))
      · rw [hro]; rw [Int.mul_comm]; omega
      · rw [show x / U * R + lo + 1 = x / U * R + (lo + 1) by omega, hro]; rw [Int.mul_comm]; omega
theorem k_Measure_seek {T : Txt K mg base} {H : Hp} {Q : VK} {E : XK} {m : Addr} {b : Int} {ts : List Tm} {x : Int} {n : Nat} (h : MeasAt K T.C_Measure H m b ts) (ok : MeasOk b ts) (sx : Sm n x) (hn : n ≤ 4000) (hT : NdefX.TabsN (NT T.ct_counter) H)
    (q : ∀ (z : Int) (H' : Hp), SameT (NT T.ct_counter) H H' → uptoM b ts z ≤ x → x < uptoM b ts (z + 1) → Sm (n + 500) z → Q (.int z) H') : sp_Measure_seek K T [.ref m, .int x] H Q E := ⟨m, b, ts, x, n, rfl, h, ok, sx, hn, hT, q⟩

/-! ### Sun.year_at -/
def sp_Sun_year_at (K : PySem.W.Frag) (T : Txt K mg base) : Sp := fun vs H Q _ => ∃ (c : Addr) (st : Int) (ls : List Int) (lp : Int) (ts : List Tm) (x : Int) (n : Nat), vs = [.ref c, .int x] ∧ SunAt K T.C_Sun T.C_Measure H c st ls lp ts ∧ SunOk ls lp ts ∧ Sm n (x - st) ∧ n ≤ 4000 ∧ NdefX.TabsN (NT T.ct_counter) H ∧
  ∀ (y : Int) (H' : Hp), SameT (NT T.ct_counter) H H' → st + uptoM ls.sum ts y ≤ x → x < st + uptoM ls.sum ts (y + 1) → Sm (n + 500) y → Q (.int y) H'
theorem ok_Sun_year_at (T : Txt K mg base) : FnOk P w K mg base CX0 5 T.a_Sun_year_at T.fd_Sun_year_at ["self", "day"] (sp_Sun_year_at K T) := by
  refine T.F_Sun_year_at.ok sc_Sun_year_at (fun vs H Q E h => ?_) (fun cdv A outer s H vs Q E hr h => ?_)
  · obtain ⟨_, _, _, _, _, _, _, rfl, _⟩ := h; rfl
  · obtain ⟨c, st, ls, lp, ts, x, n, rfl, ⟨dx, pm, py, hc, hm, hy⟩, ok, sx, hn, hT, q⟩ := h
    have hu := hr.units
    have mo := ok.meas
    obtain ⟨dy, ly, hyi, hyt⟩ := hy
    refine ⟨_, (pss_one (ps_ret (pe_meth (pe_fld (pv 0) rfl) T.cl_Measure T.me_Measure_seek (ok_Measure_seek T) (hr.mono (by decide)) T.b_Measure_seek .nil pass0 (pa_cons (pe_op op_sub (pv 1) (pe_fld (pv 0) rfl)) pa_nil)))), ?_⟩
    walk_at "go"
    refine k_fldX hc T.cl_Sun T.na_Sun_years (sfs_years _ _ _ _) ?_
    walk_at "go"
    refine k_metX hyi (mfs_no _ _ (by decide +kernel) (by decide +kernel)) ?_
    walk_at "go"
    refine k_fldX hc T.cl_Sun T.na_Sun_start (sfs_start _ _ _ _) ?_
    walk_at "go"
    refine k_Measure_seek ⟨dy, ly, hyi, hyt⟩ mo sx hn hT fun y H1 s1 y1 y2 sy => ?_
    walk_at "go"
    exact q _ _ s1 (by omega) (by omega) sy
theorem k_Sun_year_at {T : Txt K mg base} {H : Hp} {Q : VK} {E : XK} {c : Addr} {st : Int} {ls : List Int} {lp : Int} {ts : List Tm} {x : Int} {n : Nat} (h : SunAt K T.C_Sun T.C_Measure H c st ls lp ts) (ok : SunOk ls lp ts) (sx : Sm n (x - st)) (hn : n ≤ 4000) (hT : NdefX.TabsN (NT T.ct_counter) H)
    (q : ∀ (y : Int) (H' : Hp), SameT (NT T.ct_counter) H H' → st + uptoM ls.sum ts y ≤ x → x < st + uptoM ls.sum ts (y + 1) → Sm (n + 500) y → Q (.int y) H') : sp_Sun_year_at K T [.ref c, .int x] H Q E := ⟨c, st, ls, lp, ts, x, n, rfl, h, ok, sx, hn, hT, q⟩

/-! ### term_on -/
def sp_term_on (K : PySem.W.Frag) : Sp := fun vs H Q _ => ∃ (p : Addr) (t : Tm) (k : Int), vs = [.ref p, .int k] ∧ SqT K H p (tmV t) ∧ TmOk t ∧ Sm 5000 k ∧ Q (.bl (decide (t.n ≤ (t.a * k + t.b) % t.n + t.a))) H
theorem ok_term_on (T : Txt K mg base) : FnOk P w K mg base CX0 1 T.a_term_on T.fd_term_on ["term", "k"] (sp_term_on K) := by
  refine T.F_term_on.ok sc_term_on (fun vs H Q E h => ?_) (fun cdv A outer s H vs Q E hr h => ?_)
  · obtain ⟨_, _, _, rfl, _⟩ := h; rfl
  · obtain ⟨p, t, k, rfl, htq, ok, sk, q⟩ := h
    have hu := hr.units
    have ht4 : SqT K H p [.int t.s, .int t.a, .int t.b, .int t.n] := htq
    have hn1 := ok.n1
    have hn2 := ok.n2
    have ha0 := ok.a0
    have han := ok.an
    have hb0 := ok.b0
    have hbn := ok.bn
    refine ⟨_, (pss_cons (ps_set (i := 2) sc_term_on.nd rfl (Or.inl rfl) (pe_ix (kb_ix K) (pv 0) pe_int (fun _ _ => rfl)))
        (pss_cons (ps_set (i := 3) sc_term_on.nd rfl (Or.inl rfl) (pe_ix (kb_ix K) (pv 0) pe_int (fun _ _ => rfl)))
        (pss_one (ps_ret (pe_cmpR op_ge (pe_op op_addA (pe_op op_mod (pe_op op_addA (pe_op op_mulX (pv 2) (pv 1)) (pe_ix (kb_ix K) (pv 0) pe_int (fun _ _ => rfl))) (pv 3)) (pv 2)) (pv 3) (nomark _)))))), ?_⟩
    walk_at "go"
    exact q
theorem k_term_on {K : PySem.W.Frag} {H : Hp} {Q : VK} {E : XK} {p : Addr} {t : Tm} {k : Int} (h : SqT K H p (tmV t)) (ok : TmOk t) (sk : Sm 5000 k) (q : Q (.bl (decide (t.n ≤ (t.a * k + t.b) % t.n + t.a))) H) : sp_term_on K [.ref p, .int k] H Q E := ⟨p, t, k, rfl, h, ok, sk, q⟩

/-! ### Measure.at -/
def sp_Measure_at (K : PySem.W.Frag) (T : Txt K mg base) : Sp := fun vs H Q _ => ∃ (m : Addr) (b : Int) (ts : List Tm) (k : Int), vs = [.ref m, .int k] ∧ MeasAt K T.C_Measure H m b ts ∧ (∀ t ∈ ts, TmOk t) ∧ Sm 5000 k ∧ Q (.int (atM b ts k)) H
theorem ok_Measure_at (T : Txt K mg base) : FnOk P w K mg base CX0 2 T.a_Measure_at T.fd_Measure_at ["self", "k"] (sp_Measure_at K T) := by
  refine T.F_Measure_at.ok sc_Measure_at (fun vs H Q E h => ?_) (fun cdv A outer s H vs Q E hr h => ?_)
  · obtain ⟨_, _, _, _, rfl, _⟩ := h; rfl
  · obtain ⟨m, b, ts, k, rfl, ⟨dx, l, hm, qs, hS, hq⟩, hok, sk, q⟩ := h
    have hu := hr.units
    refine ⟨_, (pss_cons (ps_set (i := 2) sc_Measure_at.nd rfl (Or.inl rfl) (pe_fld (pv 0) rfl))
        (pss_cons (ps_for PassesOwn.never rfl (pi_list (pe_fld (pv 0) rfl)) (pg_name (i := 3) sc_Measure_at.nd rfl (Or.inl rfl)) (pss_one (ps_if (pt_val (pe_call (ok_term_on T) (hr.mono (by decide)) (by rfl) T.g_term_on T.F_term_on.kp T.b_term_on .nil pass0 (pa_cons (pv 3) (pa_cons (pv 1) pa_nil)))) (pss_one (ps_set (i := 2) sc_Measure_at.nd rfl (Or.inl rfl) (pe_op op_addA (pv 2) (pe_ix (kb_ix K) (pv 3) pe_int (fun _ _ => rfl))))) pss_nil)))
        (pss_one (ps_ret (pv 2))))), ?_⟩
    walk_at "go"
    refine k_fldX hm T.cl_Measure T.na_Measure_base (mfs_base _ _) ?_
    walk_at "go"
    with_reducible apply k_seqF
    with_reducible apply k_for
    walk_at "go"
    refine k_fldX hm T.cl_Measure T.na_Measure_terms (mfs_terms _ _) ?_
    walk_at "go"
    have hlq := hq.1
    refine for_list (xs := qs.map V.ref) (fun i σ' H' => ∃ v : Option V, σ' = [some (.ref m), some (.int k), some (.int (b + riseT (ts.take i) k)), v] ∧ H = H') ⟨none, by simp [riseT]; rfl, rfl⟩
      (fun i σ' H' _ hW => by obtain ⟨_, _, rfl⟩ := hW; exact hS) (fun i y σ' H' hy hW => ?_) (fun σ' H' hW => ?_)
    · obtain ⟨_, rfl, rfl⟩ := hW
      rw [List.getElem?_map] at hy
      obtain ⟨p, hp, rfl⟩ := Option.map_eq_some_iff.mp hy
      have hi : i < ts.length := by
        have := (List.getElem?_eq_some_iff.mp hp).1
        omega
      have ht := List.getElem?_eq_getElem hi
      have htq := hq.2 i p _ hp ht
      have ok := hok _ (List.getElem_mem hi)
      have es := riseT_snoc (k := k) ht
      generalize ts[i] = t at *
      have ht4 : SqT K H p [.int t.s, .int t.a, .int t.b, .int t.n] := htq
      have hon := rise_on ok k
      have hrb := riseM_bd ok k
      walk_at "go"
      with_reducible apply k_if
      walk_at "go"
      refine k_term_on htq ok sk ?_
      walk_at "go"
      refine if_dec (fun h => ?_) (fun h => ?_)
      · walk_at "go"
        exact ⟨_, by rw [es, hon.mp h, Int.mul_one, ← Int.add_assoc]; rfl, rfl⟩
      · walk_at "go"
        have h0 : riseM t k = 0 := by
          have := fun e => h (hon.mpr e)
          omega
        exact ⟨_, by rw [es, h0, Int.mul_zero, Int.add_zero]; rfl, rfl⟩
    · obtain ⟨_, rfl, rfl⟩ := hW
      rw [List.length_map, hlq, List.take_of_length_le (Nat.le_refl _)]
      walk_at "go"
      exact q
theorem k_Measure_at {T : Txt K mg base} {H : Hp} {Q : VK} {E : XK} {m : Addr} {b : Int} {ts : List Tm} {k : Int} (h : MeasAt K T.C_Measure H m b ts) (hok : ∀ t ∈ ts, TmOk t) (sk : Sm 5000 k) (q : Q (.int (atM b ts k)) H) : sp_Measure_at K T [.ref m, .int k] H Q E := ⟨m, b, ts, k, rfl, h, hok, sk, q⟩

/-! ### Sun.lengths -/
def sp_Sun_lengths (K : PySem.W.Frag) (T : Txt K mg base) : Sp := fun vs H Q _ => ∃ (c : Addr) (st : Int) (ls : List Int) (lp : Int) (ts : List Tm) (y : Int), vs = [.ref c, .int y] ∧ SunAt K T.C_Sun T.C_Measure H c st ls lp ts ∧ SunOk ls lp ts ∧ Sm 5000 y ∧
  ∀ (p : Addr) (H' : Hp), H p = none → Same H H' → H' p = some (.lst ((lensS ls lp ts y).map V.int)) → Q (.ref p) H'
theorem ok_Sun_lengths (T : Txt K mg base) : FnOk P w K mg base CX0 3 T.a_Sun_lengths T.fd_Sun_lengths ["self", "year"] (sp_Sun_lengths K T) := by
  refine T.F_Sun_lengths.ok sc_Sun_lengths (fun vs H Q E h => ?_) (fun cdv A outer s H vs Q E hr h => ?_)
  · obtain ⟨_, _, _, _, _, _, rfl, _⟩ := h; rfl
  · obtain ⟨c, st, ls, lp, ts, y, rfl, ⟨dx, pm, py, hc, hm, hy⟩, ok, sy, q⟩ := h
    have hu := hr.units
    have mo := ok.meas
    have h2 := ok.len20
    have h3 := ok.lp1
    have h4 := ok.lp2
    have hix := atI_getD (ls := ls) (i := lp - 1) (by omega) (by omega)
    obtain ⟨dy, ly, hyi, hyt⟩ := hy
    refine ⟨_, (pss_cons (ps_set (i := 2) sc_Sun_lengths.nd rfl (Or.inl rfl) (pe_callTy (kb_lof K rfl) (by rfl) T.n_list (by decide +kernel) (pa_cons (pe_fld (pv 0) rfl) pa_nil)))
        (pss_cons (ps_asg (pe_op op_sub (pe_op op_addA (pe_ix (kb_ix K) (pv 2) (pe_op op_sub (pe_fld (pv 0) rfl) pe_int) (fun _ _ => rfl)) (pe_meth (pe_fld (pv 0) rfl) T.cl_Measure T.me_Measure_at (ok_Measure_at T) (hr.mono (by decide)) T.b_Measure_at .nil pass0 (pa_cons (pv 1) pa_nil))) (pe_fld (pe_fld (pv 0) rfl) rfl)) (pg_sub (pv 2) (pe_op op_sub (pe_fld (pv 0) rfl) pe_int) set_list))
        (pss_one (ps_ret (pv 2))))), ?_⟩
    walk_at "go"
    refine k_fldX hc T.cl_Sun T.na_Sun_months (sfs_months _ _ _ _) ?_
    walk_at "go"
    rename_i p H1 hn1 s1 t1
    have hc1 := s1 _ _ hc
    have hyi1 := s1 _ _ hyi
    have hyt1 := hyt.mono (T := []) (.of s1)
    refine k_fldX hc1 T.cl_Sun T.na_Sun_leap (sfs_leap _ _ _ _) ?_
    walk_at "go"
    refine k_ixL (SqL.of t1) hix ?_
    walk_at "go"
    refine k_fldX hc1 T.cl_Sun T.na_Sun_years (sfs_years _ _ _ _) ?_
    walk_at "go"
    refine k_metX hyi1 (mfs_no _ _ (by decide +kernel) (by decide +kernel)) ?_
    walk_at "go"
    refine k_Measure_at ⟨dy, ly, hyi1, hyt1⟩ mo.ok sy ?_
    walk_at "go"
    refine k_fldX hc1 T.cl_Sun T.na_Sun_years (sfs_years _ _ _ _) ?_
    walk_at "go"
    refine k_fldX hyi1 T.cl_Measure T.na_Measure_base (mfs_base _ _) ?_
    walk_at "go"
    refine k_fldX hc1 T.cl_Sun T.na_Sun_leap (sfs_leap _ _ _ _) ?_
    walk_at "go"
    refine k_setV t1 (j := (lp - 1).toNat) (by unfold ixN; rw [if_pos (by omega), if_pos (by rw [List.length_map]; omega)]) fun H2 m2 t2 => ?_
    rw [map_set, show ls.getD (lp - 1).toNat 0 + atM ls.sum ts y - ls.sum = ls.getD (lp - 1).toNat 0 + riseT ts y by unfold atM; omega] at t2
    walk_at "go"
    exact q p H2 hn1 (m2.same s1 hn1) t2
theorem k_Sun_lengths {T : Txt K mg base} {H : Hp} {Q : VK} {E : XK} {c : Addr} {st : Int} {ls : List Int} {lp : Int} {ts : List Tm} {y : Int} (h : SunAt K T.C_Sun T.C_Measure H c st ls lp ts) (ok : SunOk ls lp ts) (sy : Sm 5000 y)
    (q : ∀ (p : Addr) (H' : Hp), H p = none → Same H H' → H' p = some (.lst ((lensS ls lp ts y).map V.int)) → Q (.ref p) H') : sp_Sun_lengths K T [.ref c, .int y] H Q E := ⟨c, st, ls, lp, ts, y, rfl, h, ok, sy, q⟩

/-! ### Sun.year_start -/
def sp_Sun_year_start (K : PySem.W.Frag) (T : Txt K mg base) : Sp := fun vs H Q _ => ∃ (c : Addr) (st : Int) (ls : List Int) (lp : Int) (ts : List Tm) (y : Int), vs = [.ref c, .int y] ∧ SunAt K T.C_Sun T.C_Measure H c st ls lp ts ∧ SunOk ls lp ts ∧ Sm 5000 y ∧ NdefX.TabsN (NT T.ct_counter) H ∧
  ∀ H', SameT (NT T.ct_counter) H H' → Q (.int (st + uptoM ls.sum ts y)) H'
theorem ok_Sun_year_start (T : Txt K mg base) : FnOk P w K mg base CX0 4 T.a_Sun_year_start T.fd_Sun_year_start ["self", "year"] (sp_Sun_year_start K T) := by
  refine T.F_Sun_year_start.ok sc_Sun_year_start (fun vs H Q E h => ?_) (fun cdv A outer s H vs Q E hr h => ?_)
  · obtain ⟨_, _, _, _, _, _, rfl, _⟩ := h; rfl
  · obtain ⟨c, st, ls, lp, ts, y, rfl, ⟨dx, pm, py, hc, hm, hy⟩, ok, sy, hT, q⟩ := h
    have hu := hr.units
    have mo := ok.meas
    have hl := mo.len
    obtain ⟨dy, ly, hyi, hyt⟩ := hy
    refine ⟨_, (pss_one (ps_ret (pe_op op_addA (pe_fld (pv 0) rfl) (pe_meth (pe_fld (pv 0) rfl) T.cl_Measure T.me_Measure_upto (ok_Measure_upto T) (hr.mono (by decide)) T.b_Measure_upto .nil pass0 (pa_cons (pv 1) pa_nil))))), ?_⟩
    walk_at "go"
    refine k_fldX hc T.cl_Sun T.na_Sun_start (sfs_start _ _ _ _) ?_
    walk_at "go"
    refine k_fldX hc T.cl_Sun T.na_Sun_years (sfs_years _ _ _ _) ?_
    walk_at "go"
    refine k_metX hyi (mfs_no _ _ (by decide +kernel) (by decide +kernel)) ?_
    walk_at "go"
    refine k_Measure_upto ⟨dy, ly, hyi, hyt⟩ mo.b0 mo.b1 mo.ok (by omega) sy hT fun H1 s1 => ?_
    walk_at "go"
    exact q _ s1
theorem k_Sun_year_start {T : Txt K mg base} {H : Hp} {Q : VK} {E : XK} {c : Addr} {st : Int} {ls : List Int} {lp : Int} {ts : List Tm} {y : Int} (h : SunAt K T.C_Sun T.C_Measure H c st ls lp ts) (ok : SunOk ls lp ts) (sy : Sm 5000 y) (hT : NdefX.TabsN (NT T.ct_counter) H)
    (q : ∀ H', SameT (NT T.ct_counter) H H' → Q (.int (st + uptoM ls.sum ts y)) H') : sp_Sun_year_start K T [.ref c, .int y] H Q E := ⟨c, st, ls, lp, ts, y, rfl, h, ok, sy, hT, q⟩

/-! ### Calendar.date_of -/
/-- the change of the law -/
def ChS (K : PySem.W.Frag) (T : Txt K mg base) (H : Hp) (x : Addr) : Prop := ∃ dx po pn pl pf, H x = some (.ins T.C_Change dx (cfs po pn 578103 pl pf)) ∧ SqT K H pl (d3V DLast) ∧ SqT K H pf (d3V DFirst) ∧ SAt K T.C_Sun T.C_Measure H po CalO ∧ SAt K T.C_Sun T.C_Measure H pn CalN
theorem ChS.mono {T : Txt K mg base} {H H' : Hp} {x : Addr} (h : ChS K T H x) (s : SameT (NT T.ct_counter) H H') : ChS K T H' x := by
  obtain ⟨dx, po, pn, pl, pf, h1, h2, h3, h4, h5⟩ := h
  exact ⟨dx, po, pn, pl, pf, s.ins h1, s.sqt h2, s.sqt h3, h4.mono s, h5.mono s⟩
theorem k_S_year_at {T : Txt K mg base} {H : Hp} {Q : VK} {E : XK} {c : Addr} {cal : Cal} {x : Int} {n : Nat} (h : SAt K T.C_Sun T.C_Measure H c cal) (ok : cal.Ok) (sx : Sm n (x - cal.st)) (hn : n ≤ 3000) (hT : NdefX.TabsN (NT T.ct_counter) H)
    (q : ∀ (y : Int) (H' : Hp), SameT (NT T.ct_counter) H H' → cal.start y ≤ x → x < cal.start (y + 1) → Sm (n + 1000) y → Q (.int y) H') : sp_Sun_year_at K T [.ref c, .int x] H Q E := by
  cases cal with
  | sun => exact k_Sun_year_at (E := E) h ok sx (by omega) hT fun y H' s a b d => q y H' s a b (sm_mono d (by omega))
  | moon => exact False.elim h
theorem k_S_lengths {T : Txt K mg base} {H : Hp} {Q : VK} {E : XK} {c : Addr} {cal : Cal} {y : Int} {n : Nat} (h : SAt K T.C_Sun T.C_Measure H c cal) (ok : cal.Ok) (sy : Sm n y) (hn : n ≤ 4700) (hT : NdefX.TabsN (NT T.ct_counter) H)
    (q : ∀ (p : Addr) (H' : Hp), New H p → SameT (NT T.ct_counter) H H' → H' p = some (.lst ((cal.lens y).map V.int)) → Q (.ref p) H') : sp_Sun_lengths K T [.ref c, .int y] H Q E := by
  cases cal with
  | sun => exact k_Sun_lengths (E := E) h ok (sm_mono sy (by omega)) fun p H' hp s t => q p H' (.of hp) (.of s) t
  | moon => exact False.elim h
theorem k_S_year_start {T : Txt K mg base} {H : Hp} {Q : VK} {E : XK} {c : Addr} {cal : Cal} {y : Int} {n : Nat} (h : SAt K T.C_Sun T.C_Measure H c cal) (ok : cal.Ok) (sy : Sm n y) (hn : n ≤ 4900) (hT : NdefX.TabsN (NT T.ct_counter) H)
    (q : ∀ H', SameT (NT T.ct_counter) H H' → Q (.int (cal.start y)) H') : sp_Sun_year_start K T [.ref c, .int y] H Q E := by
  cases cal with
  | sun => exact k_Sun_year_start (E := E) h ok (sm_mono sy (by omega)) hT q
  | moon => exact False.elim h
def sp_Calendar_date_of (K : PySem.W.Frag) (T : Txt K mg base) : Sp := fun vs H Q _ => ∃ (c : Addr) (cal : Cal) (x : Int) (n : Nat), vs = [.ref c, .int x] ∧ SAt K T.C_Sun T.C_Measure H c cal ∧ cal.Ok ∧ Sm n (x - cal.st) ∧ n ≤ 3000 ∧ NdefX.TabsN (NT T.ct_counter) H ∧
  ∀ (p : Addr) (H' : Hp) (y m d : Int), New H p → SameT (NT T.ct_counter) H H' → H' p = some (.tup [.int y, .int m, .int d]) → DateIs cal x y m d → Sm (n + 1000) y → Q (.ref p) H'
theorem ok_Calendar_date_of (T : Txt K mg base) : FnOk P w K mg base CX0 6 T.a_Calendar_date_of T.fd_Calendar_date_of ["self", "day"] (sp_Calendar_date_of K T) := by
  refine T.F_Calendar_date_of.ok sc_Calendar_date_of (fun vs H Q E h => ?_) (fun cdv A outer s H vs Q E hr h => ?_)
  · obtain ⟨_, _, _, _, rfl, _⟩ := h; rfl
  · obtain ⟨c, cal, x, n, rfl, hc, ok, sx, hn, hT, q⟩ := h
    have hu := hr.units
    refine ⟨_, (pss_cons (ps_set (i := 2) sc_Calendar_date_of.nd rfl (Or.inl rfl) (pe_meth (pv 0) T.cl_Sun T.me_Sun_year_at (ok_Sun_year_at T) (hr.mono (by decide)) T.b_Sun_year_at .nil pass0 (pa_cons (pv 1) pa_nil)))
        (pss_cons (ps_set (i := 3) sc_Calendar_date_of.nd rfl (Or.inl rfl) (pe_op op_sub (pv 1) (pe_meth (pv 0) T.cl_Sun T.me_Sun_year_start (ok_Sun_year_start T) (hr.mono (by decide)) T.b_Sun_year_start .nil pass0 (pa_cons (pv 2) pa_nil))))
        (pss_cons (ps_set (i := 4) sc_Calendar_date_of.nd rfl (Or.inl rfl) pe_int)
        (pss_cons (ps_for PassesOwn.never rfl (pi_list (pe_meth (pv 0) T.cl_Sun T.me_Sun_lengths (ok_Sun_lengths T) (hr.mono (by decide)) T.b_Sun_lengths .nil pass0 (pa_cons (pv 2) pa_nil))) (pg_name (i := 5) sc_Calendar_date_of.nd rfl (Or.inl rfl)) (pss_cons (ps_if (pt_cmpR op_lt (pv 3) (pv 5) (nomark _)) (pss_one ps_break) pss_nil)
        (pss_cons (ps_set (i := 3) sc_Calendar_date_of.nd rfl (Or.inl rfl) (pe_op op_sub (pv 3) (pv 5)))
        (pss_one (ps_set (i := 4) sc_Calendar_date_of.nd rfl (Or.inl rfl) (pe_op op_addA (pv 4) pe_int))))))
        (pss_one (ps_ret (pe_tup (pa_cons (pv 2) (pa_cons (pv 4) (pa_cons (pe_op op_addA (pv 3) pe_int) pa_nil)))))))))), ?_⟩
    walk_at "go"
    refine k_metS hc noF_year_at ?_
    walk_at "go"
    refine k_S_year_at hc ok sx hn hT fun y H1 s1 y1 y2 sy => ?_
    have hc1 := hc.mono s1
    have hT1 := s1.tab hT
    walk_at "go"
    refine k_metS hc1 noF_year_start ?_
    walk_at "go"
    refine k_S_year_start hc1 ok sy (by omega) hT1 fun H2 s2 => ?_
    have hc2 := hc1.mono s2
    have hT2 := s2.tab hT1
    walk_at "go"
    with_reducible apply k_seqF
    with_reducible apply k_for
    walk_at "go"
    refine k_metS hc2 noF_lengths ?_
    walk_at "go"
    refine k_S_lengths hc2 ok sy (by omega) hT2 fun p H3 hn3 s3 t3 => ?_
    have nn := nn_of (cal.bd ok y)
    have hs := cal.sum ok y
    have hlen := cal.len ok y
    generalize hL : cal.lens y = L at *
    have hl : SqL K H3 p (L.map V.int) := SqL.of t3
    walk_at "go"
    have s13 := (s1.trans s2).trans s3
    have fin : ∀ (i : Nat) (v : Option V) (p5 : Addr) (H5 : Hp), i < L.length → 0 ≤ x - cal.start y - (L.take i).sum → x - cal.start y - (L.take i).sum < L.getD i 0 → H3 p5 = none → Same H3 H5 → H5 p5 = some (.tup [.int y, .int (1 + (i : Int)), .int (x - cal.start y - (L.take i).sum + 1)]) → Q (.ref p5) H5 := fun i v p5 H5 hi h0 h1 h5 s5 t5 => by
      refine q p5 H5 _ _ _ ((New.of h5).back s13) (s13.trans (.of s5)) t5 ⟨by omega, by rw [hL]; omega, by omega, ?_, ?_⟩ sy
      · rw [hL, show (1 + (i : Int) - 1).toNat = i by omega]; omega
      · unfold dayOf
        rw [hL, show (1 + (i : Int) - 1).toNat = i by omega]; omega
    refine for_list (xs := L.map V.int) (fun i σ' H' => ∃ v : Option V, σ' = [some (.ref c), some (.int x), some (.int y), some (.int (x - cal.start y - (L.take i).sum)), some (.int (1 + (i : Int))), v] ∧ H3 = H' ∧ 0 ≤ x - cal.start y - (L.take i).sum) ⟨none, by rw [List.take_zero]; simp; rfl, rfl, by rw [List.take_zero]; simp; omega⟩
      (fun i σ' H' _ hW => by obtain ⟨_, _, rfl, _⟩ := hW; exact hl) (fun i z σ' H' hy hW => ?_) (fun σ' H' hW => ?_)
    · obtain ⟨_, rfl, rfl, h0⟩ := hW
      rw [List.getElem?_map] at hy
      obtain ⟨z, hz, rfl⟩ := Option.map_eq_some_iff.mp hy
      have hi := (List.getElem?_eq_some_iff.mp hz).1
      have ez : z = L.getD i 0 := by rw [List.getD_eq_getElem?_getD, hz]; rfl
      have hp := pre_succ hi
      subst ez
      have hfin := fin i
      generalize hg : L.getD i 0 = g at *
      generalize hS : (L.take i).sum = S at *
      walk_at "go"
      with_reducible apply k_seqI
      walk_at "go"
      refine if_dec (fun hb => ?_) (fun hb => ?_)
      · walk_at "go"
        rename_i p5 H5 hn5 s5 t5
        exact hfin none p5 H5 hi h0 hb hn5 s5 t5
      · walk_at "go"
        exact ⟨_, by rw [hp, show ((i + 1 : Nat) : Int) = (i : Int) + 1 by omega, ← Int.add_assoc, show x - cal.start y - (S + g) = x - cal.start y - S - g by omega]; rfl, rfl, by rw [hp]; omega⟩
    · obtain ⟨_, rfl, rfl, h0⟩ := hW
      rw [List.length_map, List.take_of_length_le (Nat.le_refl _)] at h0
      omega
theorem k_Calendar_date_of {T : Txt K mg base} {H : Hp} {Q : VK} {E : XK} {c : Addr} {cal : Cal} {x : Int} {n : Nat} (h : SAt K T.C_Sun T.C_Measure H c cal) (ok : cal.Ok) (sx : Sm n (x - cal.st)) (hn : n ≤ 3000) (hT : NdefX.TabsN (NT T.ct_counter) H)
    (q : ∀ (p : Addr) (H' : Hp) (y m d : Int), New H p → SameT (NT T.ct_counter) H H' → H' p = some (.tup [.int y, .int m, .int d]) → DateIs cal x y m d → Sm (n + 1000) y → Q (.ref p) H') : sp_Calendar_date_of K T [.ref c, .int x] H Q E := ⟨c, cal, x, n, rfl, h, ok, sx, hn, hT, q⟩

/-! ### Change.date_of -/
def sp_Change_date_of (K : PySem.W.Frag) (T : Txt K mg base) : Sp := fun vs H Q _ => ∃ (a : Addr) (x : Int), vs = [.ref a, .int x] ∧ ChS K T H a ∧ Sm 400 x ∧ NdefX.TabsN (NT T.ct_counter) H ∧
  ∀ (p : Addr) (H' : Hp) (d : D3), SameT (NT T.ct_counter) H H' → H' p = some (.tup (d3V d)) → ChD x d → Sm 1402 d.1 → Q (.ref p) H'
theorem ok_Change_date_of (T : Txt K mg base) : FnOk P w K mg base CX0 7 T.a_Change_date_of T.fd_Change_date_of ["self", "day"] (sp_Change_date_of K T) := by
  refine T.F_Change_date_of.ok sc_Change_date_of (fun vs H Q E h => ?_) (fun cdv A outer s H vs Q E hr h => ?_)
  · obtain ⟨_, _, rfl, _⟩ := h; rfl
  · obtain ⟨a, x, rfl, hc, sx, hT, q⟩ := h
    have hu := hr.units
    obtain ⟨dx, po, pn, pl, pf, h1, h2, h3, h4, h5⟩ := id hc
    obtain ⟨g1, g2, g3, g4, g5⟩ := cfs_get po pn 578103 pl pf
    refine ⟨_, (pss_cons (ps_if (pt_cmpR op_lt (pv 1) (pe_fld (pv 0) rfl) (nomark _)) (pss_one (ps_ret (pe_meth (pe_fld (pv 0) rfl) T.cl_Sun T.me_Sun_date_of (ok_Calendar_date_of T) (hr.mono (by omega)) T.b_Calendar_date_of .nil pass0 (pa_cons (pv 1) pa_nil)))) pss_nil)
        (pss_one (ps_ret (pe_meth (pe_fld (pv 0) rfl) T.cl_Sun T.me_Sun_date_of (ok_Calendar_date_of T) (hr.mono (by omega)) T.b_Calendar_date_of .nil pass0 (pa_cons (pv 1) pa_nil))))), ?_⟩
    with_reducible apply k_seqI
    walk_at "go"
    refine k_fldX h1 T.cl_Change T.na_Change_day g3 ?_
    walk_at "go"
    refine if_dec (fun hx => ?_) (fun hx => ?_)
    · walk_at "go"
      refine k_fldX h1 T.cl_Change T.na_Change_old g1 ?_
      walk_at "go"
      refine k_metS h4 noF_date_of ?_
      walk_at "go"
      refine k_Calendar_date_of (n := 402) h4 old_ok (sm_mono (sm_subX sx (sm_mono (sm41 (i := 0) (by decide) (by decide)) (by decide))) (by decide)) (by decide) hT fun p H' y m d hn s t' hdd sy => ?_
      exact q p H' (y, m, d) s t' (by unfold ChD; rw [if_pos hx]; exact hdd) sy
    · walk_at "go"
      refine k_fldX h1 T.cl_Change T.na_Change_new g2 ?_
      walk_at "go"
      refine k_metS h5 noF_date_of ?_
      walk_at "go"
      refine k_Calendar_date_of (n := 402) h5 new_ok (sm_mono (sm_subX sx (sm_mono (sm41 (i := 2) (by decide) (by decide)) (by decide))) (by decide)) (by decide) hT fun p H' y m d hn s t' hdd sy => ?_
      exact q p H' (y, m, d) s t' (by unfold ChD; rw [if_neg hx]; exact hdd) sy
theorem k_Change_date_of {T : Txt K mg base} {H : Hp} {Q : VK} {E : XK} {a : Addr} {x : Int} (hc : ChS K T H a) (sx : Sm 400 x) (hT : NdefX.TabsN (NT T.ct_counter) H)
  (q : ∀ (p : Addr) (H' : Hp) (d : D3), SameT (NT T.ct_counter) H H' → H' p = some (.tup (d3V d)) → ChD x d → Sm 1402 d.1 → Q (.ref p) H') : sp_Change_date_of K T [.ref a, .int x] H Q E := ⟨a, x, rfl, hc, sx, hT, q⟩

/-! ### list_of -/
def sp_list_of (K : PySem.W.Frag) : Sp := fun vs H Q _ => ∃ (v : V) (xs : List V), vs = [v] ∧ ((v = .non ∧ xs = []) ∨ ∃ a, v = .ref a ∧ SqL K H a xs) ∧ xs.length ≤ 1000 ∧ ∀ (p : Addr) (H' : Hp), H p = none → Same H H' → H' p = some (.lst xs) → Q (.ref p) H'
theorem ok_list_of (T : Txt K mg base) : FnOk P w K mg base CX0 1 T.a_list_of T.fd_list_of ["terms"] (sp_list_of K) := by
  refine T.F_list_of.ok sc_list_of (fun vs H Q E h => ?_) (fun cdv A outer s H vs Q E hr h => ?_)
  · obtain ⟨_, _, rfl, _⟩ := h; rfl
  · obtain ⟨v, xs, rfl, hv, hl, q⟩ := h
    have hu := hr.units
    rcases hv with ⟨rfl, rfl⟩ | ⟨a, rfl, hS⟩
    · refine ⟨_, (pss_cons (ps_if (pt_cmpR kb_isN (pv 0) pe_non (nomark _)) (pss_one (ps_ret (pe_lst pa_nil))) pss_nil)
        (pss_one (ps_ret (pe_callTy (kb_lof K rfl) (by rfl) T.n_list (by decide +kernel) (pa_cons (pv 0) pa_nil))))), ?_⟩
      walk_at "run"
      rename_i p H1 hn s1 t1
      exact q p H1 hn s1 t1
    · refine ⟨_, (pss_cons (ps_if (pt_cmpR kb_isN (pv 0) pe_non (nomark _)) (pss_one (ps_ret (pe_lst pa_nil))) pss_nil)
        (pss_one (ps_ret (pe_callTy (kb_lof K rfl) (by rfl) T.n_list (by decide +kernel) (pa_cons (pv 0) pa_nil))))), ?_⟩
      walk_at "run"
      rename_i p H1 hn s1 t1
      exact q p H1 hn s1 t1
theorem k_list_of {K : PySem.W.Frag} {H : Hp} {Q : VK} {E : XK} {v : V} {xs : List V} (hv : (v = .non ∧ xs = []) ∨ ∃ a, v = .ref a ∧ SqL K H a xs) (hl : xs.length ≤ 1000) (q : ∀ (p : Addr) (H' : Hp), H p = none → Same H H' → H' p = some (.lst xs) → Q (.ref p) H') : sp_list_of K [v] H Q E := ⟨v, xs, rfl, hv, hl, q⟩

/-! ### many_fall -/
def sp_many_fall (K : PySem.W.Frag) : Sp := fun vs H Q _ => ∃ (a : Addr) (ts : List Tm), vs = [.ref a] ∧ TmsL K H a ts ∧ ts.length ≤ 1000 ∧ ∀ H', Same H H' → Q (.int (fallsT ts)) H'
theorem ok_many_fall (T : Txt K mg base) : FnOk P w K mg base CX0 1 T.a_many_fall T.fd_many_fall ["terms"] (sp_many_fall K) := by
  refine T.F_many_fall.ok sc_many_fall (fun vs H Q E h => ?_) (fun cdv A outer s H vs Q E hr h => ?_)
  · obtain ⟨_, _, rfl, _⟩ := h; rfl
  · obtain ⟨a, ts, rfl, ⟨qs, hS, hq⟩, hl, q⟩ := h
    have hu := hr.units
    refine ⟨_, (pss_one (ps_ret (pe_callB (kb_len K) (by rfl) T.n_len (by decide +kernel) (pa_cons (pe_lc (own := [("term", 1)]) (g := gName 1) rfl sc_many_fall.nd (pi_list (pv 0)) (blkOk_by (N := ["terms", "term"]) (sc := defScope s_many_fall) (by decide +kernel)) (fun _ _ _ _ _ => pg_name (i := 1) sc_many_fall.nd rfl (Or.inl rfl)) (fun _ _ _ _ _ => pts_one (pt_cmpR (kb_eq K (hu := hu)) (pe_ix (kb_ix K) (pv 1) pe_int (fun _ _ => rfl)) (pe_un un_neg pe_int) (nomark _))) (fun _ _ _ _ _ => (pv 1))) pa_nil)))), ?_⟩
    walk_at "go"
    have hlq := hq.1
    have hget : ∀ i, i < (qs.map V.ref).length → ∃ (p : Addr) (t : Tm), (qs.map V.ref).getD i .non = .ref p ∧ ts[i]? = some t ∧ SqT K H p [.int t.s, .int t.a, .int t.b, .int t.n] := fun i hi => by
      rw [List.length_map] at hi
      refine ⟨qs[i], ts[i]'(by omega), ?_, List.getElem?_eq_getElem (by omega), hq.2 i _ _ (List.getElem?_eq_getElem hi) (List.getElem?_eq_getElem (by omega))⟩
      rw [List.getD_eq_getElem?_getD, List.getElem?_map, List.getElem?_eq_getElem hi]; rfl
    refine k_lclf hS (fun i => decide ((ts[i]?.map (·.s)) = some (-1))) (fun i => (qs.map V.ref).getD i .non) (by rw [List.length_map]; omega) (fun i H2 R hi s2 hR => ?_) (fun i H2 R hi _ s2 hR => ?_) (fun D H2 _ s2 hD => ?_)
    · obtain ⟨p, t, e1, e2, hp⟩ := hget i hi
      have hp2 := same_t s2 hp
      rw [e1]
      walk_at "go"
      have := hR H2 (Same.refl _)
      rw [e2] at this
      have e3 : decide (Option.map (fun x => x.s) (some t) = some (-1)) = decide (t.s = -1) := by simp
      rw [e3] at this
      exact this
    · walk_at "go"
      exact hR _ (Same.refl _)
    · have := q H2 s2
      walk_at "go"
      have e : (((List.range (qs.map V.ref).length).filter fun i => decide ((ts[i]?.map (·.s)) = some (-1))).length : Int) = fallsT ts := by
        rw [List.length_map, hlq]
        exact falls_range ts
      rw [List.length_map, e]
      exact this
theorem k_many_fall {K : PySem.W.Frag} {H : Hp} {Q : VK} {E : XK} {a : Addr} {ts : List Tm} (h : TmsL K H a ts) (hl : ts.length ≤ 1000) (q : ∀ H', Same H H' → Q (.int (fallsT ts)) H') : sp_many_fall K [.ref a] H Q E := ⟨a, ts, rfl, h, hl, q⟩

/-! ### is_term -/
def sp_is_term (K : PySem.W.Frag) : Sp := fun vs H Q _ => ∃ (p : Addr) (t : Tm), vs = [.ref p] ∧ SqT K H p (tmV t) ∧ TmOk t ∧ Q (.bl true) H
theorem ok_is_term (T : Txt K mg base) : FnOk P w K mg base CX0 1 T.a_is_term T.fd_is_term ["term"] (sp_is_term K) := by
  refine T.F_is_term.ok sc_is_term (fun vs H Q E h => ?_) (fun cdv A outer s H vs Q E hr h => ?_)
  · obtain ⟨_, _, rfl, _⟩ := h; rfl
  · obtain ⟨p, t, rfl, htq, ok, q⟩ := h
    have hu := hr.units
    have ht4 : SqT K H p [.int t.s, .int t.a, .int t.b, .int t.n] := htq
    have hs1 := ok.s
    have hn1 := ok.n1
    have hn2 := ok.n2
    have ha0 := ok.a0
    have han := ok.an
    have hb0 := ok.b0
    have hbn := ok.bn
    refine ⟨_, (pss_cons (ps_asg (pv 0) (pg_tup rfl (pgs_cons (pg_name (i := 1) sc_is_term.nd rfl (Or.inl rfl)) (pgs_cons (pg_name (i := 2) sc_is_term.nd rfl (Or.inl rfl)) (pgs_cons (pg_name (i := 3) sc_is_term.nd rfl (Or.inl rfl)) (pgs_cons (pg_name (i := 4) sc_is_term.nd rfl (Or.inl rfl)) pgs_nil))))))
        (pss_cons (ps_if (PW.pt (pw_and (pt_cmpR (kb_ne K (hu := hu)) (pv 1) pe_int (nomark _)) (pw_and1 (pt_cmpR (kb_ne K (hu := hu)) (pv 1) (pe_un un_neg pe_int) (nomark _))))) (pss_one (ps_ret pe_bl)) pss_nil)
        (pss_one (ps_ret (pe_and (pe_chain op_le op_le pe_int (pv 4) (pe_glob (v := (.int 1000)) rfl T.c_MOST_N ⟨_, rfl⟩)) (pe_and (pe_chain op_le op_le pe_int (pv 2) (pv 4)) (pe_one (pe_chain op_le op_lt pe_int (pv 3) (pv 4))))))))), ?_⟩
    walk_at "go"
    with_reducible apply k_seqI
    rcases hs1 with hs1 | hs1
    · walk_at "run"
      exact fin_t (decide_eq_true hbn) q
    · walk_at "run"
      exact fin_t (decide_eq_true hbn) q
theorem k_is_term {K : PySem.W.Frag} {H : Hp} {Q : VK} {E : XK} {p : Addr} {t : Tm} (h : SqT K H p (tmV t)) (ok : TmOk t) (q : Q (.bl true) H) : sp_is_term K [.ref p] H Q E := ⟨p, t, rfl, h, ok, q⟩

/-! ### is_measure -/
def sp_is_measure (K : PySem.W.Frag) : Sp := fun vs H Q _ => ∃ (b : Int) (a : Addr) (ts : List Tm), vs = [.int b, .ref a] ∧ TmsL K H a ts ∧ MeasOk b ts ∧ ∀ H', Same H H' → Q (.bl true) H'
theorem ok_is_measure (T : Txt K mg base) : FnOk P w K mg base CX0 2 T.a_is_measure T.fd_is_measure ["base", "terms"] (sp_is_measure K) := by
  refine T.F_is_measure.ok sc_is_measure (fun vs H Q E h => ?_) (fun cdv A outer s H vs Q E hr h => ?_)
  · obtain ⟨_, _, _, rfl, _⟩ := h; rfl
  · obtain ⟨b, a, ts, rfl, ⟨qs, hS, hq⟩, ok, q⟩ := h
    have hu := hr.units
    have b0 := ok.b0
    have b1 := ok.b1
    have hl := ok.len
    have hf := ok.falls
    have hlq := hq.1
    have hlq2 : (qs.map V.ref).length = qs.length := List.length_map _
    refine ⟨_, (pss_cons (ps_if (PW.pt (pw_or (pt_cmpR op_lt (pv 0) pe_int (nomark _)) (pw_or (pt_cmpR op_gt (pv 0) (pe_glob (v := (.int 20000)) rfl T.c_MOST_BASE ⟨_, rfl⟩) (nomark _)) (pw_or1 (pt_cmpR op_gt (pe_callB (kb_len K) (by rfl) T.n_len (by decide +kernel) (pa_cons (pv 1) pa_nil)) (pe_glob (v := (.int 6)) rfl T.c_MOST_TERMS ⟨_, rfl⟩) (nomark _)))))) (pss_one (ps_ret pe_bl)) pss_nil)
        (pss_cons (ps_if (pt_not (pt_val (pe_callB (kb_all K (hc := rfl)) (by rfl) T.n_all (by decide +kernel) (pa_cons (pe_lc (own := [("term", 2)]) (g := gName 2) (tt := tYes) rfl sc_is_measure.nd (pi_list (pv 1)) (blkOk_by (N := ["base", "terms", "term"]) (sc := defScope s_is_measure) (by decide +kernel)) (fun _ _ _ _ _ => pg_name (i := 2) sc_is_measure.nd rfl (Or.inl rfl)) (fun _ _ _ _ _ => pts_nil) (fun _ _ _ _ _ => (pe_call (ok_is_term T) (hr.mono (by decide)) (by rfl) T.g_is_term T.F_is_term.kp T.b_is_term .nil pass0 (pa_cons (pv 2) pa_nil)))) pa_nil)))) (pss_one (ps_ret pe_bl)) pss_nil)
        (pss_one (ps_ret (pe_cmpR op_le (pe_call (ok_many_fall T) (hr.mono (by decide)) (by rfl) T.g_many_fall T.F_many_fall.kp T.b_many_fall .nil pass0 (pa_cons (pv 1) pa_nil)) (pv 0) (nomark _)))))), ?_⟩
    walk_at "run"
    refine k_lcl hS ((ts.map fun _ => true).map V.bl) (by simp [hlq]) (by omega) (fun i y v H2 R hx hv s2 hR => ?_) (fun M H1 _ s1 t1 => ?_)
    · rw [List.getElem?_map] at hx
      obtain ⟨p, hp, rfl⟩ := Option.map_eq_some_iff.mp hx
      rw [List.getElem?_map, List.getElem?_map] at hv
      have hi : i < ts.length := by
        have := (List.getElem?_eq_some_iff.mp hp).1
        omega
      rw [List.getElem?_eq_getElem hi] at hv
      cases hv
      walk_at "go"
      exact k_is_term (same_t s2 (hq.2 i p _ hp (List.getElem?_eq_getElem hi))) (ok.ok _ (List.getElem_mem hi)) (hR _ (Same.refl _))
    walk_at "go"
    refine k_all (SqL.of t1) ?_
    rw [show (ts.map fun _ => true).all id = true by simp]
    walk_at "run"
    refine k_many_fall ⟨qs, same_l s1 hS, hq.same s1⟩ (by omega) fun H2 s2 => ?_
    walk_at "go"
    exact fin_t (decide_eq_true hf) (q _ (s1.trans s2))
theorem k_is_measure {K : PySem.W.Frag} {H : Hp} {Q : VK} {E : XK} {b : Int} {a : Addr} {ts : List Tm} (h : TmsL K H a ts) (ok : MeasOk b ts) (q : ∀ H', Same H H' → Q (.bl true) H') : sp_is_measure K [.int b, .ref a] H Q E := ⟨b, a, ts, rfl, h, ok, q⟩

/-! ### Measure.__init__ -/
def sp_Measure_init (K : PySem.W.Frag) (T : Txt K mg base) : Sp := fun vs H Q _ => ∃ (x dx : Addr) (b : Int) (v : V) (ts : List Tm), vs = [.ref x, .int b, v] ∧ H x = some (.ins T.C_Measure dx []) ∧ ((v = .non ∧ ts = []) ∨ ∃ a, v = .ref a ∧ TmsL K H a ts) ∧ MeasOk b ts ∧ NdefX.TabsN (NT T.ct_counter) H ∧
  ∀ H', SameX (NT T.ct_counter) x H H' → MeasN K T.C_Measure H H' x b ts → Q .non H'
theorem ok_Measure_init (T : Txt K mg base) : FnOk P w K mg base CX0 4 T.a_Measure_init T.fd_Measure_init ["self", "base", "terms"] (sp_Measure_init K T) := by
  refine FunD.okN T.F_Measure_init sc_Measure_init (fun vs H Q E h => ?_) (fun cdv A outer s H vs Q E hr h => ?_)
  · obtain ⟨_, _, _, _, _, rfl, _⟩ := h; rfl
  · obtain ⟨x, dx, b, v, ts, rfl, hx, hv, ok, hTab, q⟩ := h
    have hu := hr.units
    have hl := ok.len
    obtain ⟨qs, hq, hv2⟩ : ∃ qs : List Addr, TmsAt K H qs ts ∧ ((v = .non ∧ qs.map V.ref = []) ∨ ∃ a, v = .ref a ∧ SqL K H a (qs.map V.ref)) := by
      rcases hv with ⟨rfl, rfl⟩ | ⟨a, rfl, qs, h1, h2⟩
      · exact ⟨[], .nil, .inl ⟨rfl, rfl⟩⟩
      · exact ⟨qs, h2, .inr ⟨a, rfl, h1⟩⟩
    have hlq := hq.1
    refine ⟨_, (pss_cons (ps_set (i := 3) sc_Measure_init.nd rfl (Or.inl rfl) (pe_call (ok_list_of T) (hr.mono (by decide)) (by rfl) T.g_list_of T.F_list_of.kp T.b_list_of .nil pass0 (pa_cons (pv 2) pa_nil)))
        (pss_cons (ps_if (pt_not (pt_val (pe_call (ok_is_measure T) (hr.mono (by decide)) (by rfl) T.g_is_measure T.F_is_measure.kp T.b_is_measure .nil pass0 (pa_cons (pv 1) (pa_cons (pv 3) pa_nil))))) (pss_one ps_never) pss_nil)
        (pss_cons (ps_fld (pv 0) (pv 1) rfl)
        (pss_cons (ps_fld (pv 0) (pv 3) rfl)
        (pss_one (ps_if (pt_cmpR op_lt (pe_meth (pv 0) T.cl_Measure T.me_Measure_upto (ok_Measure_upto T) (hr.mono (by decide)) T.b_Measure_upto .nil pass0 (pa_cons (pe_meth0 (pv 0) T.cl_Measure T.me_Measure_period (ok_Measure_period T) (hr.mono (by decide)) T.b_Measure_period .nil pass0) pa_nil)) pe_int (nomark _)) (pss_one ps_never) pss_nil)))))), ?_⟩
    walk_at "go"
    refine k_list_of hv2 (by rw [List.length_map]; omega) fun p H1 hn s1 t1 => ?_
    have hx1 := s1 _ _ hx
    have tm1 : TmsL K H1 p ts := ⟨qs, SqL.of t1, hq.same s1⟩
    walk_at "run"
    refine k_is_measure tm1 ok fun H2 s2 => ?_
    have hx2 := s2 _ _ hx1
    have tm2 : TmsL K H2 p ts := tm1.mono (T := []) (.of s2)
    walk_at "run"
    refine k_stoX hx2 T.cl_Measure T.na_Measure_base (by show 0 < 1000; decide) ?_
    walk_at "run"
    refine k_stoX upd_same T.cl_Measure T.na_Measure_terms (by show 1 < 1000; decide) ?_
    rw [mfs_put]
    have x3 := SameX.upd (T := NT T.ct_counter) (o := .ins T.C_Measure dx (putF "base" (.int b) [])) hx2
    have tm3 := tm2.updI (o := .ins T.C_Measure dx (putF "base" (.int b) [])) hx2
    have u3 : upd H2 x (.ins T.C_Measure dx (putF "base" (.int b) [])) x = some (.ins T.C_Measure dx (putF "base" (.int b) [])) := upd_same
    generalize upd H2 x (.ins T.C_Measure dx (putF "base" (.int b) [])) = H3 at *
    have x4 := SameX.upd (T := NT T.ct_counter) (o := .ins T.C_Measure dx (mfs b p)) u3
    have tm4 := tm3.updI (o := .ins T.C_Measure dx (mfs b p)) u3
    have u4 : upd H3 x (.ins T.C_Measure dx (mfs b p)) x = some (.ins T.C_Measure dx (mfs b p)) := upd_same
    generalize upd H3 x (.ins T.C_Measure dx (mfs b p)) = H4 at *
    have xx : SameX (NT T.ct_counter) x H H4 := (SameX.of (.of (s1.trans s2))).trans (x3.trans x4)
    have hT4 := xx.tab hTab
    have hm4 : MeasAt K T.C_Measure H4 x b ts := ⟨dx, p, u4, tm4⟩
    have hmN : MeasN K T.C_Measure H H4 x b ts := ⟨dx, p, u4, hn, tm4⟩
    have hpp := perT_bd ok.ok hl ts.length
    rw [List.take_of_length_le (Nat.le_refl _)] at hpp
    walk_at "run"
    refine k_metX u4 (mfs_no _ _ (by decide +kernel) (by decide +kernel)) ?_
    walk_at "go"
    refine k_metX u4 (mfs_no _ _ (by decide +kernel) (by decide +kernel)) ?_
    walk_at "go"
    refine k_Measure_period hm4 ok.ok hl ?_
    walk_at "go"
    refine k_Measure_upto hm4 ok.b0 ok.b1 ok.ok (by omega) (sm_mono (sm41 (by omega) (by omega)) (by decide)) hT4 fun H5 s5 => ?_
    have hpos := ok.pos
    walk_at "run"
    exact q _ (xx.trans (.of s5)) (hmN.mono s5)
theorem k_Measure_init {T : Txt K mg base} {H : Hp} {Q : VK} {E : XK} {x dx : Addr} {b : Int} {v : V} {ts : List Tm} (hx : H x = some (.ins T.C_Measure dx [])) (hv : (v = .non ∧ ts = []) ∨ ∃ a, v = .ref a ∧ TmsL K H a ts) (ok : MeasOk b ts) (hT : NdefX.TabsN (NT T.ct_counter) H)
    (q : ∀ H', SameX (NT T.ct_counter) x H H' → MeasN K T.C_Measure H H' x b ts → Q .non H') : sp_Measure_init K T [.ref x, .int b, v] H Q E := ⟨x, dx, b, v, ts, rfl, hx, hv, ok, hT, q⟩
/-- Measure(b, terms) -/
theorem k_mkMeasure {T : Txt K mg base} {H : Hp} {Q : VK} {b : Int} {v : V} {ts : List Tm} {vs dvs : List V} (e : vs ++ dvs = [.int b, v]) (hv : (v = .non ∧ ts = []) ∨ ∃ a, v = .ref a ∧ TmsL K H a ts) (ok : MeasOk b ts) (hT : NdefX.TabsN (NT T.ct_counter) H)
    (q : ∀ x H', H x = none → SameT (NT T.ct_counter) H H' → MeasN K T.C_Measure H H' x b ts → Q (.ref x) H') : MakR T.C_Measure (sp_Measure_init K T) dvs E0 vs H Q := by
  intro x dx hx hd hne
  rw [e]
  have s0 : Same H (upd (upd H dx (.own x)) x (.ins T.C_Measure dx [])) := fun c o h => by
    rw [upd_ne (ne_of_none h hx), upd_ne (ne_of_none h hd)]; exact h
  refine k_Measure_init upd_same ?_ ok (hT.ext s0) fun H' sx hm => ⟨rfl, q x H' hx (SameX.made hx hd sx) (hm.back fun l hl => by
    by_cases z : l = x
    · rw [z]; exact hx
    by_cases z2 : l = dx
    · rw [z2]; exact hd
    rw [upd_ne z, upd_ne z2] at hl; exact hl)⟩
  rcases hv with h | ⟨a, rfl, h⟩
  · exact .inl h
  · exact .inr ⟨a, rfl, h.mono (T := []) (.of s0)⟩

/-! ### are_months -/
def sp_are_months (K : PySem.W.Frag) : Sp := fun vs H Q _ => ∃ (a k : Addr) (ls : List Int) (lp : Int) (ts : List Tm), vs = [.ref a, .int lp, .ref k] ∧ SqL K H a (ls.map V.int) ∧ TmsL K H k ts ∧ SunOk ls lp ts ∧ ∀ H', Same H H' → Q (.bl true) H'
theorem ok_are_months (T : Txt K mg base) : FnOk P w K mg base CX0 2 T.a_are_months T.fd_are_months ["lengths", "leap", "terms"] (sp_are_months K) := by
  refine T.F_are_months.ok sc_are_months (fun vs H Q E h => ?_) (fun cdv A outer s H vs Q E hr h => ?_)
  · obtain ⟨_, _, _, _, _, rfl, _⟩ := h; rfl
  · obtain ⟨a, k, ls, lp, ts, rfl, hS, hT, ok, q⟩ := h
    have hu := hr.units
    have h1 := ok.len1
    have h2 := ok.len20
    have h3 := ok.lp1
    have h4 := ok.lp2
    have h5 := ok.fl
    have h6 := ok.fs
    have h7 := ok.len
    have hlen : (ls.map V.int).length = ls.length := List.length_map _
    have hix := atI_getD (ls := ls) (i := lp - 1) (by omega) (by omega)
    refine ⟨_, (pss_cons (ps_if (PW.pt (pw_or (pt_cmpR op_lt (pe_callB (kb_len K) (by rfl) T.n_len (by decide +kernel) (pa_cons (pv 0) pa_nil)) pe_int (nomark _)) (pw_or1 (pt_cmpR op_gt (pe_callB (kb_len K) (by rfl) T.n_len (by decide +kernel) (pa_cons (pv 0) pa_nil)) (pe_glob (v := (.int 20)) rfl T.c_MOST_MONTHS ⟨_, rfl⟩) (nomark _))))) (pss_one (ps_ret pe_bl)) pss_nil)
        (pss_cons (ps_if (PW.pt (pw_or (pt_cmpR op_lt (pe_callB (kb_min K (hc := rfl)) (by rfl) T.n_min (by decide +kernel) (pa_cons (pv 0) pa_nil)) pe_int (nomark _)) (pw_or1 (pt_cmpR op_gt (pe_callB (kb_max K (hc := rfl)) (by rfl) T.n_max (by decide +kernel) (pa_cons (pv 0) pa_nil)) (pe_glob (v := (.int 1000)) rfl T.c_MOST_DAYS ⟨_, rfl⟩) (nomark _))))) (pss_one (ps_ret pe_bl)) pss_nil)
        (pss_cons (ps_if (PW.pt (pw_or (pt_cmpR op_lt (pv 1) pe_int (nomark _)) (pw_or1 (pt_cmpR op_gt (pv 1) (pe_callB (kb_len K) (by rfl) T.n_len (by decide +kernel) (pa_cons (pv 0) pa_nil)) (nomark _))))) (pss_one (ps_ret pe_bl)) pss_nil)
        (pss_one (ps_ret (pe_and (pe_cmpR op_le (pe_call (ok_many_fall T) (hr.mono (by decide)) (by rfl) T.g_many_fall T.F_many_fall.kp T.b_many_fall .nil pass0 (pa_cons (pv 2) pa_nil)) (pe_ix (kb_ix K) (pv 0) (pe_op op_sub (pv 1) pe_int) (fun _ _ => rfl)) (nomark _)) (pe_one (pe_cmpR op_lt (pe_call (ok_many_fall T) (hr.mono (by decide)) (by rfl) T.g_many_fall T.F_many_fall.kp T.b_many_fall .nil pass0 (pa_cons (pv 2) pa_nil)) (pe_callB (kb_sum K (hc := rfl)) (by rfl) T.n_sum (by decide +kernel) (pa_cons (pv 0) pa_nil)) (nomark _))))))))), ?_⟩
    walk_at "run"
    refine ⟨a, ls, rfl, hS, by omega, fun m hm _ => ?_⟩
    have hm2 := ok.rng m hm
    walk_at "run"
    refine ⟨a, ls, rfl, hS, by omega, fun m2 hm _ => ?_⟩
    have hm2 := ok.rng m2 hm
    walk_at "run"
    refine k_many_fall hT (by omega) fun H1 s1 => ?_
    have hS1 := same_l s1 hS
    walk_at "go"
    refine k_ixL hS1 hix ?_
    walk_at "go"
    refine if_dec (fun hb => ?_) (fun hb => absurd h5 hb)
    walk_at "go"
    refine k_many_fall (hT.mono (T := []) (.of s1)) (by omega) fun H2 s2 => ?_
    have hS2 := same_l s2 hS1
    walk_at "go"
    refine k_sum hS2 ?_
    walk_at "go"
    exact fin_t (decide_eq_true h6) (q _ (s1.trans s2))
theorem k_are_months {K : PySem.W.Frag} {H : Hp} {Q : VK} {E : XK} {a k : Addr} {ls : List Int} {lp : Int} {ts : List Tm} (hS : SqL K H a (ls.map V.int)) (hT : TmsL K H k ts) (ok : SunOk ls lp ts) (q : ∀ H', Same H H' → Q (.bl true) H') : sp_are_months K [.ref a, .int lp, .ref k] H Q E := ⟨a, k, ls, lp, ts, rfl, hS, hT, ok, q⟩

/-! ### Sun.__init__ -/
def sp_Sun_init (K : PySem.W.Frag) (T : Txt K mg base) : Sp := fun vs H Q _ => ∃ (x dx a : Addr) (v : V) (st : Int) (ls : List Int) (lp : Int) (ts : List Tm), vs = [.ref x, .int st, .ref a, .int lp, v] ∧ H x = some (.ins T.C_Sun dx []) ∧ SqL K H a (ls.map V.int) ∧ ((v = .non ∧ ts = []) ∨ ∃ a, v = .ref a ∧ TmsL K H a ts) ∧ SunOk ls lp ts ∧ NdefX.TabsN (NT T.ct_counter) H ∧
  ∀ H', SameX (NT T.ct_counter) x H H' → SunAt K T.C_Sun T.C_Measure (own H H') x st ls lp ts → Q .non H'
theorem ok_Sun_init (T : Txt K mg base) : FnOk P w K mg base CX0 6 T.a_Sun_init T.fd_Sun_init ["self", "start", "lengths", "leap", "terms"] (sp_Sun_init K T) := by
  refine FunD.okN T.F_Sun_init sc_Sun_init (fun vs H Q E h => ?_) (fun cdv A outer s H vs Q E hr h => ?_)
  · obtain ⟨_, _, _, _, _, _, _, _, rfl, _⟩ := h; rfl
  · obtain ⟨x, dx, a, v, st, ls, lp, ts, rfl, hx, hS, hv, ok, hTab, q⟩ := h
    have hu := hr.units
    have mo := ok.meas
    have hl := mo.len
    have hl20 := ok.len20
    obtain ⟨qs, hq, hv2⟩ : ∃ qs : List Addr, TmsAt K H qs ts ∧ ((v = .non ∧ qs.map V.ref = []) ∨ ∃ a, v = .ref a ∧ SqL K H a (qs.map V.ref)) := by
      rcases hv with ⟨rfl, rfl⟩ | ⟨a, rfl, qs, h1, h2⟩
      · exact ⟨[], .nil, .inl ⟨rfl, rfl⟩⟩
      · exact ⟨qs, h2, .inr ⟨a, rfl, h1⟩⟩
    have hlq := hq.1
    refine ⟨_, (pss_cons (ps_set (i := 5) sc_Sun_init.nd rfl (Or.inl rfl) (pe_callTy (kb_lof K rfl) (by rfl) T.n_list (by decide +kernel) (pa_cons (pv 2) pa_nil)))
        (pss_cons (ps_set (i := 6) sc_Sun_init.nd rfl (Or.inl rfl) (pe_call (ok_list_of T) (hr.mono (by decide)) (by rfl) T.g_list_of T.F_list_of.kp T.b_list_of .nil pass0 (pa_cons (pv 4) pa_nil)))
        (pss_cons (ps_if (pt_not (pt_val (pe_call (ok_are_months T) (hr.mono (by decide)) (by rfl) T.g_are_months T.F_are_months.kp T.b_are_months .nil pass0 (pa_cons (pv 5) (pa_cons (pv 3) (pa_cons (pv 6) pa_nil)))))) (pss_one ps_never) pss_nil)
        (pss_cons (ps_fld (pv 0) (pv 1) rfl)
        (pss_cons (ps_fld (pv 0) (pv 5) rfl)
        (pss_cons (ps_fld (pv 0) (pv 3) rfl)
        (pss_one (ps_fld (pv 0) (pe_make T.mk_Measure (ok_Measure_init T) (hr.mono (by decide)) rfl T.gc_Measure T.b_Measure_init_3 T.v_Measure_init_3 pass0 (pa_cons (pe_callB (kb_sum K (hc := rfl)) (by rfl) T.n_sum (by decide +kernel) (pa_cons (pv 5) pa_nil)) (pa_cons (pv 6) pa_nil))) rfl)))))))), ?_⟩
    walk_at "go"
    rename_i pm H1 hn1 s1 t1
    refine k_list_of (xs := qs.map V.ref) (hv2.imp id fun ⟨a, e, h⟩ => ⟨a, e, same_l s1 h⟩) (by rw [List.length_map]; omega) fun p H2 hn2 s2 t2 => ?_
    have t1' := s2 _ _ t1
    have tm2 : TmsL K H2 p ts := ⟨qs, SqL.of t2, hq.same (s1.trans s2)⟩
    walk_at "run"
    refine k_are_months (SqL.of t1') tm2 ok fun H3 s3 => ?_
    have s03 := (s1.trans s2).trans s3
    have t3 := s3 _ _ t1'
    have tm3 : TmsL K H3 p ts := tm2.mono (T := []) (.of s3)
    have hx3 := s03 _ _ hx
    walk_at "run"
    refine k_stoX hx3 T.cl_Sun T.na_Sun_start (by show 0 < 1000; decide) ?_
    walk_at "run"
    refine k_stoX upd_same T.cl_Sun T.na_Sun_months (by show 1 < 1000; decide) ?_
    walk_at "run"
    refine k_stoX upd_same T.cl_Sun T.na_Sun_leap (by rw [sfs_p1, sfs_p2]; show 2 < 1000; decide) ?_
    rw [sfs_p1, sfs_p2, sfs_p3]
    have f1 : ∀ {b : Addr} {o : HO}, H3 b = some o → b ≠ x → upd (upd (upd H3 x (.ins T.C_Sun dx (sfs1 st))) x (.ins T.C_Sun dx (sfs2 st pm))) x (.ins T.C_Sun dx (sfs3 st pm lp)) b = some o := fun {b o} h n => by
      rw [upd_ne n, upd_ne n, upd_ne n]; exact h
    have xx : SameX (NT T.ct_counter) x H3 (upd (upd (upd H3 x (.ins T.C_Sun dx (sfs1 st))) x (.ins T.C_Sun dx (sfs2 st pm))) x (.ins T.C_Sun dx (sfs3 st pm lp))) := (SameX.upd hx3).trans ((SameX.upd upd_same).trans (SameX.upd upd_same))
    have u4 : upd (upd (upd H3 x (.ins T.C_Sun dx (sfs1 st))) x (.ins T.C_Sun dx (sfs2 st pm))) x (.ins T.C_Sun dx (sfs3 st pm lp)) x = some (.ins T.C_Sun dx (sfs3 st pm lp)) := upd_same
    have tm4 := ((tm3.updI (o := .ins T.C_Sun dx (sfs1 st)) hx3).updI (o := .ins T.C_Sun dx (sfs2 st pm)) upd_same).updI (o := .ins T.C_Sun dx (sfs3 st pm lp)) upd_same
    have n4 : ∀ b, upd (upd (upd H3 x (.ins T.C_Sun dx (sfs1 st))) x (.ins T.C_Sun dx (sfs2 st pm))) x (.ins T.C_Sun dx (sfs3 st pm lp)) b = none → H b = none := fun b hb => by
      by_cases z : b = x
      · rw [z, upd_same] at hb; cases hb
      · rw [upd_ne z, upd_ne z, upd_ne z] at hb
        cases hh : H b with
        | none => rfl
        | some o => rw [s03 _ _ hh] at hb; cases hb
    have t4 := f1 t3 (fun z => by rw [z, hx3] at t3; cases t3)
    generalize upd (upd (upd H3 x (.ins T.C_Sun dx (sfs1 st))) x (.ins T.C_Sun dx (sfs2 st pm))) x (.ins T.C_Sun dx (sfs3 st pm lp)) = H4 at *
    have x04 : SameX (NT T.ct_counter) x H H4 := (SameX.of (.of s03)).trans xx
    have hT4 := x04.tab hTab
    walk_at "run"
    refine k_sum (SqL.of t4) ?_
    walk_at "run"
    refine k_mkMeasure (v := .ref p) rfl (.inr ⟨p, rfl, tm4⟩) mo hT4 fun py H5 hn5 s5 hm => ?_
    have u5 := s5.ins u4
    obtain ⟨dy, ly, hyi, hy0, hyt⟩ := hm
    have t5 := s5.lst t4
    walk_at "run"
    refine k_stoX u5 T.cl_Sun T.na_Sun_years (by show 3 < 1000; decide) ?_
    rw [sfs_p4]
    have hyx : py ≠ x := fun z => by rw [z, u4] at hn5; cases hn5
    have hpx : pm ≠ x := fun z => by rw [z, u5] at t5; cases t5
    have xf : SameX (NT T.ct_counter) x H (upd H5 x (.ins T.C_Sun dx (sfs st pm lp py))) := (x04.trans (.of s5)).trans (SameX.upd u5)
    refine q _ xf ⟨dx, pm, py, own_ins upd_same, sql_own (SqL.of (by rw [upd_ne hpx]; exact t5)) hn1, dy, ly, own_ins (by rw [upd_ne hyx]; exact hyi), (hyt.updI u5).own (n4 _ hy0)⟩
theorem k_Sun_init {T : Txt K mg base} {H : Hp} {Q : VK} {E : XK} {x dx a : Addr} {v : V} {st : Int} {ls : List Int} {lp : Int} {ts : List Tm} (hx : H x = some (.ins T.C_Sun dx [])) (hS : SqL K H a (ls.map V.int)) (hv : (v = .non ∧ ts = []) ∨ ∃ a, v = .ref a ∧ TmsL K H a ts) (ok : SunOk ls lp ts) (hT : NdefX.TabsN (NT T.ct_counter) H)
    (q : ∀ H', SameX (NT T.ct_counter) x H H' → SunAt K T.C_Sun T.C_Measure (own H H') x st ls lp ts → Q .non H') : sp_Sun_init K T [.ref x, .int st, .ref a, .int lp, v] H Q E := ⟨x, dx, a, v, st, ls, lp, ts, rfl, hx, hS, hv, ok, hT, q⟩
/-- Sun(..) -/
theorem k_mkSun {T : Txt K mg base} {H : Hp} {Q : VK} {a : Addr} {v : V} {st : Int} {ls : List Int} {lp : Int} {ts : List Tm} {vs dvs : List V} (e : vs ++ dvs = [.int st, .ref a, .int lp, v]) (hS : SqL K H a (ls.map V.int)) (hv : (v = .non ∧ ts = []) ∨ ∃ a, v = .ref a ∧ TmsL K H a ts) (ok : SunOk ls lp ts) (hT : NdefX.TabsN (NT T.ct_counter) H)
    (q : ∀ x H', H x = none → SameT (NT T.ct_counter) H H' → SunAt K T.C_Sun T.C_Measure (own H H') x st ls lp ts → Q (.ref x) H') : MakR T.C_Sun (sp_Sun_init K T) dvs E0 vs H Q := by
  intro x dx hx hd hne
  rw [e]
  have s0 : Same H (upd (upd H dx (.own x)) x (.ins T.C_Sun dx [])) := fun c o h => by
    rw [upd_ne (ne_of_none h hx), upd_ne (ne_of_none h hd)]; exact h
  refine k_Sun_init upd_same (same_l s0 hS) ?_ ok (hT.ext s0) fun H' sx hm => ⟨rfl, q x H' hx (SameX.made hx hd sx) (hm.mono (own_back fun l hl => ?_))⟩
  · rcases hv with h | ⟨a, rfl, h⟩
    · exact .inl h
    · exact .inr ⟨a, rfl, h.mono (T := []) (.of s0)⟩
  · by_cases z : l = x
    · rw [z]; exact hx
    by_cases z2 : l = dx
    · rw [z2]; exact hd
    rw [upd_ne z, upd_ne z2] at hl; exact hl

/-! ### Change.__init__ -/
def sp_Change_init (K : PySem.W.Frag) (T : Txt K mg base) : Sp := fun vs H Q E => ∃ (x dx po pn : Addr), vs = [.ref x, .ref po, .ref pn, .int 578103] ∧ H x = some (.ins T.C_Change dx []) ∧ SAt K T.C_Sun T.C_Measure H po CalO ∧ SAt K T.C_Sun T.C_Measure H pn CalN ∧ NdefX.TabsN (NT T.ct_counter) H ∧
  (∀ H', SameX (NT T.ct_counter) x H H' → ChS K T H' x → Q .non H')
theorem ok_Change_init (T : Txt K mg base) : FnOk P w K mg base (L2.CX P w) 7 T.a_Change_init T.fd_Change_init ["self", "old", "new", "day"] (sp_Change_init K T) := by
  refine T.F_Change_init.okX sc_Change_init (fun vs H Q E h => ?_) (fun cdv A outer s H vs Q E hr h => ?_)
  · obtain ⟨_, _, _, _, rfl, _⟩ := h; rfl
  · obtain ⟨x, dx, po, pn, rfl, hx, ho, hn, hT, q⟩ := h
    have hu := hr.units
    refine ⟨_, (pss_cons (ps_set (i := 4) sc_Change_init.nd rfl (Or.inl rfl) (pe_meth (pv 1) T.cl_Sun T.me_Sun_date_of (ok_Calendar_date_of T) (hr.mono (by decide)) T.b_Calendar_date_of .nil pass0 (pa_cons (pe_op op_sub (pv 3) pe_int) pa_nil)))
        (pss_cons (ps_set (i := 5) sc_Change_init.nd rfl (Or.inl rfl) (pe_meth (pv 2) T.cl_Sun T.me_Sun_date_of (ok_Calendar_date_of T) (hr.mono (by decide)) T.b_Calendar_date_of .nil pass0 (pa_cons (pv 3) pa_nil)))
        (pss_cons (ps_if (pt_cmpR (kb_geT K (hu := hu)) (pv 4) (pv 5) (nomark _)) (pss_one (ps_raise rfl (takes_of rfl rfl rfl rfl) (pmk_own PySem.F.excBase_ValueError T.x_NoChange T.gc_NoChange T.kc_NoChange (raises_own T.bc_NoChange T.tc_NoChange) rfl))) pss_nil)
        (PSs.nox (pss_cons (ps_fld (pv 0) (pv 1) rfl)
        (pss_cons (ps_fld (pv 0) (pv 2) rfl)
        (pss_cons (ps_fld (pv 0) (pv 3) rfl)
        (pss_cons (ps_fld (pv 0) (pv 4) rfl)
        (pss_one (ps_fld (pv 0) (pv 5) rfl)))))))))), ?_⟩
    walk_at "go"
    refine k_metS ho noF_date_of ?_
    walk_at "go"
    refine k_Calendar_date_of (n := 200) ho old_ok (sm41 (by decide) (by decide)) (by decide) hT fun pl H1 y m d hn1 s1 t1 hl sl => ?_
    obtain ⟨rfl, rfl, rfl⟩ := hl.uniq old_ok last_is
    have ho1 := ho.mono s1
    have hN1 := hn.mono s1
    have hT1 := s1.tab hT
    walk_at "go"
    refine k_metS hN1 noF_date_of ?_
    walk_at "go"
    refine k_Calendar_date_of (n := 200) hN1 new_ok (sm41 (by decide) (by decide)) (by decide) hT1 fun pf H2 y m d hn2 s2 t2 hf sf => ?_
    obtain ⟨rfl, rfl, rfl⟩ := hf.uniq new_ok first_is
    have ho2 := ho1.mono s2
    have hN2 := hN1.mono s2
    have hT2 := s2.tab hT1
    have ul : SqT K H2 pl (d3V DLast) := s2.sqt (SqT.of t1)
    have uf : SqT K H2 pf (d3V DFirst) := SqT.of t2
    have s12 := s1.trans s2
    have hx2 := s12.ins hx
    walk_at "go"
    with_reducible apply k_seqI
    walk_at "go"
    refine k_geT ul uf ?_
    walk_at "go"
    refine if_ndec (fun h => absurd (by unfold lt3 DLast DFirst; decide) h) (fun h => ?_)
    walk_at "go"
    refine k_stoX hx2 T.cl_Change T.na_Change_old (by show 0 < 1000; decide) ?_
    walk_at "go"
    refine k_stoX upd_same T.cl_Change T.na_Change_new (by show 1 < 1000; decide) ?_
    walk_at "go"
    refine k_stoX upd_same T.cl_Change T.na_Change_day (by show 2 < 1000; decide) ?_
    walk_at "go"
    refine k_stoX upd_same T.cl_Change T.na_Change_last (by show 3 < 1000; decide) ?_
    walk_at "go"
    refine k_stoX upd_same T.cl_Change T.na_Change_first (by show 4 < 1000; decide) ?_
    rw [cfs_p]
    have x1 := SameX.upd (T := NT T.ct_counter) (o := .ins T.C_Change dx (putF "old" (.ref po) [])) hx2
    have u1 : upd H2 x (.ins T.C_Change dx (putF "old" (.ref po) [])) x = _ := upd_same
    generalize upd H2 x (.ins T.C_Change dx (putF "old" (.ref po) [])) = H3 at *
    have x2 := SameX.upd (T := NT T.ct_counter) (o := .ins T.C_Change dx (putF "new" (.ref pn) (putF "old" (.ref po) []))) u1
    have u2 : upd H3 x (.ins T.C_Change dx (putF "new" (.ref pn) (putF "old" (.ref po) []))) x = _ := upd_same
    generalize upd H3 x (.ins T.C_Change dx (putF "new" (.ref pn) (putF "old" (.ref po) []))) = H4 at *
    have x3 := SameX.upd (T := NT T.ct_counter) (o := .ins T.C_Change dx (putF "day" (.int 578103) (putF "new" (.ref pn) (putF "old" (.ref po) [])))) u2
    have u3 : upd H4 x (.ins T.C_Change dx (putF "day" (.int 578103) (putF "new" (.ref pn) (putF "old" (.ref po) [])))) x = _ := upd_same
    generalize upd H4 x (.ins T.C_Change dx (putF "day" (.int 578103) (putF "new" (.ref pn) (putF "old" (.ref po) [])))) = H5 at *
    have x4 := SameX.upd (T := NT T.ct_counter) (o := .ins T.C_Change dx (putF "last" (.ref pl) (putF "day" (.int 578103) (putF "new" (.ref pn) (putF "old" (.ref po) []))))) u3
    have u4 : upd H5 x (.ins T.C_Change dx (putF "last" (.ref pl) (putF "day" (.int 578103) (putF "new" (.ref pn) (putF "old" (.ref po) []))))) x = _ := upd_same
    generalize upd H5 x (.ins T.C_Change dx (putF "last" (.ref pl) (putF "day" (.int 578103) (putF "new" (.ref pn) (putF "old" (.ref po) []))))) = H6 at *
    have x5 := SameX.upd (T := NT T.ct_counter) (o := .ins T.C_Change dx (cfs po pn 578103 pl pf)) u4
    have u5 : upd H6 x (.ins T.C_Change dx (cfs po pn 578103 pl pf)) x = _ := upd_same
    generalize upd H6 x (.ins T.C_Change dx (cfs po pn 578103 pl pf)) = H7 at *
    have xx := (((x1.trans x2).trans x3).trans x4).trans x5
    exact q _ ((SameX.of s12).trans xx) ⟨dx, po, pn, pl, pf, u5, blank_tup hx2 xx ul, blank_tup hx2 xx uf, blank_S hx2 xx ho2, blank_S hx2 xx hN2⟩
/-- Change(old, new, day) -/
theorem k_mkChange {T : Txt K mg base} {H : Hp} {Q : VK} {E : XK} {po pn : Addr} {vs dvs : List V} (e : vs ++ dvs = [.ref po, .ref pn, .int 578103]) (ho : SAt K T.C_Sun T.C_Measure H po CalO) (hn : SAt K T.C_Sun T.C_Measure H pn CalN) (hT : NdefX.TabsN (NT T.ct_counter) H)
    (q : ∀ x H', SameT (NT T.ct_counter) H H' → ChS K T H' x → Q (.ref x) H') : MakR T.C_Change (sp_Change_init K T) dvs E vs H Q := by
  intro x dx hx hd hne
  rw [e]
  have s0 : Same H (upd (upd H dx (.own x)) x (.ins T.C_Change dx [])) := fun c o h => by
    rw [upd_ne (ne_of_none h hx), upd_ne (ne_of_none h hd)]; exact h
  exact ⟨x, dx, po, pn, rfl, upd_same, ho.mono (T := []) (.of s0), hn.mono (T := []) (.of s0), hT.ext s0, fun H' sx hch => ⟨rfl, q x H' (SameX.made hx hd sx) hch⟩⟩

/-! ### _law_change -/
def sp_Lchange (K : PySem.W.Frag) (T : Txt K mg base) : Sp := fun vs H Q _ => vs = [] ∧ NdefX.TabsN (NT T.ct_counter) H ∧ ∀ x H', SameT (NT T.ct_counter) H H' → ChS K T H' x → Q (.ref x) H'
theorem ok_Lchange (T : Txt K mg base) : FnOk P w K mg base CX0 9 T.a_Lchange T.fd_Lchange [] (sp_Lchange K T) := by
  refine T.F_Lchange.ok sc_Lchange (fun vs H Q E h => ?_) (fun cdv A outer s H vs Q E hr h => ?_)
  · obtain ⟨rfl, _⟩ := h; rfl
  · obtain ⟨rfl, hT, q⟩ := h
    have hu := hr.units
    refine ⟨_, (pss_cons (ps_set (i := 0) sc_Lchange.nd rfl (Or.inl rfl) (pe_lst (pa_cons pe_int (pa_cons pe_int (pa_cons pe_int (pa_cons pe_int (pa_cons pe_int (pa_cons pe_int (pa_cons pe_int (pa_cons pe_int (pa_cons pe_int (pa_cons pe_int (pa_cons pe_int (pa_cons pe_int pa_nil))))))))))))))
        (pss_cons (ps_set (i := 1) sc_Lchange.nd rfl (Or.inl rfl) (pe_make T.mk_Sun (ok_Sun_init T) (hr.mono (by decide)) rfl T.gc_Sun T.b_Sun_init_5 T.v_Sun_init_5 pass0 (pa_cons pe_int (pa_cons (pv 0) (pa_cons pe_int (pa_cons (pe_lst (pa_cons (pe_tup (pa_cons pe_int (pa_cons pe_int (pa_cons pe_int (pa_cons pe_int pa_nil))))) pa_nil)) pa_nil))))))
        (pss_cons (ps_set (i := 2) sc_Lchange.nd rfl (Or.inl rfl) (pe_make T.mk_Sun (ok_Sun_init T) (hr.mono (by decide)) rfl T.gc_Sun T.b_Sun_init_5 T.v_Sun_init_5 pass0 (pa_cons pe_int (pa_cons (pv 0) (pa_cons pe_int (pa_cons (pe_lst (pa_cons (pe_tup (pa_cons pe_int (pa_cons pe_int (pa_cons pe_int (pa_cons pe_int pa_nil))))) (pa_cons (pe_tup (pa_cons (pe_un un_neg pe_int) (pa_cons pe_int (pa_cons pe_int (pa_cons pe_int pa_nil))))) (pa_cons (pe_tup (pa_cons pe_int (pa_cons pe_int (pa_cons pe_int (pa_cons pe_int pa_nil))))) pa_nil)))) pa_nil))))))
        (pss_one (ps_ret (pe_makeX T.mk_Change (ok_Change_init T) (hr.mono (by decide)) rfl T.gc_Change T.b_Change_init .nil (fun σ => passAt takes0 σ) (pa_cons (pv 1) (pa_cons (pv 2) (pa_cons pe_int pa_nil))))))))), ?_⟩
    walk_at "go"
    rename_i p1 H1 hn1 s1 t1 p2 H2 hn2 s2 t2 p3 H3 hn3 s3 t3
    have s23 := s2.trans s3
    refine k_mkSun (v := .ref p3) (st := 0) (ls := MLen) (lp := 2) (ts := TOld) rfl (SqL.of (s23 _ _ t1)) (.inr ⟨p3, rfl, [p2], SqL.of t3, TmsAt.nil.snoc (SqT.of (show H3 p2 = some (.tup (tmV ⟨1, 1, 3, 4⟩)) from s3 _ _ t2))⟩) old_ok (hT.ext (s1.trans s23)) fun x H4 hx s4 hs => ?_
    have ho : SAt K T.C_Sun T.C_Measure H4 x CalO := SunAt.mono own_to hs
    have hT4 := s4.tab (hT.ext (s1.trans s23))
    have t14 := s4.lst (s23 _ _ t1)
    walk_at "go"
    rename_i p5 H5 hn5 s5 t5 p6 H6 hn6 s6 t6 p7 H7 hn7 s7 t7 p8 H8 hn8 s8 t8
    have s58 := ((s5.trans s6).trans s7).trans s8
    have hq : TmsAt K H8 [p5, p6, p7] TNew := ((TmsAt.nil.snoc (SqT.of (show H8 p5 = some (.tup (tmV ⟨1, 1, 3, 4⟩)) from ((s6.trans s7).trans s8) _ _ t5))).snoc (SqT.of (show H8 p6 = some (.tup (tmV ⟨-1, 1, 99, 100⟩)) from (s7.trans s8) _ _ t6))).snoc (SqT.of (show H8 p7 = some (.tup (tmV ⟨1, 1, 399, 400⟩)) from s8 _ _ t7))
    refine k_mkSun (v := .ref p8) (st := 2) (ls := MLen) (lp := 2) (ts := TNew) rfl (SqL.of (s58 _ _ t14)) (.inr ⟨p8, rfl, [p5, p6, p7], SqL.of t8, hq⟩) new_ok (hT4.ext s58) fun x2 H9 hx2 s9 hs2 => ?_
    have hn : SAt K T.C_Sun T.C_Measure H9 x2 CalN := SunAt.mono own_to hs2
    have s49 : SameT (NT T.ct_counter) H4 H9 := (SameT.of s58).trans s9
    walk_at "go"
    refine k_mkChange rfl (ho.mono s49) hn (s49.tab hT4) fun x3 H10 s10 hch => ?_
    walk_at "go"
    exact q x3 H10 ((((SameT.of (s1.trans s23)).trans s4).trans s49).trans s10) hch
theorem k_Lchange {T : Txt K mg base} {H : Hp} {Q : VK} {E : XK} (hT : NdefX.TabsN (NT T.ct_counter) H) (q : ∀ x H', SameT (NT T.ct_counter) H H' → ChS K T H' x → Q (.ref x) H') : sp_Lchange K T [] H Q E := ⟨rfl, hT, q⟩

/-! ### _law_cell_at -/
/-- a cell of the script; nought behind its end -/
def sp_Lcell_at (K : PySem.W.Frag) : Sp := fun vs H Q _ => ∃ (a : Addr) (ns : List Int) (k : Int), vs = [.ref a, .int k] ∧ SqL K H a (ns.map V.int) ∧ 0 ≤ k ∧ Q (.int (ns.getD k.toNat 0)) H
theorem ok_Lcell_at (T : Txt K mg base) : FnOk P w K mg base CX0 1 T.a_Lcell_at T.fd_Lcell_at ["_law_script", "_law_k"] (sp_Lcell_at K) := by
  refine T.F_Lcell_at.ok sc_Lcell_at (fun vs H Q E h => ?_) (fun cdv A outer s H vs Q E hr h => ?_)
  · obtain ⟨_, _, _, rfl, _⟩ := h; rfl
  · obtain ⟨a, ns, k, rfl, hS, h0, q⟩ := h
    refine ⟨_, (pss_cons (ps_if (pt_cmpR op_lt (pv 1) (pe_callB (kb_len K) (by rfl) T.n_len (by decide +kernel) (pa_cons (pv 0) pa_nil)) (nomark _)) (pss_one (ps_ret (pe_ix (kb_ix K) (pv 0) (pv 1) (fun _ _ => rfl)))) pss_nil)
        (pss_one (ps_ret pe_int))), ?_⟩
    apply k_seqI; walk_at "go"
    refine if_dec (fun hk => ?_) (fun hk => ?_)
    · walk_at "go"
      rw [List.length_map] at hk
      have e : ((ns.map V.int)[k.toNat]?) = some (V.int (ns.getD k.toNat 0)) := by
        rw [List.getElem?_map, List.getElem?_eq_getElem (show k.toNat < ns.length by omega), List.getD_eq_getElem?_getD, List.getElem?_eq_getElem (show k.toNat < ns.length by omega)]
        rfl
      exact k_ixL hS (at_of (show k = ((k.toNat : Nat) : Int) by omega) e) q
    · walk_at "go"
      rw [List.length_map] at hk
      have e : ns.getD k.toNat 0 = 0 := by
        rw [List.getD_eq_getElem?_getD, List.getElem?_eq_none (by omega)]; rfl
      rw [e] at q
      exact q
theorem sm_getD {ns : List Int} {n : Nat} (hb : ∀ z ∈ ns, Builtin.Int.intBits z ≤ n) (k : Nat) : Sm n (ns.getD k 0) := by
  rw [List.getD_eq_getElem?_getD]
  by_cases h : k < ns.length
  · rw [List.getElem?_eq_getElem h]; exact sm_bits (hb _ (List.getElem_mem h))
  · rw [List.getElem?_eq_none (by omega)]; exact ⟨Nat.pow_pos (by decide)⟩
theorem k_cell {H : Hp} {Q : VK} {E : XK} {a : Addr} {ns : List Int} {k : Int} (hb : ∀ z ∈ ns, Builtin.Int.intBits z ≤ 1048576) (hS : SqL K H a (ns.map V.int)) (h0 : 0 ≤ k)
    (q : ∀ c, c = ns.getD k.toNat 0 → Sm 1048576 c → Q (.int c) H) : sp_Lcell_at K [.ref a, .int k] H Q E := ⟨a, ns, k, rfl, hS, h0, q _ rfl (sm_getD hb _)⟩
local macro_rules | `(tactic| walk_at "st") => `(tactic| first | ((with_reducible apply k_cell); (· assumption); (· walk_at "hp"); (· first | decide | omega); intro c hc hm) | fail)

/-! ### _law_number -/
def sp_Lnumber (K : PySem.W.Frag) : Sp := fun vs H Q _ => ∃ c : Int, vs = [.int c] ∧ ∀ (z : Int) (H' : Hp), Same H H' → -10000000000000000000000000000000000000000 ≤ z → z ≤ 10000000000000000000000000000000000000000 → Q (.int z) H'
theorem ok_Lnumber (T : Txt K mg base) : FnOk P w K mg base CX0 1 T.a_Lnumber T.fd_Lnumber ["_law_cell"] (sp_Lnumber K) := by
  refine T.F_Lnumber.ok sc_Lnumber (fun vs H Q E h => ?_) (fun cdv A outer s H vs Q E hr h => ?_)
  · obtain ⟨_, rfl, _⟩ := h; rfl
  · obtain ⟨c, rfl, q⟩ := h
    have hu := hr.units
    have h1 := Int.emod_nonneg (c / 3) (show (10000000000000000000000000000000000000000 : Int) ≠ 0 by decide)
    have h2 := Int.emod_lt_of_pos (c / 3) (show (0 : Int) < 10000000000000000000000000000000000000000 by decide)
    refine ⟨_, (pss_cons (ps_set (i := 1) sc_Lnumber.nd rfl (Or.inl rfl) (pe_op op_mod (pe_op op_fdivW (pv 0) pe_int) (pe_powc (n := 10000000000000000000000000000000000000000) (by decide +kernel))))
        (pss_one (ps_ret (pe_ix (kb_ix K) (pe_lst (pa_cons (pv 1) (pa_cons (pe_un un_neg (pv 1)) (pa_cons (pe_op op_sub (pe_op op_mod (pv 1) pe_int) pe_int) pa_nil)))) (pe_op op_mod (pv 0) pe_int) (fun _ _ => rfl))))), ?_⟩
    walk_at "go"
    generalize c / 3 % 10000000000000000000000000000000000000000 = x at *
    walk_at "go"
    rename_i L1 H1 hn1 s1 t1
    obtain ⟨z, ⟨z0, z1⟩, hz⟩ := atI_all (P := fun z => -10000000000000000000000000000000000000000 ≤ z ∧ z ≤ 10000000000000000000000000000000000000000) (l := [x, -x, x % 1000 - 500]) (i := c % 3) (by omega) (by show c % 3 < 3; omega) (fun z hz => by
      simp only [List.mem_cons, List.not_mem_nil, or_false] at hz
      omega)
    refine k_ixL (SqL.of t1) hz ?_
    exact q z _ s1 z0 z1
theorem k_Lnumber {K : PySem.W.Frag} {H : Hp} {Q : VK} {E : XK} {c : Int} (q : ∀ (z : Int) (H' : Hp), Same H H' → -10000000000000000000000000000000000000000 ≤ z → z ≤ 10000000000000000000000000000000000000000 → Q (.int z) H') : sp_Lnumber K [.int c] H Q E := ⟨c, rfl, q⟩

/-! ### _law_lengths -/
def sp_Llengths (K : PySem.W.Frag) : Sp := fun vs H Q _ => ∃ (y : Int) (e : Bool), vs = [.int y, .bl e] ∧ ∀ (p : Addr) (H' : Hp), Same H H' → H' p = some (.lst (((CalE e).lens y).map V.int)) → Q (.ref p) H'
theorem ok_Llengths (T : Txt K mg base) : FnOk P w K mg base CX0 1 T.a_Llengths T.fd_Llengths ["_law_year", "_law_elder"] (sp_Llengths K) := by
  refine T.F_Llengths.ok sc_Llengths (fun vs H Q E h => ?_) (fun cdv A outer s H vs Q E hr h => ?_)
  · obtain ⟨_, _, rfl, _⟩ := h; rfl
  · obtain ⟨y, e, rfl, q⟩ := h
    have hu := hr.units
    refine ⟨_, (pss_cons (ps_set (i := 2) sc_Llengths.nd rfl (Or.inl rfl) (pe_lst (pa_cons pe_int (pa_cons pe_int (pa_cons pe_int (pa_cons pe_int (pa_cons pe_int (pa_cons pe_int (pa_cons pe_int (pa_cons pe_int (pa_cons pe_int (pa_cons pe_int (pa_cons pe_int (pa_cons pe_int pa_nil))))))))))))))
        (pss_cons (ps_if (PW.pt (pw_and (pt_cmpR (kb_eq K (hu := hu)) (pe_op op_mod (pv 0) pe_int) pe_int (nomark _)) (pw_and1 (PW.pt (pw_or (pt_val (pv 1)) (pw_or (pt_cmpR (kb_ne K (hu := hu)) (pe_op op_mod (pv 0) pe_int) pe_int (nomark _)) (pw_or1 (pt_cmpR (kb_eq K (hu := hu)) (pe_op op_mod (pv 0) pe_int) pe_int (nomark _))))))))) (pss_one (ps_asg pe_int (pg_sub (pv 2) pe_int set_list))) pss_nil)
        (pss_one (ps_ret (pv 2))))), ?_⟩
    walk_at "go"
    rename_i p1 H1 hn1 s1 t1
    with_reducible apply k_seqI
    refine and_split (LeapE e y) (fun h => ?_) (fun h => ?_) fun R' h1 h2 => ?_
    · rw [lens_leap h] at q
      walk_at "go"
      refine k_setV t1 (j := 1) rfl fun H2 m2 t2 => ?_
      walk_at "go"
      exact q p1 H2 (m2.same s1 hn1) t2
    · rw [lens_plain h] at q
      walk_at "go"
      exact q p1 H1 s1 t1
    · unfold LeapE at h1 h2
      walk_at "go"
      refine if_dec (fun a1 => ?_) (fun a1 => by walk_at "go"; exact h2 (fun z => a1 z.1))
      cases e with
      | true =>
        walk_at "go"
        exact h1 ⟨a1, .inl rfl⟩
      | false =>
        walk_at "go"
        refine if_ndec (fun ne => h1 ⟨a1, .inr (.inl ne)⟩) (fun eq => ?_)
        walk_at "go"
        exact dec_two (R := fun c => R' c H1) (fun b => h1 ⟨a1, .inr (.inr b)⟩) (fun b => h2 (fun z => by rcases z.2 with z | z | z; (cases z); (exact z eq); (exact b z)))
theorem k_Llengths {K : PySem.W.Frag} {H : Hp} {Q : VK} {E : XK} {y : Int} {e : Bool} (q : ∀ (p : Addr) (H' : Hp), Same H H' → H' p = some (.lst (((CalE e).lens y).map V.int)) → Q (.ref p) H') : sp_Llengths K [.int y, .bl e] H Q E := ⟨y, e, rfl, q⟩

/-! ### _law_sum -/
def sp_Lsum (K : PySem.W.Frag) : Sp := fun vs H Q _ => ∃ (p : Addr) (d : D3) (e : Bool), vs = [.ref p, .bl e] ∧ SqT K H p (d3V d) ∧ 1 ≤ d.2.1 ∧ Sm 4700 d.1 ∧ ∀ (H' : Hp), Same H H' → Q (.int (dayOf (CalE e) d.1 d.2.1 d.2.2)) H'
theorem ok_Lsum (T : Txt K mg base) : FnOk P w K mg base CX0 2 T.a_Lsum T.fd_Lsum ["_law_date", "_law_elder"] (sp_Lsum K) := by
  refine T.F_Lsum.ok sc_Lsum (fun vs H Q E h => ?_) (fun cdv A outer s H vs Q E hr h => ?_)
  · obtain ⟨_, _, _, rfl, _⟩ := h; rfl
  · obtain ⟨p, ⟨y, m, d⟩, e, rfl, hp, hm, sy, q⟩ := h
    have hu := hr.units
    have hp3 : SqT K H p [.int y, .int m, .int d] := hp
    have hm' : 1 ≤ m := hm
    have sy' : Sm 4700 y := sy
    refine ⟨_, (pss_cons (ps_asg (pv 0) (pg_tup rfl (pgs_cons (pg_name (i := 2) sc_Lsum.nd rfl (Or.inl rfl)) (pgs_cons (pg_name (i := 3) sc_Lsum.nd rfl (Or.inl rfl)) (pgs_cons (pg_name (i := 4) sc_Lsum.nd rfl (Or.inl rfl)) pgs_nil)))))
        (pss_cons (ps_set (i := 5) sc_Lsum.nd rfl (Or.inl rfl) (pe_op op_addA (pe_op op_mulX pe_int (pv 2)) (pe_op op_fdivW (pe_op op_addA (pv 2) pe_int) pe_int)))
        (pss_cons (ps_if (pt_not (pt_val (pv 1))) (pss_one (ps_set (i := 5) sc_Lsum.nd rfl (Or.inl rfl) (pe_op op_addA (pe_op op_addA (pe_op op_sub (pv 5) (pe_op op_fdivW (pe_op op_addA (pv 2) pe_int) pe_int)) (pe_op op_fdivW (pe_op op_addA (pv 2) pe_int) pe_int)) pe_int))) pss_nil)
        (pss_one (ps_ret (pe_op op_sub (pe_op op_addA (pe_op op_addA (pv 5) (pe_callB (kb_sum K (hc := rfl)) (by rfl) T.n_sum (by decide +kernel) (pa_cons (pe_slice sl_list (pe_call (ok_Llengths T) (hr.mono (by decide)) (by rfl) T.g_Llengths T.F_Llengths.kp T.b_Llengths .nil pass0 (pa_cons (pv 2) (pa_cons (pv 1) pa_nil))) po_none (po_some (pe_op op_sub (pv 3) pe_int))) pa_nil))) (pv 4)) pe_int)))))), ?_⟩
    walk_at "go"
    with_reducible refine k_cutI (fun σ' H' => σ' = [some (.ref p), some (.bl e), some (.int y), some (.int m), some (.int d), some (.int (sumE e y))] ∧ H = H') (fun N hN => ?_) ?_
    · unfold sumE at hN
      cases e with
      | true =>
        walk_at "go"
        exact hN _ _ ⟨rfl, rfl⟩
      | false =>
        walk_at "go"
        exact hN _ _ ⟨rfl, rfl⟩
    rintro _ _ ⟨rfl, rfl⟩
    walk_at "go"
    refine k_Llengths fun pl H1 s1 t1 => ?_
    walk_at "go"
    rename_i p2 H2 hn2 s2 t2
    rw [cutV_to_ints _ (by omega)] at t2
    refine k_sum (SqL.of t2) ?_
    have q := q H2 (s1.trans s2)
    unfold dayOf at q
    rw [start_E] at q
    walk_at "go"
    exact q
theorem k_Lsum {K : PySem.W.Frag} {H : Hp} {Q : VK} {E : XK} {p : Addr} {d : D3} {e : Bool} (hp : SqT K H p (d3V d)) (hm : 1 ≤ d.2.1) (sy : Sm 4700 d.1) (q : ∀ (H' : Hp), Same H H' → Q (.int (dayOf (CalE e) d.1 d.2.1 d.2.2)) H') : sp_Lsum K [.ref p, .bl e] H Q E := ⟨p, d, e, rfl, hp, hm, sy, q⟩

/-! ### _law_day -/
def sp_Lday (K : PySem.W.Frag) : Sp := fun vs H Q _ => ∃ (a : Addr) (ns : List Int), vs = [.ref a] ∧ SqL K H a (ns.map V.int) ∧ (∀ z ∈ ns, Builtin.Int.intBits z ≤ 1048576) ∧ ∀ (x : Int) (H' : Hp), Same H H' → Sm 400 x → Q (.int x) H'
theorem ok_Lday (T : Txt K mg base) : FnOk P w K mg base CX0 3 T.a_Lday T.fd_Lday ["_law_script"] (sp_Lday K) := by
  refine T.F_Lday.ok sc_Lday (fun vs H Q E h => ?_) (fun cdv A outer s H vs Q E hr h => ?_)
  · obtain ⟨_, _, rfl, _⟩ := h; rfl
  · obtain ⟨a, ns, rfl, hS, hb, q⟩ := h
    have hu := hr.units
    refine ⟨_, (pss_cons (ps_set (i := 1) sc_Lday.nd rfl (Or.inl rfl) (pe_call (ok_Lcell_at T) (hr.mono (by decide)) (by rfl) T.g_Lcell_at T.F_Lcell_at.kp T.b_Lcell_at .nil pass0 (pa_cons (pv 0) (pa_cons pe_int pa_nil))))
        (pss_cons (ps_set (i := 2) sc_Lday.nd rfl (Or.inl rfl) (pe_op op_fdivW (pv 1) pe_int))
        (pss_cons (ps_if (pt_cmpR (kb_eq K (hu := hu)) (pe_op op_mod (pv 1) pe_int) pe_int (nomark _)) (pss_one (ps_ret (pe_op op_sub (pe_op op_addA pe_int (pe_op op_mod (pv 2) pe_int)) pe_int))) pss_nil)
        (pss_cons (ps_if (pt_cmpR (kb_eq K (hu := hu)) (pe_op op_mod (pv 1) pe_int) pe_int (nomark _)) (pss_one (ps_ret (pe_op op_sub (pe_op op_addA pe_int (pe_op op_mod (pv 2) pe_int)) pe_int))) pss_nil)
        (pss_cons (ps_if (pt_cmpR (kb_eq K (hu := hu)) (pe_op op_mod (pv 1) pe_int) pe_int (nomark _)) (pss_one (ps_ret (pe_call (ok_Lnumber T) (hr.mono (by decide)) (by rfl) T.g_Lnumber T.F_Lnumber.kp T.b_Lnumber .nil pass0 (pa_cons (pe_call (ok_Lcell_at T) (hr.mono (by decide)) (by rfl) T.g_Lcell_at T.F_Lcell_at.kp T.b_Lcell_at .nil pass0 (pa_cons (pv 0) (pa_cons pe_int pa_nil))) pa_nil)))) pss_nil)
        (pss_cons (ps_set (i := 3) sc_Lday.nd rfl (Or.inl rfl) (pe_op op_mulX pe_int (pe_op op_sub (pe_op op_mod (pv 2) pe_int) pe_int)))
        (pss_one (ps_ret (pe_op op_sub (pe_call (ok_Lsum T) (hr.mono (by decide)) (by rfl) T.g_Lsum T.F_Lsum.kp T.b_Lsum .nil pass0 (pa_cons (pe_tup (pa_cons (pv 3) (pa_cons pe_int (pa_cons pe_int pa_nil)))) (pa_cons (pe_cmpR op_lt (pv 3) pe_int (nomark _)) pa_nil))) (pe_op op_mod (pe_op op_fdivW (pv 2) pe_int) pe_int)))))))))), ?_⟩
    walk_at "go"
    rename_i c0 _ sc0
    with_reducible apply k_seqI
    walk_at "go"
    refine if_dec (fun _ => ?_) (fun _ => ?_)
    · walk_at "go"
      exact q _ _ (.refl _) (sm_mono (sm41 (by omega) (by omega)) (by decide))
    walk_at "go"
    with_reducible apply k_seqI
    walk_at "go"
    refine if_dec (fun _ => ?_) (fun _ => ?_)
    · walk_at "go"
      exact q _ _ (.refl _) (sm_mono (sm41 (by omega) (by omega)) (by decide))
    walk_at "go"
    with_reducible apply k_seqI
    walk_at "go"
    refine if_dec (fun _ => ?_) (fun _ => ?_)
    · walk_at "go"
      rename_i c1 _ sc1
      refine k_Lnumber fun z H1 s1 z0 z1 => ?_
      walk_at "go"
      exact q _ _ s1 (sm_mono (sm41 (by omega) (by omega)) (by decide))
    walk_at "go"
    rename_i p1 H1 hn1 s1 t1
    have y0 : -1000 ≤ 100 * (c0 / 4 % 41 - 10) := by omega
    have y1 : 100 * (c0 / 4 % 41 - 10) ≤ 3000 := by omega
    generalize 100 * (c0 / 4 % 41 - 10) = y at *
    refine k_Lsum (d := (y, 3, 1)) (SqT.of t1) (by show (1 : Int) ≤ 3; decide) (sm_mono (sm41 (i := y) (by omega) (by omega)) (by decide)) fun H2 s2 => ?_
    walk_at "go"
    refine q _ _ (s1.trans s2) ?_
    have hd : ∀ e : Bool, -5000000 ≤ dayOf (CalE e) y 3 1 ∧ dayOf (CalE e) y 3 1 ≤ 5000000 := fun e => by
      have hs : 0 ≤ (((CalE e).lens y).take ((3 : Int) - 1).toNat).sum ∧ (((CalE e).lens y).take ((3 : Int) - 1).toNat).sum ≤ 100 := by
        by_cases h : LeapE e y
        · rw [lens_leap h]; decide
        · rw [lens_plain h]; decide
      unfold dayOf
      rw [start_E]
      generalize (((CalE e).lens y).take ((3 : Int) - 1).toNat).sum = S at *
      unfold sumE
      split <;> omega
    have := hd (decide (y < 1582))
    show Sm 400 (dayOf (CalE (decide (y < 1582))) y 3 1 - _)
    exact sm_mono (sm41 (by omega) (by omega)) (by decide)
theorem k_Lday {K : PySem.W.Frag} {H : Hp} {Q : VK} {E : XK} {a : Addr} {ns : List Int} (hS : SqL K H a (ns.map V.int)) (hb : ∀ z ∈ ns, Builtin.Int.intBits z ≤ 1048576) (q : ∀ (x : Int) (H' : Hp), Same H H' → Sm 400 x → Q (.int x) H') : sp_Lday K [.ref a] H Q E := ⟨a, ns, rfl, hS, hb, q⟩

/-! ### _law_turned -/
def sp_Lturned (K : PySem.W.Frag) : Sp := fun vs H Q _ => ∃ (p : Addr) (d : D3) (c f : Int), vs = [.ref p, .int c, .int f] ∧ SqT K H p (d3V d) ∧ Sm 1402 d.1 ∧ Sm 1402 f ∧ ∀ (p' : Addr) (H' : Hp) (d' : D3), Same H H' → H' p' = some (.tup (d3V d')) → Sm 1403 d'.1 → Q (.ref p') H'
theorem ok_Lturned (T : Txt K mg base) : FnOk P w K mg base CX0 1 T.a_Lturned T.fd_Lturned ["_law_date", "_law_cell", "_law_far"] (sp_Lturned K) := by
  refine T.F_Lturned.ok sc_Lturned (fun vs H Q E h => ?_) (fun cdv A outer s H vs Q E hr h => ?_)
  · obtain ⟨_, _, _, _, rfl, _⟩ := h; rfl
  · obtain ⟨p, ⟨y, m, d⟩, c, f, rfl, hp, sy, sf, q⟩ := h
    have hu := hr.units
    have hp3 : SqT K H p [.int y, .int m, .int d] := hp
    have sy' : Sm 1402 y := sy
    refine ⟨_, (pss_cons (ps_asg (pv 0) (pg_tup rfl (pgs_cons (pg_name (i := 3) sc_Lturned.nd rfl (Or.inl rfl)) (pgs_cons (pg_name (i := 4) sc_Lturned.nd rfl (Or.inl rfl)) (pgs_cons (pg_name (i := 5) sc_Lturned.nd rfl (Or.inl rfl)) pgs_nil)))))
        (pss_cons (ps_if (pt_cmpR (kb_eq K (hu := hu)) (pe_op op_mod (pv 1) pe_int) pe_int (nomark _)) (pss_cons (ps_set (i := 3) sc_Lturned.nd rfl (Or.inl rfl) pe_int)
        (pss_one (ps_set (i := 4) sc_Lturned.nd rfl (Or.inl rfl) pe_int))) pss_nil)
        (pss_cons (ps_if (pt_cmpR (kb_eq K (hu := hu)) (pe_op op_mod (pe_op op_fdivW (pv 1) pe_int) pe_int) pe_int (nomark _)) (pss_one (ps_set (i := 3) sc_Lturned.nd rfl (Or.inl rfl) (pe_op op_sub (pe_op op_addA (pv 3) (pe_op op_mod (pe_op op_fdivW (pv 1) pe_int) pe_int)) pe_int))) pss_nil)
        (pss_cons (ps_if (pt_cmpR (kb_eq K (hu := hu)) (pe_op op_mod (pe_op op_fdivW (pv 1) pe_int) pe_int) pe_int (nomark _)) (pss_one (ps_set (i := 3) sc_Lturned.nd rfl (Or.inl rfl) (pv 2))) pss_nil)
        (pss_cons (ps_if (pt_cmpR (kb_eq K (hu := hu)) (pe_op op_mod (pe_op op_fdivW (pv 1) pe_int) pe_int) pe_int (nomark _)) (pss_one (ps_ret (pe_tup (pa_cons (pe_op op_mulX pe_int (pe_op op_sub (pe_op op_mod (pe_op op_fdivW (pv 1) pe_int) pe_int) pe_int)) (pa_cons pe_int (pa_cons (pe_op op_addA pe_int (pe_op op_mod (pe_op op_fdivW (pv 1) pe_int) pe_int)) pa_nil)))))) pss_nil)
        (pss_cons (ps_if (pt_cmpR (kb_eq K (hu := hu)) (pe_op op_mod (pe_op op_fdivW (pv 1) pe_int) pe_int) pe_int (nomark _)) (pss_one (ps_set (i := 4) sc_Lturned.nd rfl (Or.inl rfl) (pe_op op_mod (pe_op op_fdivW (pv 1) pe_int) pe_int))) pss_nil)
        (pss_cons (ps_if (pt_cmpR op_gt (pe_op op_mod (pe_op op_fdivW (pv 1) pe_int) pe_int) pe_int (nomark _)) (pss_one (ps_set (i := 5) sc_Lturned.nd rfl (Or.inl rfl) (pe_op op_mod (pe_op op_fdivW (pv 1) pe_int) pe_int))) pss_nil)
        (pss_cons (ps_if (pt_cmpR (kb_eq K (hu := hu)) (pe_op op_mod (pe_op op_fdivW (pv 1) pe_int) pe_int) pe_int (nomark _)) (pss_one (ps_set (i := 4) sc_Lturned.nd rfl (Or.inl rfl) (pe_op op_sub (pe_op op_mod (pe_op op_fdivW (pv 1) pe_int) (pe_op op_mulX pe_int (pe_powc (n := 10000000000000000000000000000000000000000) (by decide +kernel)))) (pe_powc (n := 10000000000000000000000000000000000000000) (by decide +kernel))))) pss_nil)
        (pss_cons (ps_if (pt_cmpR (kb_eq K (hu := hu)) (pe_op op_mod (pe_op op_fdivW (pv 1) pe_int) pe_int) pe_int (nomark _)) (pss_one (ps_set (i := 5) sc_Lturned.nd rfl (Or.inl rfl) (pe_op op_sub (pe_op op_mod (pe_op op_fdivW (pv 1) pe_int) (pe_op op_mulX pe_int (pe_powc (n := 10000000000000000000000000000000000000000) (by decide +kernel)))) (pe_powc (n := 10000000000000000000000000000000000000000) (by decide +kernel))))) pss_nil)
        (pss_one (ps_ret (pe_tup (pa_cons (pv 3) (pa_cons (pv 4) (pa_cons (pv 5) pa_nil))))))))))))))), ?_⟩
    walk_at "go"
    have fin : ∀ (y m d : Int) (p' : Addr) (H' : Hp), Same H H' → H' p' = some (.tup [.int y, .int m, .int d]) → Sm 1403 y → Q (.ref p') H' := fun y m d p' H' s t sy => q p' H' (y, m, d) s t sy
    clear q
    have lit : ∀ z : Int, -100000 ≤ z → z ≤ 100000 → Sm 1402 z := fun z a b => sm_mono (sm41 (by omega) (by omega)) (by decide)
    with_reducible refine k_cutI (fun σ' H' => ∃ y m d : Int, σ' = [some (.ref p), some (.int c), some (.int f), some (.int y), some (.int m), some (.int d)] ∧ H = H' ∧ Sm 1402 y) (fun N hN => ?_) ?_
    · walk_at "go"
      refine if_dec (fun _ => ?_) (fun _ => ?_)
      · walk_at "go"
        exact hN _ _ ⟨_, _, _, rfl, rfl, lit _ (by decide) (by decide)⟩
      · walk_at "go"
        exact hN _ _ ⟨_, _, _, rfl, rfl, sy'⟩
    clear sy sy' hp hp3
    rintro _ _ ⟨y, m, d, rfl, rfl, sy⟩
    with_reducible refine k_cutI (fun σ' H' => ∃ y m d : Int, σ' = [some (.ref p), some (.int c), some (.int f), some (.int y), some (.int m), some (.int d)] ∧ H = H' ∧ Sm 1403 y) (fun N hN => ?_) ?_
    · walk_at "go"
      refine if_dec (fun _ => ?_) (fun _ => ?_)
      · walk_at "go"
        refine hN _ _ ⟨_, _, _, rfl, rfl, ?_⟩
        have := sm_addX sy (lit (c / 12 % 5 - 2) (by omega) (by omega))
        rw [show y + (c / 12 % 5 - 2) = y + c / 12 % 5 - 2 by omega] at this
        exact this
      · walk_at "go"
        exact hN _ _ ⟨_, _, _, rfl, rfl, sm_mono sy (by decide)⟩
    rintro _ _ ⟨y, m, d, rfl, rfl, sy⟩
    with_reducible refine k_cutI (fun σ' H' => ∃ y m d : Int, σ' = [some (.ref p), some (.int c), some (.int f), some (.int y), some (.int m), some (.int d)] ∧ H = H' ∧ Sm 1403 y) (fun N hN => ?_) ?_
    · walk_at "go"
      refine if_dec (fun _ => ?_) (fun _ => ?_)
      · walk_at "go"
        exact hN _ _ ⟨_, _, _, rfl, rfl, sm_mono sf (by decide)⟩
      · walk_at "go"
        exact hN _ _ ⟨_, _, _, rfl, rfl, sy⟩
    rintro _ _ ⟨y, m, d, rfl, rfl, sy⟩
    with_reducible apply k_seqI
    walk_at "go"
    refine if_dec (fun _ => ?_) (fun _ => ?_)
    · walk_at "go"
      rename_i p1 H1 hn1 s1 t1
      exact fin _ _ _ p1 H1 s1 t1 (sm_mono (lit _ (by omega) (by omega)) (by decide))
    walk_at "go"
    with_reducible refine k_cutI (fun σ' H' => ∃ m : Int, σ' = [some (.ref p), some (.int c), some (.int f), some (.int y), some (.int m), some (.int d)] ∧ H = H') (fun N hN => ?_) ?_
    · walk_at "go"
      refine if_dec (fun _ => ?_) (fun _ => ?_)
      all_goals (walk_at "go"; exact hN _ _ ⟨_, rfl, rfl⟩)
    rintro _ _ ⟨m, rfl, rfl⟩
    with_reducible refine k_cutI (fun σ' H' => ∃ d : Int, σ' = [some (.ref p), some (.int c), some (.int f), some (.int y), some (.int m), some (.int d)] ∧ H = H') (fun N hN => ?_) ?_
    · walk_at "go"
      refine if_dec (fun _ => ?_) (fun _ => ?_)
      all_goals (walk_at "go"; exact hN _ _ ⟨_, rfl, rfl⟩)
    rintro _ _ ⟨d, rfl, rfl⟩
    with_reducible refine k_cutI (fun σ' H' => ∃ m : Int, σ' = [some (.ref p), some (.int c), some (.int f), some (.int y), some (.int m), some (.int d)] ∧ H = H') (fun N hN => ?_) ?_
    · walk_at "go"
      refine if_dec (fun _ => ?_) (fun _ => ?_)
      all_goals (walk_at "go"; exact hN _ _ ⟨_, rfl, rfl⟩)
    rintro _ _ ⟨m, rfl, rfl⟩
    with_reducible refine k_cutI (fun σ' H' => ∃ d : Int, σ' = [some (.ref p), some (.int c), some (.int f), some (.int y), some (.int m), some (.int d)] ∧ H = H') (fun N hN => ?_) ?_
    · walk_at "go"
      refine if_dec (fun _ => ?_) (fun _ => ?_)
      all_goals (walk_at "go"; exact hN _ _ ⟨_, rfl, rfl⟩)
    rintro _ _ ⟨d, rfl, rfl⟩
    walk_at "go"
    rename_i p1 H1 hn1 s1 t1
    exact fin _ _ _ p1 H1 s1 t1 sy
theorem k_Lturned {K : PySem.W.Frag} {H : Hp} {Q : VK} {E : XK} {p : Addr} {d : D3} {c f : Int} (hp : SqT K H p (d3V d)) (sy : Sm 1402 d.1) (sf : Sm 1402 f) (q : ∀ (p' : Addr) (H' : Hp) (d' : D3), Same H H' → H' p' = some (.tup (d3V d')) → Sm 1403 d'.1 → Q (.ref p') H') : sp_Lturned K [.ref p, .int c, .int f] H Q E := ⟨p, d, c, f, rfl, hp, sy, sf, q⟩

/-! ### InGap.__init__ -/
abbrev sp_InGap_init (K : PySem.W.Frag) (T : Txt K mg base) : Sp := spTV2 T.C_InGap "date" "day"
theorem ok_InGap_init (T : Txt K mg base) : FnOk P w K mg base CX0 1 T.a_InGap_init T.fd_InGap_init ["self", "date", "day"] (sp_InGap_init K T) := by
  refine T.F_InGap_init.ok sc_InGap_init (fun vs H Q E h => ?_) (fun cdv A outer s H vs Q E hr h => ?_)
  · obtain ⟨_, _, _, rfl, _⟩ := h; rfl
  · obtain ⟨a, m, w, rfl, ha, q⟩ := h
    refine ⟨_, (pss_cons (ps_expr (pe_xinit rfl T.gc_FeastError T.cr_FeastError T.vi_FeastError (pa_cons (pv 0) (pa_cons pe_str pa_nil))))
        (pss_cons (ps_ost (pv 0) (pv 1))
        (pss_one (ps_ost (pv 0) (pv 2))))), ?_⟩
    walk_at "go"
    refine k_veI ?_
    walk_at "go"
    refine ⟨a, _, _, rfl, by show 1 ≤ 1000; decide, T.ox_InGap, ha, ?_⟩
    walk_at "go"
    with_reducible apply k_seq
    refine k_ost ?_
    walk_at "go"
    refine ⟨a, _, rfl, T.ox_InGap, T.no_InGap_date, .inl ⟨ha, fun dx hdx hne => ?_⟩⟩
    refine k_nx ?_
    refine k_ost ?_
    walk_at "go"
    exact ⟨a, _, rfl, T.ox_InGap, T.no_InGap_day, .inr ⟨dx, _, upd_same, by rw [upd_ne hne, upd_same], by show 1 ≤ 900; decide, q dx hdx hne⟩⟩

/-! ### NoDate.__init__ -/
abbrev sp_NoDate_init (K : PySem.W.Frag) (T : Txt K mg base) : Sp := spTV1 T.C_NoDate "date"
theorem ok_NoDate_init (T : Txt K mg base) : FnOk P w K mg base CX0 1 T.a_NoDate_init T.fd_NoDate_init ["self", "date"] (sp_NoDate_init K T) := by
  refine T.F_NoDate_init.ok sc_NoDate_init (fun vs H Q E h => ?_) (fun cdv A outer s H vs Q E hr h => ?_)
  · obtain ⟨_, _, rfl, _⟩ := h; rfl
  · obtain ⟨a, m, rfl, ha, q⟩ := h
    refine ⟨_, (pss_cons (ps_expr (pe_xinit rfl T.gc_FeastError T.cr_FeastError T.vi_FeastError (pa_cons (pv 0) (pa_cons pe_str pa_nil))))
        (pss_one (ps_ost (pv 0) (pv 1)))), ?_⟩
    walk_at "go"
    refine k_veI ?_
    walk_at "go"
    refine ⟨a, _, _, rfl, by show 1 ≤ 1000; decide, T.ox_NoDate, ha, ?_⟩
    walk_at "go"
    with_reducible apply k_ost
    walk_at "go"
    exact ⟨a, _, rfl, T.ox_NoDate, T.no_NoDate_date, .inl ⟨ha, q⟩⟩

/-! ### Calendar.day_of -/
def sp_Calendar_day_of (K : PySem.W.Frag) (T : Txt K mg base) : Sp := fun vs H Q E => ∃ (c p : Addr) (cal : Cal) (y m d : Int) (n : Nat), vs = [.ref c, .ref p] ∧ SAt K T.C_Sun T.C_Measure H c cal ∧ cal.Ok ∧ SqT K H p [.int y, .int m, .int d] ∧ Sm n y ∧ n ≤ 4700 ∧ NdefX.TabsN (NT T.ct_counter) H ∧
  (¬ GoodD cal y m d → TV (NT T.ct_counter) T.C_NoDate E H [("date", .ref p)]) ∧ (GoodD cal y m d → ∀ (H' : Hp), SameT (NT T.ct_counter) H H' → Q (.int (dayOf cal y m d)) H')
theorem ok_Calendar_day_of (T : Txt K mg base) : FnOk P w K mg base (L2.CX P w) 5 T.a_Calendar_day_of T.fd_Calendar_day_of ["self", "date"] (sp_Calendar_day_of K T) := by
  refine T.F_Calendar_day_of.okX sc_Calendar_day_of (fun vs H Q E h => ?_) (fun cdv A outer s H vs Q E hr h => ?_)
  · obtain ⟨_, _, _, _, _, _, _, rfl, _⟩ := h; rfl
  · obtain ⟨c, p, cal, y, m, d, n, rfl, hc, ok, hp, sy, hn, hT, q0, q⟩ := h
    have hu := hr.units
    refine ⟨_, (pss_cons (ps_asg (pv 1) (pg_tup rfl (pgs_cons (pg_name (i := 2) sc_Calendar_day_of.nd rfl (Or.inl rfl)) (pgs_cons (pg_name (i := 3) sc_Calendar_day_of.nd rfl (Or.inl rfl)) (pgs_cons (pg_name (i := 4) sc_Calendar_day_of.nd rfl (Or.inl rfl)) pgs_nil)))))
        (pss_cons (ps_set (i := 5) sc_Calendar_day_of.nd rfl (Or.inl rfl) (pe_meth (pv 0) T.cl_Sun T.me_Sun_lengths (ok_Sun_lengths T) (hr.mono (by decide)) T.b_Sun_lengths .nil pass0 (pa_cons (pv 2) pa_nil)))
        (pss_cons (ps_if (PW.pt (pw_or (pt_cmpR op_lt (pv 3) pe_int (nomark _)) (pw_or1 (pt_cmpR op_gt (pv 3) (pe_callB (kb_len K) (by rfl) T.n_len (by decide +kernel) (pa_cons (pv 5) pa_nil)) (nomark _))))) (pss_one (ps_raise rfl (takes_of rfl rfl rfl rfl) (pmk_oex T.ox_NoDate T.in_NoDate_init T.ti_NoDate_init (ok_NoDate_init T) (hr.mono (by decide)) T.b_NoDate_init .nil pass0 rfl T.gc_NoDate (pa_cons (pv 1) pa_nil)))) pss_nil)
        (pss_cons (ps_if (PW.pt (pw_or (pt_cmpR op_lt (pv 4) pe_int (nomark _)) (pw_or1 (pt_cmpR op_gt (pv 4) (pe_ix (kb_ix K) (pv 5) (pe_op op_sub (pv 3) pe_int) (fun _ _ => rfl)) (nomark _))))) (pss_one (ps_raise rfl (takes_of rfl rfl rfl rfl) (pmk_oex T.ox_NoDate T.in_NoDate_init T.ti_NoDate_init (ok_NoDate_init T) (hr.mono (by decide)) T.b_NoDate_init .nil pass0 rfl T.gc_NoDate (pa_cons (pv 1) pa_nil)))) pss_nil)
        (PSs.nox (pss_one (ps_ret (pe_op op_sub (pe_op op_addA (pe_op op_addA (pe_meth (pv 0) T.cl_Sun T.me_Sun_year_start (ok_Sun_year_start T) (hr.mono (by decide)) T.b_Sun_year_start .nil pass0 (pa_cons (pv 2) pa_nil)) (pe_callB (kb_sum K (hc := rfl)) (by rfl) T.n_sum (by decide +kernel) (pa_cons (pe_slice sl_list (pv 5) po_none (po_some (pe_op op_sub (pv 3) pe_int))) pa_nil))) (pv 4)) pe_int)))))))), ?_⟩
    walk_at "go"
    refine k_metS hc noF_lengths ?_
    walk_at "go"
    refine k_S_lengths hc ok sy hn hT fun pl H1 hn1 s1 t1 => ?_
    have hc1 := hc.mono s1
    have hT1 := s1.tab hT
    have hl : SqL K H1 pl ((cal.lens y).map V.int) := SqL.of t1
    walk_at "go"
    with_reducible apply k_seqI
    refine or_split (m < 1 ∨ ((cal.lens y).length : Int) < m) (fun hb => ?_) (fun hg => ?_) fun R' h1 h2 => ?_
    · walk_at "go"
      refine k_mkO ?_
      walk_at "go"
      exact k_mkTV1 ((q0 fun g => by have := g.m1; have := g.m2; omega).mono s1)
    · walk_at "go"
      with_reducible apply k_seqI
      refine or_split (d < 1 ∨ (cal.lens y).getD (m - 1).toNat 0 < d) (fun hb => ?_) (fun hg2 => ?_) fun R' h1 h2 => ?_
      · walk_at "go"
        refine k_mkO ?_
        walk_at "go"
        exact k_mkTV1 ((q0 fun g => by have := g.d1; have := g.d2; omega).mono s1)
      · have g : GoodD cal y m d := ⟨by omega, by omega, by omega, by omega⟩
        walk_at "go"
        refine k_metS hc1 noF_year_start ?_
        walk_at "go"
        refine k_S_year_start hc1 ok sy (by omega) hT1 fun H2 s2 => ?_
        have hl2 := s2.sql hl
        walk_at "go"
        rename_i ps H3 hn3 s3 t3
        rw [cutV_to_ints _ (by omega)] at t3
        refine k_sum (SqL.of t3) ?_
        walk_at "go"
        exact q g _ ((s1.trans s2).trans (.of s3))
      · walk_at "go"
        refine if_dec (fun h => h1 (.inl h)) (fun h => ?_)
        walk_at "go"
        refine k_ixL hl (atI_getD (by omega) (by omega)) ?_
        walk_at "go"
        exact dec_two (R := fun b => R' b H1) (fun h => h1 (.inr h)) (fun h => h2 (by omega))
    · walk_at "go"
      refine if_dec (fun h => h1 (.inl h)) (fun h => ?_)
      walk_at "go"
      rw [List.length_map]
      exact dec_two (R := fun b => R' b H1) (fun h => h1 (.inr h)) (fun h => h2 (by omega))
theorem k_Calendar_day_of {T : Txt K mg base} {H : Hp} {Q : VK} {E : XK} {c p : Addr} {cal : Cal} {y m d : Int} {n : Nat} (h : SAt K T.C_Sun T.C_Measure H c cal) (ok : cal.Ok) (hp : SqT K H p [.int y, .int m, .int d]) (sy : Sm n y) (hn : n ≤ 4700) (hT : NdefX.TabsN (NT T.ct_counter) H)
    (q0 : ¬ GoodD cal y m d → TV (NT T.ct_counter) T.C_NoDate E H [("date", .ref p)]) (q : GoodD cal y m d → ∀ (H' : Hp), SameT (NT T.ct_counter) H H' → Q (.int (dayOf cal y m d)) H') : sp_Calendar_day_of K T [.ref c, .ref p] H Q E := ⟨c, p, cal, y, m, d, n, rfl, h, ok, hp, sy, hn, hT, q0, q⟩

/-! ### Change.day_of -/
def sp_Change_day_of (K : PySem.W.Frag) (T : Txt K mg base) : Sp := fun vs H Q E => ∃ (a p : Addr) (d : D3), vs = [.ref a, .ref p] ∧ ChS K T H a ∧ SqT K H p (d3V d) ∧ Sm 4700 d.1 ∧ NdefX.TabsN (NT T.ct_counter) H ∧ DayQ (NT T.ct_counter) T.C_NoDate T.C_InGap p (chDay d) H Q E
theorem ok_Change_day_of (T : Txt K mg base) : FnOk P w K mg base (L2.CX P w) 6 T.a_Change_day_of T.fd_Change_day_of ["self", "date"] (sp_Change_day_of K T) := by
  refine T.F_Change_day_of.okX sc_Change_day_of (fun vs H Q E h => ?_) (fun cdv A outer s H vs Q E hr h => ?_)
  · obtain ⟨_, _, _, rfl, _⟩ := h; rfl
  · obtain ⟨a, p, dd, rfl, hc, hp, sy, hT, q⟩ := h
    have hu := hr.units
    obtain ⟨dx, po, pn, pl, pf, h1, h2, h3, h4, h5⟩ := id hc
    obtain ⟨g1, g2, g3, g4, g5⟩ := cfs_get po pn 578103 pl pf
    have hp3 : SqT K H p [.int dd.1, .int dd.2.1, .int dd.2.2] := hp
    unfold chDay at q
    refine ⟨_, (pss_cons (ps_if (pt_cmpR (kb_leT K (hu := hu)) (pv 1) (pe_fld (pv 0) rfl) (nomark _)) (pss_one (ps_ret (pe_methX (pe_fld (pv 0) rfl) T.cl_Sun T.me_Sun_day_of (ok_Calendar_day_of T) (hr.mono (by omega)) T.b_Calendar_day_of .nil (fun σ => passAt (takes_of rfl rfl rfl rfl) σ) (pa_cons (pv 1) pa_nil)))) pss_nil)
        (pss_cons (ps_if (pt_cmpR (kb_geT K (hu := hu)) (pv 1) (pe_fld (pv 0) rfl) (nomark _)) (pss_one (ps_ret (pe_methX (pe_fld (pv 0) rfl) T.cl_Sun T.me_Sun_day_of (ok_Calendar_day_of T) (hr.mono (by omega)) T.b_Calendar_day_of .nil (fun σ => passAt (takes_of rfl rfl rfl rfl) σ) (pa_cons (pv 1) pa_nil)))) pss_nil)
        (pss_one (ps_raise rfl (takes_of rfl rfl rfl rfl) (pmk_oex T.ox_InGap T.in_InGap_init T.ti_InGap_init (ok_InGap_init T) (hr.mono (by omega)) T.b_InGap_init .nil pass0 rfl T.gc_InGap (pa_cons (pv 1) (pa_cons (pe_fld (pv 0) rfl) pa_nil))))))), ?_⟩
    with_reducible apply k_seqI
    walk_at "go"
    refine k_fldX h1 T.cl_Change T.na_Change_last g4 ?_
    refine k_leT hp h2 ?_
    walk_at "go"
    refine if_ndec (fun hx => ?_) (fun hx => ?_)
    · rw [if_pos hx] at q
      walk_at "go"
      refine k_fldX h1 T.cl_Change T.na_Change_old g1 ?_
      walk_at "go"
      refine k_metS h4 noF_day_of ?_
      walk_at "go"
      refine k_Calendar_day_of h4 old_ok hp3 sy (by decide) hT (fun hg => ?_) (fun hg => ?_)
      · rw [if_neg hg] at q; exact q
      · rw [if_pos hg] at q; exact q
    rw [if_neg (fun z => z hx)] at q
    walk_at "go"
    with_reducible apply k_seqI
    walk_at "go"
    refine k_fldX h1 T.cl_Change T.na_Change_first g5 ?_
    refine k_geT hp h3 ?_
    walk_at "go"
    refine if_ndec (fun hx2 => ?_) (fun hx2 => ?_)
    · rw [if_pos hx2] at q
      walk_at "go"
      refine k_fldX h1 T.cl_Change T.na_Change_new g2 ?_
      walk_at "go"
      refine k_metS h5 noF_day_of ?_
      walk_at "go"
      refine k_Calendar_day_of h5 new_ok hp3 sy (by decide) hT (fun hg => ?_) (fun hg => ?_)
      · rw [if_neg hg] at q; exact q
      · rw [if_pos hg] at q; exact q
    · rw [if_neg (fun z => z hx2)] at q
      walk_at "go"
      refine k_nx ?_
      refine k_mkO ?_
      walk_at "go"
      refine k_fldX h1 T.cl_Change T.na_Change_day g3 ?_
      walk_at "go"
      exact k_mkTV2 q
theorem k_Change_day_of {T : Txt K mg base} {H : Hp} {Q : VK} {E : XK} {a p : Addr} {d : D3} (hc : ChS K T H a) (hp : SqT K H p (d3V d)) (sy : Sm 4700 d.1) (hT : NdefX.TabsN (NT T.ct_counter) H) (q : DayQ (NT T.ct_counter) T.C_NoDate T.C_InGap p (chDay d) H Q E) : sp_Change_day_of K T [.ref a, .ref p] H Q E := ⟨a, p, d, rfl, hc, hp, sy, hT, q⟩

/-! ### _law_told -/
def sp_Ltold (K : PySem.W.Frag) (T : Txt K mg base) : Sp := fun vs H Q _ => ∃ (a p : Addr) (d : D3), vs = [.ref a, .ref p] ∧ ChS K T H a ∧ SqT K H p (d3V d) ∧ Sm 4700 d.1 ∧ NdefX.TabsN (NT T.ct_counter) H ∧ ∀ (p' : Addr) (H' : Hp), SameT (NT T.ct_counter) H H' → SqT K H' p' (tolV p (chDay d)) → Q (.ref p') H'
theorem ok_Ltold (T : Txt K mg base) : FnOk P w K mg base CX0 7 T.a_Ltold T.fd_Ltold ["_law_change_here", "_law_date"] (sp_Ltold K T) := by
  refine T.F_Ltold.ok sc_Ltold (fun vs H Q E h => ?_) (fun cdv A outer s H vs Q E hr h => ?_)
  · obtain ⟨_, _, _, rfl, _⟩ := h; rfl
  · obtain ⟨a, p, d, rfl, hc, hp, sy, hT, q⟩ := h
    have hu := hr.units
    refine ⟨_, (pss_cons (ps_set (i := 2) sc_Ltold.nd rfl (Or.inl rfl) pe_non)
        (pss_cons (ps_try_asN rfl rfl takes0 (fun W pn xe tk _ => (pss_one (ps_set (i := 2) sc_Ltold.nd rfl (Or.inl rfl) (pe_tup (pa_cons pe_str (pa_cons (pe_methX (pv 0) T.cl_Change T.me_Change_day_of (ok_Change_day_of T) (hr.mono (by decide)) T.b_Change_day_of .nil (fun σ => passAt tk σ) (pa_cons (pv 1) pa_nil)) (pa_cons pe_int pa_nil))))))) (HasOk.cons (i := 3) sc_Ltold.nd rfl rfl ⟨rfl, by decide, .inl T.gc_InGap⟩ (fun a oe cls d pn hz hf => (pss_one (ps_set (i := 2) sc_Ltold.nd rfl (Or.inl rfl) (pe_tup (pa_cons pe_str (pa_cons (pe_xf T.xf_InGap T.no_InGap_date hz hf (pv 3)) (pa_cons (pe_xf T.xf_InGap T.no_InGap_day hz hf (pv 3)) pa_nil))))))) (HasOk.cons (i := 3) sc_Ltold.nd rfl rfl ⟨rfl, by decide, .inl T.gc_NoDate⟩ (fun a oe cls d pn hz hf => (pss_one (ps_set (i := 2) sc_Ltold.nd rfl (Or.inl rfl) (pe_tup (pa_cons pe_str (pa_cons (pe_xf T.xf_NoDate T.no_NoDate_date hz hf (pv 3)) (pa_cons pe_int pa_nil))))))) HasOk.nil)))
        (pss_one (ps_ret (pv 2))))), ?_⟩
    walk_at "go"
    with_reducible apply k_seq
    show tAsg _ _ _ _ _
    walk_at "go"
    obtain ⟨dx, po, pn, pl, pf, h1, _⟩ := id hc
    refine k_metX h1 (cfs_no _ _ _ _ _ (by decide +kernel) (by decide +kernel) (by decide +kernel) (by decide +kernel) (by decide +kernel)) ?_
    walk_at "go"
    refine k_Change_day_of hc hp sy hT ?_
    cases hr' : chDay d with
    | day x =>
      rw [hr'] at q
      intro H1 s1
      walk_at "go"
      rename_i p2 H2 hn2 s2 t2
      exact q p2 H2 (s1.trans (.of s2)) (SqT.of t2)
    | no =>
      rw [hr'] at q
      intro e H1 s1 t1
      refine ⟨false, exm_of T.bc_InGap T.ic_InGap T.tc_InGap T.sb_NoDate_InGap, fun q => Bool.noConfusion q, fun _ => ⟨true, exm_of T.bc_NoDate T.ic_NoDate T.tc_NoDate T.sc_NoDate, fun _ a0 _ => ?_, fun q => Bool.noConfusion q⟩⟩
      walk_at "go"
      refine k_xf ?_
      walk_at "go"
      refine ⟨rfl, rfl, e, _, _, rfl, t1, rfl, ?_⟩
      walk_at "go"
      rename_i p2 H2 hn2 s2 t2
      exact q p2 H2 (s1.trans (.of s2)) (SqT.of t2)
    | gap g =>
      rw [hr'] at q
      intro e H1 s1 t1
      refine ⟨true, exm_of T.bc_InGap T.ic_InGap T.tc_InGap T.sc_InGap, fun _ a0 _ => ?_, fun q => Bool.noConfusion q⟩
      walk_at "go"
      refine k_xf ?_
      walk_at "go"
      refine ⟨rfl, rfl, e, _, _, rfl, t1, rfl, ?_⟩
      walk_at "go"
      refine k_xf ?_
      walk_at "go"
      refine ⟨rfl, rfl, e, _, _, rfl, t1, rfl, ?_⟩
      walk_at "go"
      rename_i p2 H2 hn2 s2 t2
      exact q p2 H2 (s1.trans (.of s2)) (SqT.of t2)
theorem k_Ltold {T : Txt K mg base} {H : Hp} {Q : VK} {E : XK} {a p : Addr} {d : D3} (hc : ChS K T H a) (hp : SqT K H p (d3V d)) (sy : Sm 4700 d.1) (hT : NdefX.TabsN (NT T.ct_counter) H) (q : ∀ (p' : Addr) (H' : Hp), SameT (NT T.ct_counter) H H' → SqT K H' p' (tolV p (chDay d)) → Q (.ref p') H') : sp_Ltold K T [.ref a, .ref p] H Q E := ⟨a, p, d, rfl, hc, hp, sy, hT, q⟩

/-! ### _law_has -/
def sp_Lhas (K : PySem.W.Frag) : Sp := fun vs H Q _ => ∃ (p : Addr) (d : D3) (e : Bool), vs = [.ref p, .bl e] ∧ SqT K H p (d3V d) ∧ ∀ (b : Bool) (H' : Hp), Same H H' → (b = true ↔ GoodD (CalE e) d.1 d.2.1 d.2.2) → Q (.bl b) H'
theorem ok_Lhas (T : Txt K mg base) : FnOk P w K mg base CX0 2 T.a_Lhas T.fd_Lhas ["_law_date", "_law_elder"] (sp_Lhas K) := by
  refine T.F_Lhas.ok sc_Lhas (fun vs H Q E h => ?_) (fun cdv A outer s H vs Q E hr h => ?_)
  · obtain ⟨_, _, _, rfl, _⟩ := h; rfl
  · obtain ⟨p, ⟨y, m, d⟩, e, rfl, hp, q⟩ := h
    have hu := hr.units
    have hp3 : SqT K H p [.int y, .int m, .int d] := hp
    have l12 := lens_12 e y
    refine ⟨_, (pss_cons (ps_if (PW.pt (pw_or (pt_cmpR op_lt (pe_ix (kb_ix K) (pv 0) pe_int (fun _ _ => rfl)) pe_int (nomark _)) (pw_or1 (pt_cmpR op_gt (pe_ix (kb_ix K) (pv 0) pe_int (fun _ _ => rfl)) pe_int (nomark _))))) (pss_one (ps_ret pe_bl)) pss_nil)
        (pss_one (ps_ret (pe_chain op_le op_le pe_int (pe_ix (kb_ix K) (pv 0) pe_int (fun _ _ => rfl)) (pe_ix (kb_ix K) (pe_call (ok_Llengths T) (hr.mono (by decide)) (by rfl) T.g_Llengths T.F_Llengths.kp T.b_Llengths .nil pass0 (pa_cons (pe_ix (kb_ix K) (pv 0) pe_int (fun _ _ => rfl)) (pa_cons (pv 1) pa_nil))) (pe_op op_sub (pe_ix (kb_ix K) (pv 0) pe_int (fun _ _ => rfl)) pe_int) (fun _ _ => rfl)))))), ?_⟩
    walk_at "go"
    with_reducible apply k_seqI
    refine or_split (m < 1 ∨ 12 < m) (fun h => ?_) (fun h => ?_) fun R' h1 h2 => ?_
    · walk_at "go"
      exact q false _ (.refl _) ⟨fun z => (by cases z), fun g => by have := g.m1; have := g.m2; simp only at *; omega⟩
    rotate_left
    · walk_at "go"
      refine if_dec (fun a => h1 (.inl a)) (fun a => ?_)
      walk_at "go"
      exact dec_two (R := fun c => R' c H) (fun c => h1 (.inr c)) (fun c => h2 (by omega))
    walk_at "go"
    by_cases hd : 1 ≤ d
    · rw [decide_eq_true hd]
      walk_at "go"
      refine k_Llengths fun pl H1 s1 t1 => ?_
      have hp31 := same_t s1 hp3
      walk_at "go"
      refine k_ixL (SqL.of t1) (atI_getD (ls := (CalE e).lens y) (i := m - 1) (by omega) (by omega)) ?_
      walk_at "go"
      refine q _ _ s1 ?_
      rw [decide_eq_true_iff]
      exact ⟨fun z => ⟨by show 1 ≤ m; omega, by show m ≤ (((CalE e).lens y).length : Int); omega, hd, z⟩, fun g => g.d2⟩
    · rw [decide_eq_false hd]
      walk_at "go"
      exact q false _ (.refl _) ⟨fun z => (by cases z), fun g => absurd g.d1 hd⟩
theorem k_Lhas {K : PySem.W.Frag} {H : Hp} {Q : VK} {E : XK} {p : Addr} {d : D3} {e : Bool} (hp : SqT K H p (d3V d)) (q : ∀ (b : Bool) (H' : Hp), Same H H' → (b = true ↔ GoodD (CalE e) d.1 d.2.1 d.2.2) → Q (.bl b) H') : sp_Lhas K [.ref p, .bl e] H Q E := ⟨p, d, e, rfl, hp, q⟩

/-! ### _law_whole -/
def sp_Lwhole (K : PySem.W.Frag) : Sp := fun vs H Q _ => ∃ i, vs = [.int i] ∧ Q (.bl true) H
theorem ok_Lwhole (T : Txt K mg base) : FnOk P w K mg base CX0 1 T.a_Lwhole T.fd_Lwhole ["_law_found"] (sp_Lwhole K) := by
  refine T.F_Lwhole.ok sc_Lwhole (fun vs H Q E h => ?_) (fun cdv A outer s H vs Q E hr h => ?_)
  · obtain ⟨_, rfl, _⟩ := h; rfl
  · obtain ⟨i, rfl, q⟩ := h
    refine ⟨_, (pss_one (ps_ret (pe_and (pe_callB (kb_isi K) (by rfl) T.n_isinstance (by decide +kernel) (pa_cons (pv 0) (pa_cons (pe_bltn (v := .ty "int") (by rfl) T.n_int (by decide +kernel) rfl) pa_nil))) (pe_one (pe_not (pe_callB (kb_isi K) (by rfl) T.n_isinstance (by decide +kernel) (pa_cons (pv 0) (pa_cons (pe_bltn (v := .ty "bool") (by rfl) T.n_bool (by decide +kernel) rfl) pa_nil)))))))), ?_⟩
    walk_at "go"
    exact q
theorem k_whole {H : Hp} {Q : VK} {E : XK} {i : Int} (q : Q (.bl true) H) : sp_Lwhole K [.int i] H Q E := ⟨i, rfl, q⟩
local macro_rules | `(tactic| walk_at "st") => `(tactic| first | (with_reducible apply k_whole) | fail)

/-! ### _law_due -/
def sp_Ldue (K : PySem.W.Frag) : Sp := fun vs H Q _ => ∃ (p : Addr) (d : D3), vs = [.ref p] ∧ SqT K H p (d3V d) ∧ Sm 4700 d.1 ∧ ∀ (p' : Addr) (H' : Hp), Same H H' → H' p' = some (.tup (tolV p (chDay d))) → Q (.ref p') H'
theorem ok_Ldue (T : Txt K mg base) : FnOk P w K mg base CX0 3 T.a_Ldue T.fd_Ldue ["_law_date"] (sp_Ldue K) := by
  refine T.F_Ldue.ok sc_Ldue (fun vs H Q E h => ?_) (fun cdv A outer s H vs Q E hr h => ?_)
  · obtain ⟨_, _, rfl, _⟩ := h; rfl
  · obtain ⟨p, d, rfl, hp, sy, q⟩ := h
    have hu := hr.units
    unfold chDay at q
    refine ⟨_, (pss_cons (ps_if (PW.pt (pw_and (pt_cmpR (kb_leT K (hu := hu)) (pv 0) (pe_tup (pa_cons pe_int (pa_cons pe_int (pa_cons pe_int pa_nil)))) (nomark _)) (pw_and1 (pt_val (pe_call (ok_Lhas T) (hr.mono (by decide)) (by rfl) T.g_Lhas T.F_Lhas.kp T.b_Lhas .nil pass0 (pa_cons (pv 0) (pa_cons pe_bl pa_nil))))))) (pss_one (ps_ret (pe_tup (pa_cons pe_str (pa_cons (pe_call (ok_Lsum T) (hr.mono (by decide)) (by rfl) T.g_Lsum T.F_Lsum.kp T.b_Lsum .nil pass0 (pa_cons (pv 0) (pa_cons pe_bl pa_nil))) (pa_cons pe_int pa_nil)))))) pss_nil)
        (pss_cons (ps_if (PW.pt (pw_and (pt_cmpR (kb_geT K (hu := hu)) (pv 0) (pe_tup (pa_cons pe_int (pa_cons pe_int (pa_cons pe_int pa_nil)))) (nomark _)) (pw_and1 (pt_val (pe_call (ok_Lhas T) (hr.mono (by decide)) (by rfl) T.g_Lhas T.F_Lhas.kp T.b_Lhas .nil pass0 (pa_cons (pv 0) (pa_cons pe_bl pa_nil))))))) (pss_one (ps_ret (pe_tup (pa_cons pe_str (pa_cons (pe_call (ok_Lsum T) (hr.mono (by decide)) (by rfl) T.g_Lsum T.F_Lsum.kp T.b_Lsum .nil pass0 (pa_cons (pv 0) (pa_cons pe_bl pa_nil))) (pa_cons pe_int pa_nil)))))) pss_nil)
        (pss_cons (ps_if (pt_chain (kb_ltT K (hu := hu)) (kb_ltT K (hu := hu)) (pe_tup (pa_cons pe_int (pa_cons pe_int (pa_cons pe_int pa_nil)))) (pv 0) (pe_tup (pa_cons pe_int (pa_cons pe_int (pa_cons pe_int pa_nil))))) (pss_one (ps_ret (pe_tup (pa_cons pe_str (pa_cons (pv 0) (pa_cons pe_int pa_nil)))))) pss_nil)
        (pss_one (ps_ret (pe_tup (pa_cons pe_str (pa_cons (pv 0) (pa_cons pe_int pa_nil))))))))), ?_⟩
    with_reducible apply k_seqI
    refine and_splitS (¬ lt3 DLast d ∧ GoodD CalO d.1 d.2.1 d.2.2) (fun H' => Same H H') (fun H1 s1 h => ?_) (fun H1 s1 hA => ?_) fun R' h1 h2 => ?_
    · rw [if_pos h.1, if_pos h.2] at q
      have hp1 := same_t s1 hp
      walk_at "go"
      refine k_Lsum (e := true) hp1 h.2.m1 sy fun H2 s2 => ?_
      walk_at "go"
      rename_i p3 H3 hn3 s3 t3
      exact q p3 H3 ((s1.trans s2).trans s3) t3
    rotate_left
    · walk_at "go"
      rename_i p1 H1 hn1 s1 t1
      refine k_leT (same_t s1 hp) (SqT.of (show H1 p1 = some (.tup (d3V DLast)) from t1)) ?_
      walk_at "go"
      refine if_ndec (fun hl => ?_) (fun hl => ?_)
      · walk_at "go"
        refine k_Lhas (same_t s1 hp) fun b H2 s2 hb => ?_
        walk_at "go"
        cases b with
        | true => exact h1 _ (s1.trans s2) ⟨hl, hb.mp rfl⟩
        | false => exact h2 _ (s1.trans s2) (fun z => by cases hb.mpr z.2)
      · walk_at "go"
        exact h2 _ s1 (fun z => z.1 hl)
    have hp1 := same_t s1 hp
    walk_at "go"
    with_reducible apply k_seqI
    refine and_splitS (¬ lt3 d DFirst ∧ GoodD CalN d.1 d.2.1 d.2.2) (fun H' => Same H1 H') (fun H2 s2 h => ?_) (fun H2 s2 hB => ?_) fun R' h1 h2 => ?_
    · have hl : ¬ ¬ lt3 DLast d := fun z => by
        have h1 : lt3 DLast DFirst := by unfold lt3 DLast DFirst; decide
        exact z (lt3_ge' h1 h.1)
      rw [if_neg hl, if_pos h.1, if_pos h.2] at q
      have hp2 := same_t s2 hp1
      walk_at "go"
      refine k_Lsum (e := false) hp2 h.2.m1 sy fun H3 s3 => ?_
      walk_at "go"
      rename_i p4 H4 hn4 s4 t4
      exact q p4 H4 (((s1.trans s2).trans s3).trans s4) t4
    rotate_left
    · walk_at "go"
      rename_i p2 H2 hn2 s2 t2
      refine k_geT (same_t s2 hp1) (SqT.of (show H2 p2 = some (.tup (d3V DFirst)) from t2)) ?_
      walk_at "go"
      refine if_ndec (fun hl => ?_) (fun hl => ?_)
      · walk_at "go"
        refine k_Lhas (same_t s2 hp1) fun b H3 s3 hb => ?_
        walk_at "go"
        cases b with
        | true => exact h1 _ (s2.trans s3) ⟨hl, hb.mp rfl⟩
        | false => exact h2 _ (s2.trans s3) (fun z => by cases hb.mpr z.2)
      · walk_at "go"
        exact h2 _ s2 (fun z => z.1 hl)
    have hp2 := same_t s2 hp1
    have s02 := s1.trans s2
    walk_at "go"
    with_reducible apply k_seqI
    walk_at "go"
    rename_i p3 H3 hn3 s3 t3
    have hp3 := same_t s3 hp2
    refine k_ltT (SqT.of (show H3 p3 = some (.tup (d3V DLast)) from t3)) hp3 ?_
    walk_at "go"
    have h0 : lt3 DLast DFirst := by unfold lt3 DLast DFirst; decide
    by_cases hl : lt3 DLast d
    · rw [decide_eq_true hl]
      walk_at "go"
      rename_i p4 H4 hn4 s4 t4
      have hp4 := same_t s4 hp3
      refine k_ltT hp4 (SqT.of (show H4 p4 = some (.tup (d3V DFirst)) from t4)) ?_
      walk_at "go"
      refine if_dec (fun hf => ?_) (fun hf => ?_)
      · rw [if_neg (fun z => z hl), if_neg (fun z => z hf)] at q
        walk_at "go"
        rename_i p5 H5 hn5 s5 t5
        exact q p5 H5 (((s02.trans s3).trans s4).trans s5) t5
      · rw [if_neg (fun z => z hl), if_pos hf, if_neg (fun z => hB ⟨hf, z⟩)] at q
        walk_at "go"
        rename_i p5 H5 hn5 s5 t5
        exact q p5 H5 (((s02.trans s3).trans s4).trans s5) t5
    · rw [decide_eq_false hl]
      rw [if_pos hl, if_neg (fun z => hA ⟨hl, z⟩)] at q
      walk_at "go"
      rename_i p5 H5 hn5 s5 t5
      exact q p5 H5 ((s02.trans s3).trans s5) t5
theorem k_Ldue {K : PySem.W.Frag} {H : Hp} {Q : VK} {E : XK} {p : Addr} {d : D3} (hp : SqT K H p (d3V d)) (sy : Sm 4700 d.1) (q : ∀ (p' : Addr) (H' : Hp), Same H H' → H' p' = some (.tup (tolV p (chDay d))) → Q (.ref p') H') : sp_Ldue K [.ref p] H Q E := ⟨p, d, rfl, hp, sy, q⟩

/-! ### law -/
def sp_law (K : PySem.W.Frag) (ct : Addr) : Sp := fun vs H Q _ => ∃ (a : Addr) (ns : List Int), vs = [.ref a] ∧ SqL K H a (ns.map V.int) ∧ ns.length ≤ 63 ∧ (∀ z ∈ ns, Builtin.Int.intBits z ≤ 1048576) ∧ NdefX.TabsN (NT ct) H ∧ ∀ H', Q (.bl true) H'
set_option pp.maxSteps 400 in
theorem ok_law (T : Txt K mg base) : FnOk P w K mg base CX0 10 T.a_law T.fd_law ["_law_script"] (sp_law K T.ct_counter) := by
  refine T.F_law.ok sc_law (fun vs H Q E h => ?_) (fun cdv A outer s H vs Q E hr h => ?_)
  · obtain ⟨_, _, rfl, _⟩ := h; rfl
  · obtain ⟨a, ns, rfl, hS, hl, hb, hT, q⟩ := h
    have hu := hr.units
    refine ⟨_, (pss_cons (ps_set (i := 1) sc_law.nd rfl (Or.inl rfl) (pe_call0 (ok_Lchange T) (hr.mono (by decide)) (by rfl) T.g_Lchange T.F_Lchange.kp T.b_Lchange .nil pass0))
        (pss_cons (ps_set (i := 2) sc_law.nd rfl (Or.inl rfl) (pe_call (ok_Lday T) (hr.mono (by decide)) (by rfl) T.g_Lday T.F_Lday.kp T.b_Lday .nil pass0 (pa_cons (pv 0) pa_nil)))
        (pss_cons (ps_set (i := 3) sc_law.nd rfl (Or.inl rfl) (pe_meth (pv 1) T.cl_Change T.me_Change_date_of (ok_Change_date_of T) (hr.mono (by decide)) T.b_Change_date_of .nil pass0 (pa_cons (pv 2) pa_nil)))
        (pss_cons (ps_if (PW.pt (pw_or (pt_not (pt_val (pe_callB (kb_isi K) (by rfl) T.n_isinstance (by decide +kernel) (pa_cons (pv 3) (pa_cons (pe_bltn (v := .ty "tuple") (by rfl) T.n_tuple (by decide +kernel) rfl) pa_nil))))) (pw_or (pt_cmpR (kb_ne K (hu := hu)) (pe_callB (kb_len K) (by rfl) T.n_len (by decide +kernel) (pa_cons (pv 3) pa_nil)) pe_int (nomark _)) (pw_or1 (pt_not (pt_val (pe_callB (kb_all K (hc := rfl)) (by rfl) T.n_all (by decide +kernel) (pa_cons (pe_lc (own := [("_law_part", 6)]) (g := gName 6) (tt := tYes) rfl sc_law.nd (pi_tup (pv 3)) (blkOk_by (N := ["_law_script", "_law_change_here", "_law_day_here", "_law_date", "_law_elder", "_law_found", "_law_part"]) (sc := defScope s_law) (by decide +kernel)) (fun _ _ _ _ _ => pg_name (i := 6) sc_law.nd rfl (Or.inl rfl)) (fun _ _ _ _ _ => pts_nil) (fun _ _ _ _ _ => (pe_call (ok_Lwhole T) (hr.mono (by decide)) (by rfl) T.g_Lwhole T.F_Lwhole.kp T.b_Lwhole .nil pass0 (pa_cons (pv 6) pa_nil)))) pa_nil)))))))) (pss_one (ps_ret pe_bl)) pss_nil)
        (pss_cons (ps_set (i := 4) sc_law.nd rfl (Or.inl rfl) (pe_cmpR op_lt (pv 2) pe_int (nomark _)))
        (pss_cons (ps_if (PW.pt (pw_or (pt_not (pt_val (pe_call (ok_Lhas T) (hr.mono (by decide)) (by rfl) T.g_Lhas T.F_Lhas.kp T.b_Lhas .nil pass0 (pa_cons (pv 3) (pa_cons (pv 4) pa_nil))))) (pw_or (pt_cmpR (kb_ne K (hu := hu)) (pe_call (ok_Lsum T) (hr.mono (by decide)) (by rfl) T.g_Lsum T.F_Lsum.kp T.b_Lsum .nil pass0 (pa_cons (pv 3) (pa_cons (pv 4) pa_nil))) (pv 2) (nomark _)) (pw_or1 (pt_cmpR (kb_ne K (hu := hu)) (pe_methX (pv 1) T.cl_Change T.me_Change_day_of (ok_Change_day_of T) (hr.mono (by decide)) T.b_Change_day_of .nil (fun σ => passAt takes0 σ) (pa_cons (pv 3) pa_nil)) (pv 2) (nomark _)))))) (pss_one (ps_ret pe_bl)) pss_nil)
        (pss_cons (ps_set (i := 3) sc_law.nd rfl (Or.inl rfl) (pe_call (ok_Lturned T) (hr.mono (by decide)) (by rfl) T.g_Lturned T.F_Lturned.kp T.b_Lturned .nil pass0 (pa_cons (pv 3) (pa_cons (pe_call (ok_Lcell_at T) (hr.mono (by decide)) (by rfl) T.g_Lcell_at T.F_Lcell_at.kp T.b_Lcell_at .nil pass0 (pa_cons (pv 0) (pa_cons pe_int pa_nil))) (pa_cons (pe_call (ok_Lnumber T) (hr.mono (by decide)) (by rfl) T.g_Lnumber T.F_Lnumber.kp T.b_Lnumber .nil pass0 (pa_cons (pe_call (ok_Lcell_at T) (hr.mono (by decide)) (by rfl) T.g_Lcell_at T.F_Lcell_at.kp T.b_Lcell_at .nil pass0 (pa_cons (pv 0) (pa_cons pe_int pa_nil))) pa_nil)) pa_nil)))))
        (pss_cons (ps_set (i := 5) sc_law.nd rfl (Or.inl rfl) (pe_call (ok_Ltold T) (hr.mono (by decide)) (by rfl) T.g_Ltold T.F_Ltold.kp T.b_Ltold .nil pass0 (pa_cons (pv 1) (pa_cons (pv 3) pa_nil))))
        (pss_cons (ps_if (PW.pt (pw_and (pt_cmpR (kb_eq K (hu := hu)) (pe_ix (kb_ix K) (pv 5) pe_int (fun _ _ => rfl)) pe_str (nomark _)) (pw_and1 (pt_not (pt_val (pe_call (ok_Lwhole T) (hr.mono (by decide)) (by rfl) T.g_Lwhole T.F_Lwhole.kp T.b_Lwhole .nil pass0 (pa_cons (pe_ix (kb_ix K) (pv 5) pe_int (fun _ _ => rfl)) pa_nil))))))) (pss_one (ps_ret pe_bl)) pss_nil)
        (pss_one (ps_ret (pe_and (pe_cmpR (kb_eq K (hu := hu)) (pv 5) (pe_call (ok_Ldue T) (hr.mono (by decide)) (by rfl) T.g_Ldue T.F_Ldue.kp T.b_Ldue .nil pass0 (pa_cons (pv 3) pa_nil)) (nomark _)) (pe_one (pe_cmpR (kb_eq K (hu := hu)) (pe_call (ok_Ltold T) (hr.mono (by decide)) (by rfl) T.g_Ltold T.F_Ltold.kp T.b_Ltold .nil pass0 (pa_cons (pv 1) (pa_cons (pv 3) pa_nil))) (pv 5) (nomark _))))))))))))))), ?_⟩
    walk_at "go"
    refine k_Lchange hT fun xc H1 s1 hc1 => ?_
    have hS1 := s1.sql hS
    have hT1 := s1.tab hT
    walk_at "go"
    refine k_Lday hS1 hb fun x H2 s2 sx => ?_
    have hS2 := same_l s2 hS1
    have hT2 := hT1.ext s2
    have hc2 := hc1.mono (.of s2)
    obtain ⟨dx, po, pn, pl, pf, hi2, _⟩ := id hc2
    walk_at "go"
    refine k_metX hi2 (cfs_no _ _ _ _ _ (by decide +kernel) (by decide +kernel) (by decide +kernel) (by decide +kernel) (by decide +kernel)) ?_
    walk_at "go"
    refine k_Change_date_of hc2 sx hT2 fun pd H3 d s3 t3 hd sd => ?_
    have hS3 := s3.sql hS2
    have hT3 := s3.tab hT2
    have hc3 := hc2.mono s3
    obtain ⟨hday, hdi⟩ := chD_day hd
    have hp3 : SqT K H3 pd [.int d.1, .int d.2.1, .int d.2.2] := SqT.of t3
    walk_at "run"
    refine k_lct hp3 (([true, true, true] : List Bool).map V.bl) rfl (by show 3 ≤ 1000000; decide) (fun i y v Hx R hy hv s4 hR => ?_) (fun D H4 hD s4 tD => ?_)
    · have : i < 3 := (List.getElem?_eq_some_iff.mp hy).1
      have e : ∃ z : Int, y = .int z ∧ v = .bl true := by
        match i, this with
        | 0, _ => cases hy; cases hv; exact ⟨_, rfl, rfl⟩
        | 1, _ => cases hy; cases hv; exact ⟨_, rfl, rfl⟩
        | 2, _ => cases hy; cases hv; exact ⟨_, rfl, rfl⟩
      obtain ⟨z, rfl, rfl⟩ := e
      walk_at "go"
      exact hR _ (Same.refl _)
    have hS4 := same_l s4 hS3
    have hT4 := hT3.ext s4
    have hc4 := hc3.mono (.of s4)
    have hp4 : SqT K H4 pd (d3V d) := same_t s4 hp3
    walk_at "go"
    refine k_all (l := [true, true, true]) (SqL.of tD) ?_
    rw [show ([true, true, true] : List Bool).all id = true from rfl]
    walk_at "run"
    refine k_Lhas hp4 fun b H5 s5 hb2 => ?_
    obtain rfl : b = true := hb2.mpr hdi.good
    walk_at "run"
    refine k_Lsum (same_t s5 hp4) hdi.m1 (sm_mono sd (by decide)) fun H6 s6 => ?_
    rw [← hdi.e]
    have s46 := s5.trans s6
    have hc6 := hc4.mono (.of s46)
    have hT6 := hT4.ext s46
    have hp6 := same_t s46 hp4
    have hS6 := same_l s46 hS4
    obtain ⟨dx6, po6, pn6, pl6, pf6, hi6, _⟩ := id hc6
    walk_at "go"
    rw [decide_eq_true (rfl : x = x)]
    walk_at "run"
    refine k_metX hi6 (cfs_no _ _ _ _ _ (by decide +kernel) (by decide +kernel) (by decide +kernel) (by decide +kernel) (by decide +kernel)) ?_
    walk_at "go"
    refine k_Change_day_of hc6 hp6 (sm_mono sd (by decide)) hT6 ?_
    rw [hday]
    intro H7 s7
    have hc7 := hc6.mono s7
    have hT7 := s7.tab hT6
    have hp7 := s7.sqt hp6
    have hS7 := s7.sql hS6
    walk_at "go"
    rw [decide_eq_true (rfl : x = x)]
    walk_at "run"
    rename_i c2 _ sc2 c3 _ sc3
    refine k_Lnumber fun f H8 s8 f0 f1 => ?_
    walk_at "go"
    refine k_Lturned (same_t s8 hp7) sd (sm_mono (sm41 (by omega) (by omega)) (by decide)) fun pe H9 d9 s9 t9 sd9 => ?_
    have s79 := s8.trans s9
    have hc9 := hc7.mono (.of s79)
    have hT9 := hT7.ext s79
    have hp9 : SqT K H9 pe (d3V d9) := SqT.of t9
    have sd9' : Sm 4700 d9.1 := sm_mono sd9 (by decide)
    walk_at "go"
    refine k_Ltold hc9 hp9 sd9' hT9 fun pf10 H10 s10 t10 => ?_
    have hc10 := hc9.mono s10
    have hT10 := s10.tab hT9
    have hp10 := s10.sqt hp9
    walk_at "go"
    with_reducible apply k_seqI
    refine and_split False (fun h => h.elim) (fun _ => ?_) fun R' _ h2 => ?_
    rotate_left
    · cases hr9 : chDay d9 with
      | day x9 =>
        rw [hr9] at t10
        have t11 : SqT K H10 pf10 [.str "day", .int x9, .int 0] := t10
        walk_at "run"
        exact h2 (fun z => z)
      | no =>
        rw [hr9] at t10
        have t11 : SqT K H10 pf10 [.str "none", .ref pe, .int 0] := t10
        walk_at "run"
        exact h2 (fun z => z)
      | gap g =>
        rw [hr9] at t10
        have t11 : SqT K H10 pf10 [.str "gap", .ref pe, .int g] := t10
        walk_at "run"
        exact h2 (fun z => z)
    walk_at "go"
    refine k_Ldue hp10 sd9' fun p11 H11 s11 t11 => ?_
    have hc11 := hc10.mono (.of s11)
    have hT11 := hT10.ext s11
    have hp11 := same_t s11 hp10
    have u10 := same_t s11 t10
    walk_at "go"
    refine k_eqSame (tolV_dp u10 hp11) (tolV_dp (SqT.of t11) hp11) (tolV_sh _ _) ?_
    walk_at "go"
    refine k_Ltold hc11 hp11 sd9' hT11 fun p12 H12 s12 t12 => ?_
    walk_at "go"
    refine k_eqSame (tolV_dp t12 (s12.sqt hp11)) (tolV_dp (s12.sqt u10) (s12.sqt hp11)) (tolV_sh _ _) ?_
    walk_at "go"
    exact q _

end
theorem all_mk {l : PySem.W.OpenLaw} {w : World} {K : PySem.W.Frag} {h : Heap} {mg : Str → Option Value} {fa : Addr} (X : K.In h) (G : h.Ns mainGlobals mg) (hfa : mg "law" = some (.ref fa))
    {f_sized : Addr} {od_sized an_sized : Option Addr} {sl_sized : Array (Option Value)} {oc_sized kV_sized dc_sized pm_sized cd_sized ct_sized : Value}
    {f_divisor : Addr} {od_divisor an_divisor : Option Addr} {sl_divisor : Array (Option Value)} {oc_divisor kV_divisor dc_divisor pm_divisor cd_divisor ct_divisor : Value}
    {f_common : Addr} {od_common an_common : Option Addr} {sl_common : Array (Option Value)} {oc_common kV_common dc_common pm_common cd_common ct_common : Value}
    {f_Measure_period : Addr} {od_Measure_period an_Measure_period : Option Addr} {sl_Measure_period : Array (Option Value)} {oc_Measure_period kV_Measure_period dc_Measure_period pm_Measure_period cd_Measure_period ct_Measure_period : Value}
    {cc_counter tP_counter : Addr}
    {f_counter : Addr} {od_counter an_counter : Option Addr} {sl_counter : Array (Option Value)} {oc_counter kV_counter dc_counter pm_counter ct_counter : Value}
    {f_Measure_upto : Addr} {od_Measure_upto an_Measure_upto : Option Addr} {sl_Measure_upto : Array (Option Value)} {oc_Measure_upto kV_Measure_upto dc_Measure_upto pm_Measure_upto cd_Measure_upto ct_Measure_upto : Value}
    {f_Measure_seek : Addr} {od_Measure_seek an_Measure_seek : Option Addr} {sl_Measure_seek : Array (Option Value)} {oc_Measure_seek kV_Measure_seek dc_Measure_seek pm_Measure_seek cd_Measure_seek ct_Measure_seek : Value}
    {f_Sun_year_at : Addr} {od_Sun_year_at an_Sun_year_at : Option Addr} {sl_Sun_year_at : Array (Option Value)} {oc_Sun_year_at kV_Sun_year_at dc_Sun_year_at pm_Sun_year_at cd_Sun_year_at ct_Sun_year_at : Value}
    {f_term_on : Addr} {od_term_on an_term_on : Option Addr} {sl_term_on : Array (Option Value)} {oc_term_on kV_term_on dc_term_on pm_term_on cd_term_on ct_term_on : Value}
    {f_Measure_at : Addr} {od_Measure_at an_Measure_at : Option Addr} {sl_Measure_at : Array (Option Value)} {oc_Measure_at kV_Measure_at dc_Measure_at pm_Measure_at cd_Measure_at ct_Measure_at : Value}
    {f_Sun_lengths : Addr} {od_Sun_lengths an_Sun_lengths : Option Addr} {sl_Sun_lengths : Array (Option Value)} {oc_Sun_lengths kV_Sun_lengths dc_Sun_lengths pm_Sun_lengths cd_Sun_lengths ct_Sun_lengths : Value}
    {f_Sun_year_start : Addr} {od_Sun_year_start an_Sun_year_start : Option Addr} {sl_Sun_year_start : Array (Option Value)} {oc_Sun_year_start kV_Sun_year_start dc_Sun_year_start pm_Sun_year_start cd_Sun_year_start ct_Sun_year_start : Value}
    {f_Calendar_date_of : Addr} {od_Calendar_date_of an_Calendar_date_of : Option Addr} {sl_Calendar_date_of : Array (Option Value)} {oc_Calendar_date_of kV_Calendar_date_of dc_Calendar_date_of pm_Calendar_date_of cd_Calendar_date_of ct_Calendar_date_of : Value}
    {f_Change_date_of : Addr} {od_Change_date_of an_Change_date_of : Option Addr} {sl_Change_date_of : Array (Option Value)} {oc_Change_date_of kV_Change_date_of dc_Change_date_of pm_Change_date_of cd_Change_date_of ct_Change_date_of : Value}
    {f_list_of : Addr} {od_list_of an_list_of : Option Addr} {sl_list_of : Array (Option Value)} {oc_list_of kV_list_of dc_list_of pm_list_of cd_list_of ct_list_of : Value}
    {f_many_fall : Addr} {od_many_fall an_many_fall : Option Addr} {sl_many_fall : Array (Option Value)} {oc_many_fall kV_many_fall dc_many_fall pm_many_fall cd_many_fall ct_many_fall : Value}
    {f_is_term : Addr} {od_is_term an_is_term : Option Addr} {sl_is_term : Array (Option Value)} {oc_is_term kV_is_term dc_is_term pm_is_term cd_is_term ct_is_term : Value}
    {f_is_measure : Addr} {od_is_measure an_is_measure : Option Addr} {sl_is_measure : Array (Option Value)} {oc_is_measure kV_is_measure dc_is_measure pm_is_measure cd_is_measure ct_is_measure : Value}
    {dT_Measure_init : Addr} {dO_Measure_init : Obj} {dI_Measure_init : List Value} {dN_Measure_init : Nat}
    {f_Measure_init : Addr} {od_Measure_init an_Measure_init : Option Addr} {sl_Measure_init : Array (Option Value)} {oc_Measure_init kV_Measure_init dc_Measure_init pm_Measure_init cd_Measure_init ct_Measure_init : Value}
    {f_are_months : Addr} {od_are_months an_are_months : Option Addr} {sl_are_months : Array (Option Value)} {oc_are_months kV_are_months dc_are_months pm_are_months cd_are_months ct_are_months : Value}
    {dT_Sun_init : Addr} {dO_Sun_init : Obj} {dI_Sun_init : List Value} {dN_Sun_init : Nat}
    {f_Sun_init : Addr} {od_Sun_init an_Sun_init : Option Addr} {sl_Sun_init : Array (Option Value)} {oc_Sun_init kV_Sun_init dc_Sun_init pm_Sun_init cd_Sun_init ct_Sun_init : Value}
    {f_Change_init : Addr} {od_Change_init an_Change_init : Option Addr} {sl_Change_init : Array (Option Value)} {oc_Change_init kV_Change_init dc_Change_init pm_Change_init cd_Change_init ct_Change_init : Value}
    {f_Lchange : Addr} {od_Lchange an_Lchange : Option Addr} {sl_Lchange : Array (Option Value)} {oc_Lchange kV_Lchange dc_Lchange pm_Lchange cd_Lchange ct_Lchange : Value}
    {f_Lcell_at : Addr} {od_Lcell_at an_Lcell_at : Option Addr} {sl_Lcell_at : Array (Option Value)} {oc_Lcell_at kV_Lcell_at dc_Lcell_at pm_Lcell_at cd_Lcell_at ct_Lcell_at : Value}
    {f_Lnumber : Addr} {od_Lnumber an_Lnumber : Option Addr} {sl_Lnumber : Array (Option Value)} {oc_Lnumber kV_Lnumber dc_Lnumber pm_Lnumber cd_Lnumber ct_Lnumber : Value}
    {f_Llengths : Addr} {od_Llengths an_Llengths : Option Addr} {sl_Llengths : Array (Option Value)} {oc_Llengths kV_Llengths dc_Llengths pm_Llengths cd_Llengths ct_Llengths : Value}
    {f_Lsum : Addr} {od_Lsum an_Lsum : Option Addr} {sl_Lsum : Array (Option Value)} {oc_Lsum kV_Lsum dc_Lsum pm_Lsum cd_Lsum ct_Lsum : Value}
    {f_Lday : Addr} {od_Lday an_Lday : Option Addr} {sl_Lday : Array (Option Value)} {oc_Lday kV_Lday dc_Lday pm_Lday cd_Lday ct_Lday : Value}
    {f_Lturned : Addr} {od_Lturned an_Lturned : Option Addr} {sl_Lturned : Array (Option Value)} {oc_Lturned kV_Lturned dc_Lturned pm_Lturned cd_Lturned ct_Lturned : Value}
    {f_InGap_init : Addr} {od_InGap_init an_InGap_init : Option Addr} {sl_InGap_init : Array (Option Value)} {oc_InGap_init kV_InGap_init dc_InGap_init pm_InGap_init cd_InGap_init ct_InGap_init : Value}
    {f_NoDate_init : Addr} {od_NoDate_init an_NoDate_init : Option Addr} {sl_NoDate_init : Array (Option Value)} {oc_NoDate_init kV_NoDate_init dc_NoDate_init pm_NoDate_init cd_NoDate_init ct_NoDate_init : Value}
    {f_Calendar_day_of : Addr} {od_Calendar_day_of an_Calendar_day_of : Option Addr} {sl_Calendar_day_of : Array (Option Value)} {oc_Calendar_day_of kV_Calendar_day_of dc_Calendar_day_of pm_Calendar_day_of cd_Calendar_day_of ct_Calendar_day_of : Value}
    {f_Change_day_of : Addr} {od_Change_day_of an_Change_day_of : Option Addr} {sl_Change_day_of : Array (Option Value)} {oc_Change_day_of kV_Change_day_of dc_Change_day_of pm_Change_day_of cd_Change_day_of ct_Change_day_of : Value}
    {f_Ltold : Addr} {od_Ltold an_Ltold : Option Addr} {sl_Ltold : Array (Option Value)} {oc_Ltold kV_Ltold dc_Ltold pm_Ltold cd_Ltold ct_Ltold : Value}
    {f_Lhas : Addr} {od_Lhas an_Lhas : Option Addr} {sl_Lhas : Array (Option Value)} {oc_Lhas kV_Lhas dc_Lhas pm_Lhas cd_Lhas ct_Lhas : Value}
    {f_Lwhole : Addr} {od_Lwhole an_Lwhole : Option Addr} {sl_Lwhole : Array (Option Value)} {oc_Lwhole kV_Lwhole dc_Lwhole pm_Lwhole cd_Lwhole ct_Lwhole : Value}
    {f_Ldue : Addr} {od_Ldue an_Ldue : Option Addr} {sl_Ldue : Array (Option Value)} {oc_Ldue kV_Ldue dc_Ldue pm_Ldue cd_Ldue ct_Ldue : Value}
    {f_law : Addr} {od_law an_law : Option Addr} {sl_law : Array (Option Value)} {oc_law kV_law dc_law pm_law cd_law ct_law : Value}
    {t_MOST_N : Tok}
    {t_MOST_BASE : Tok}
    {t_MOST_TERMS : Tok}
    {t_MOST_MONTHS : Tok}
    {t_MOST_DAYS : Tok}
    {C_NoChange : Addr}
    {C_FeastError : Addr}
    {C_NoDate : Addr}
    {C_InGap : Addr}
    {nm_NoDate q_NoDate : Str} {N_NoDate : Addr} {bs_NoDate sub_NoDate : List Value} {sn_NoDate : List Str} {ab_NoDate : Bool} {col_NoDate : Option Bool} {dd_NoDate : Option Addr} {m0_NoDate m1_NoDate m2_NoDate m3_NoDate m5_NoDate : Option Value}
    {nm_InGap q_InGap : Str} {N_InGap : Addr} {bs_InGap sub_InGap : List Value} {sn_InGap : List Str} {ab_InGap : Bool} {col_InGap : Option Bool} {dd_InGap : Option Addr} {m0_InGap m1_InGap m2_InGap m3_InGap m5_InGap : Option Value}
    {C_Measure : Addr}
    {C_Sun : Addr}
    {C_Change : Addr}
    (gc_NoChange : PySem.W.nsIn K mainGlobals "NoChange" = some (some (.ref C_NoChange)))
    (gc_FeastError : PySem.W.nsIn K mainGlobals "FeastError" = some (some (.ref C_FeastError)))
    (gc_NoDate : PySem.W.nsIn K mainGlobals "NoDate" = some (some (.ref C_NoDate)))
    (gc_InGap : PySem.W.nsIn K mainGlobals "InGap" = some (some (.ref C_InGap)))
    (gc_Measure : PySem.W.nsIn K mainGlobals "Measure" = some (some (.ref C_Measure)))
    (gc_Sun : PySem.W.nsIn K mainGlobals "Sun" = some (some (.ref C_Sun)))
    (gc_Change : PySem.W.nsIn K mainGlobals "Change" = some (some (.ref C_Change)))
    (in_Measure_period : PySem.W.findIn K (.ref C_Measure) "period" = some (some (.ref f_Measure_period)))
    (in_Measure_upto : PySem.W.findIn K (.ref C_Measure) "upto" = some (some (.ref f_Measure_upto)))
    (in_Measure_seek : PySem.W.findIn K (.ref C_Measure) "seek" = some (some (.ref f_Measure_seek)))
    (in_Sun_year_at : PySem.W.findIn K (.ref C_Sun) "year_at" = some (some (.ref f_Sun_year_at)))
    (in_Measure_at : PySem.W.findIn K (.ref C_Measure) "at" = some (some (.ref f_Measure_at)))
    (in_Sun_lengths : PySem.W.findIn K (.ref C_Sun) "lengths" = some (some (.ref f_Sun_lengths)))
    (in_Sun_year_start : PySem.W.findIn K (.ref C_Sun) "year_start" = some (some (.ref f_Sun_year_start)))
    (in_Calendar_date_of : PySem.W.findIn K (.ref C_Sun) "date_of" = some (some (.ref f_Calendar_date_of)))
    (in_Change_date_of : PySem.W.findIn K (.ref C_Change) "date_of" = some (some (.ref f_Change_date_of)))
    (in_Measure_init : PySem.W.findIn K (.ref C_Measure) "__init__" = some (some (.ref f_Measure_init)))
    (in_Sun_init : PySem.W.findIn K (.ref C_Sun) "__init__" = some (some (.ref f_Sun_init)))
    (in_Change_init : PySem.W.findIn K (.ref C_Change) "__init__" = some (some (.ref f_Change_init)))
    (in_Calendar_day_of : PySem.W.findIn K (.ref C_Sun) "day_of" = some (some (.ref f_Calendar_day_of)))
    (in_Change_day_of : PySem.W.findIn K (.ref C_Change) "day_of" = some (some (.ref f_Change_day_of)))
    (in_NoDate_init : PySem.W.findIn K (.ref C_NoDate) "__init__" = some (some (.ref f_NoDate_init)))
    (in_InGap_init : PySem.W.findIn K (.ref C_InGap) "__init__" = some (some (.ref f_InGap_init)))
    (a_sized : PySem.W.nsIn K mainGlobals "sized" = some (some (.ref f_sized)))
    (a_divisor : PySem.W.nsIn K mainGlobals "divisor" = some (some (.ref f_divisor)))
    (a_common : PySem.W.nsIn K mainGlobals "common" = some (some (.ref f_common)))
    (a_counter : PySem.W.nsIn K mainGlobals "counter" = some (some (.ref f_counter)))
    (a_term_on : PySem.W.nsIn K mainGlobals "term_on" = some (some (.ref f_term_on)))
    (a_list_of : PySem.W.nsIn K mainGlobals "list_of" = some (some (.ref f_list_of)))
    (a_many_fall : PySem.W.nsIn K mainGlobals "many_fall" = some (some (.ref f_many_fall)))
    (a_is_term : PySem.W.nsIn K mainGlobals "is_term" = some (some (.ref f_is_term)))
    (a_is_measure : PySem.W.nsIn K mainGlobals "is_measure" = some (some (.ref f_is_measure)))
    (a_are_months : PySem.W.nsIn K mainGlobals "are_months" = some (some (.ref f_are_months)))
    (a_Lchange : PySem.W.nsIn K mainGlobals "_law_change" = some (some (.ref f_Lchange)))
    (a_Lcell_at : PySem.W.nsIn K mainGlobals "_law_cell_at" = some (some (.ref f_Lcell_at)))
    (a_Lnumber : PySem.W.nsIn K mainGlobals "_law_number" = some (some (.ref f_Lnumber)))
    (a_Llengths : PySem.W.nsIn K mainGlobals "_law_lengths" = some (some (.ref f_Llengths)))
    (a_Lsum : PySem.W.nsIn K mainGlobals "_law_sum" = some (some (.ref f_Lsum)))
    (a_Lday : PySem.W.nsIn K mainGlobals "_law_day" = some (some (.ref f_Lday)))
    (a_Lturned : PySem.W.nsIn K mainGlobals "_law_turned" = some (some (.ref f_Lturned)))
    (a_Ltold : PySem.W.nsIn K mainGlobals "_law_told" = some (some (.ref f_Ltold)))
    (a_Lhas : PySem.W.nsIn K mainGlobals "_law_has" = some (some (.ref f_Lhas)))
    (a_Lwhole : PySem.W.nsIn K mainGlobals "_law_whole" = some (some (.ref f_Lwhole)))
    (a_Ldue : PySem.W.nsIn K mainGlobals "_law_due" = some (some (.ref f_Ldue)))
    (a_law : PySem.W.nsIn K mainGlobals "law" = some (some (.ref f_law)))
    (l_sized : K.lookup f_sized = some ⟨oc_sized, od_sized, .func (PySem.W.fnOf "sized" "sized" (defArgs s_sized) (defBody s_sized) (defScope s_sized) .none kV_sized dc_sized pm_sized an_sized cd_sized ct_sized), sl_sized⟩)
    (l_divisor : K.lookup f_divisor = some ⟨oc_divisor, od_divisor, .func (PySem.W.fnOf "divisor" "divisor" (defArgs s_divisor) (defBody s_divisor) (defScope s_divisor) .none kV_divisor dc_divisor pm_divisor an_divisor cd_divisor ct_divisor), sl_divisor⟩)
    (l_common : K.lookup f_common = some ⟨oc_common, od_common, .func (PySem.W.fnOf "common" "common" (defArgs s_common) (defBody s_common) (defScope s_common) .none kV_common dc_common pm_common an_common cd_common ct_common), sl_common⟩)
    (l_Measure_period : K.lookup f_Measure_period = some ⟨oc_Measure_period, od_Measure_period, .func (PySem.W.fnOf "period" "Measure.period" (defArgs s_Measure_period) (defBody s_Measure_period) (defScope s_Measure_period) .none kV_Measure_period dc_Measure_period pm_Measure_period an_Measure_period cd_Measure_period ct_Measure_period), sl_Measure_period⟩)
    (l_counter : K.lookup f_counter = some ⟨oc_counter, od_counter, .func (PySem.W.fnOf "counter" "counter" (defArgs s_counter) (defBody s_counter) (defScope s_counter) .none kV_counter dc_counter pm_counter an_counter (.ref cc_counter) ct_counter), sl_counter⟩)
    (l_Measure_upto : K.lookup f_Measure_upto = some ⟨oc_Measure_upto, od_Measure_upto, .func (PySem.W.fnOf "upto" "Measure.upto" (defArgs s_Measure_upto) (defBody s_Measure_upto) (defScope s_Measure_upto) .none kV_Measure_upto dc_Measure_upto pm_Measure_upto an_Measure_upto cd_Measure_upto ct_Measure_upto), sl_Measure_upto⟩)
    (l_Measure_seek : K.lookup f_Measure_seek = some ⟨oc_Measure_seek, od_Measure_seek, .func (PySem.W.fnOf "seek" "Measure.seek" (defArgs s_Measure_seek) (defBody s_Measure_seek) (defScope s_Measure_seek) .none kV_Measure_seek dc_Measure_seek pm_Measure_seek an_Measure_seek cd_Measure_seek ct_Measure_seek), sl_Measure_seek⟩)
    (l_Sun_year_at : K.lookup f_Sun_year_at = some ⟨oc_Sun_year_at, od_Sun_year_at, .func (PySem.W.fnOf "year_at" "Sun.year_at" (defArgs s_Sun_year_at) (defBody s_Sun_year_at) (defScope s_Sun_year_at) .none kV_Sun_year_at dc_Sun_year_at pm_Sun_year_at an_Sun_year_at cd_Sun_year_at ct_Sun_year_at), sl_Sun_year_at⟩)
    (l_term_on : K.lookup f_term_on = some ⟨oc_term_on, od_term_on, .func (PySem.W.fnOf "term_on" "term_on" (defArgs s_term_on) (defBody s_term_on) (defScope s_term_on) .none kV_term_on dc_term_on pm_term_on an_term_on cd_term_on ct_term_on), sl_term_on⟩)
    (l_Measure_at : K.lookup f_Measure_at = some ⟨oc_Measure_at, od_Measure_at, .func (PySem.W.fnOf "at" "Measure.at" (defArgs s_Measure_at) (defBody s_Measure_at) (defScope s_Measure_at) .none kV_Measure_at dc_Measure_at pm_Measure_at an_Measure_at cd_Measure_at ct_Measure_at), sl_Measure_at⟩)
    (l_Sun_lengths : K.lookup f_Sun_lengths = some ⟨oc_Sun_lengths, od_Sun_lengths, .func (PySem.W.fnOf "lengths" "Sun.lengths" (defArgs s_Sun_lengths) (defBody s_Sun_lengths) (defScope s_Sun_lengths) .none kV_Sun_lengths dc_Sun_lengths pm_Sun_lengths an_Sun_lengths cd_Sun_lengths ct_Sun_lengths), sl_Sun_lengths⟩)
    (l_Sun_year_start : K.lookup f_Sun_year_start = some ⟨oc_Sun_year_start, od_Sun_year_start, .func (PySem.W.fnOf "year_start" "Sun.year_start" (defArgs s_Sun_year_start) (defBody s_Sun_year_start) (defScope s_Sun_year_start) .none kV_Sun_year_start dc_Sun_year_start pm_Sun_year_start an_Sun_year_start cd_Sun_year_start ct_Sun_year_start), sl_Sun_year_start⟩)
    (l_Calendar_date_of : K.lookup f_Calendar_date_of = some ⟨oc_Calendar_date_of, od_Calendar_date_of, .func (PySem.W.fnOf "date_of" "Calendar.date_of" (defArgs s_Calendar_date_of) (defBody s_Calendar_date_of) (defScope s_Calendar_date_of) .none kV_Calendar_date_of dc_Calendar_date_of pm_Calendar_date_of an_Calendar_date_of cd_Calendar_date_of ct_Calendar_date_of), sl_Calendar_date_of⟩)
    (l_Change_date_of : K.lookup f_Change_date_of = some ⟨oc_Change_date_of, od_Change_date_of, .func (PySem.W.fnOf "date_of" "Change.date_of" (defArgs s_Change_date_of) (defBody s_Change_date_of) (defScope s_Change_date_of) .none kV_Change_date_of dc_Change_date_of pm_Change_date_of an_Change_date_of cd_Change_date_of ct_Change_date_of), sl_Change_date_of⟩)
    (l_list_of : K.lookup f_list_of = some ⟨oc_list_of, od_list_of, .func (PySem.W.fnOf "list_of" "list_of" (defArgs s_list_of) (defBody s_list_of) (defScope s_list_of) .none kV_list_of dc_list_of pm_list_of an_list_of cd_list_of ct_list_of), sl_list_of⟩)
    (l_many_fall : K.lookup f_many_fall = some ⟨oc_many_fall, od_many_fall, .func (PySem.W.fnOf "many_fall" "many_fall" (defArgs s_many_fall) (defBody s_many_fall) (defScope s_many_fall) .none kV_many_fall dc_many_fall pm_many_fall an_many_fall cd_many_fall ct_many_fall), sl_many_fall⟩)
    (l_is_term : K.lookup f_is_term = some ⟨oc_is_term, od_is_term, .func (PySem.W.fnOf "is_term" "is_term" (defArgs s_is_term) (defBody s_is_term) (defScope s_is_term) .none kV_is_term dc_is_term pm_is_term an_is_term cd_is_term ct_is_term), sl_is_term⟩)
    (l_is_measure : K.lookup f_is_measure = some ⟨oc_is_measure, od_is_measure, .func (PySem.W.fnOf "is_measure" "is_measure" (defArgs s_is_measure) (defBody s_is_measure) (defScope s_is_measure) .none kV_is_measure dc_is_measure pm_is_measure an_is_measure cd_is_measure ct_is_measure), sl_is_measure⟩)
    (l_Measure_init : K.lookup f_Measure_init = some ⟨oc_Measure_init, od_Measure_init, .func (PySem.W.fnOf "__init__" "Measure.__init__" (defArgs s_Measure_init) (defBody s_Measure_init) (defScope s_Measure_init) (.ref dT_Measure_init) kV_Measure_init dc_Measure_init pm_Measure_init an_Measure_init cd_Measure_init ct_Measure_init), sl_Measure_init⟩)
    (l_are_months : K.lookup f_are_months = some ⟨oc_are_months, od_are_months, .func (PySem.W.fnOf "are_months" "are_months" (defArgs s_are_months) (defBody s_are_months) (defScope s_are_months) .none kV_are_months dc_are_months pm_are_months an_are_months cd_are_months ct_are_months), sl_are_months⟩)
    (l_Sun_init : K.lookup f_Sun_init = some ⟨oc_Sun_init, od_Sun_init, .func (PySem.W.fnOf "__init__" "Sun.__init__" (defArgs s_Sun_init) (defBody s_Sun_init) (defScope s_Sun_init) (.ref dT_Sun_init) kV_Sun_init dc_Sun_init pm_Sun_init an_Sun_init cd_Sun_init ct_Sun_init), sl_Sun_init⟩)
    (l_Change_init : K.lookup f_Change_init = some ⟨oc_Change_init, od_Change_init, .func (PySem.W.fnOf "__init__" "Change.__init__" (defArgs s_Change_init) (defBody s_Change_init) (defScope s_Change_init) .none kV_Change_init dc_Change_init pm_Change_init an_Change_init cd_Change_init ct_Change_init), sl_Change_init⟩)
    (l_Lchange : K.lookup f_Lchange = some ⟨oc_Lchange, od_Lchange, .func (PySem.W.fnOf "_law_change" "_law_change" (defArgs s_Lchange) (defBody s_Lchange) (defScope s_Lchange) .none kV_Lchange dc_Lchange pm_Lchange an_Lchange cd_Lchange ct_Lchange), sl_Lchange⟩)
    (l_Lcell_at : K.lookup f_Lcell_at = some ⟨oc_Lcell_at, od_Lcell_at, .func (PySem.W.fnOf "_law_cell_at" "_law_cell_at" (defArgs s_Lcell_at) (defBody s_Lcell_at) (defScope s_Lcell_at) .none kV_Lcell_at dc_Lcell_at pm_Lcell_at an_Lcell_at cd_Lcell_at ct_Lcell_at), sl_Lcell_at⟩)
    (l_Lnumber : K.lookup f_Lnumber = some ⟨oc_Lnumber, od_Lnumber, .func (PySem.W.fnOf "_law_number" "_law_number" (defArgs s_Lnumber) (defBody s_Lnumber) (defScope s_Lnumber) .none kV_Lnumber dc_Lnumber pm_Lnumber an_Lnumber cd_Lnumber ct_Lnumber), sl_Lnumber⟩)
    (l_Llengths : K.lookup f_Llengths = some ⟨oc_Llengths, od_Llengths, .func (PySem.W.fnOf "_law_lengths" "_law_lengths" (defArgs s_Llengths) (defBody s_Llengths) (defScope s_Llengths) .none kV_Llengths dc_Llengths pm_Llengths an_Llengths cd_Llengths ct_Llengths), sl_Llengths⟩)
    (l_Lsum : K.lookup f_Lsum = some ⟨oc_Lsum, od_Lsum, .func (PySem.W.fnOf "_law_sum" "_law_sum" (defArgs s_Lsum) (defBody s_Lsum) (defScope s_Lsum) .none kV_Lsum dc_Lsum pm_Lsum an_Lsum cd_Lsum ct_Lsum), sl_Lsum⟩)
    (l_Lday : K.lookup f_Lday = some ⟨oc_Lday, od_Lday, .func (PySem.W.fnOf "_law_day" "_law_day" (defArgs s_Lday) (defBody s_Lday) (defScope s_Lday) .none kV_Lday dc_Lday pm_Lday an_Lday cd_Lday ct_Lday), sl_Lday⟩)
    (l_Lturned : K.lookup f_Lturned = some ⟨oc_Lturned, od_Lturned, .func (PySem.W.fnOf "_law_turned" "_law_turned" (defArgs s_Lturned) (defBody s_Lturned) (defScope s_Lturned) .none kV_Lturned dc_Lturned pm_Lturned an_Lturned cd_Lturned ct_Lturned), sl_Lturned⟩)
    (l_InGap_init : K.lookup f_InGap_init = some ⟨oc_InGap_init, od_InGap_init, .func (PySem.W.fnOf "__init__" "InGap.__init__" (defArgs s_InGap_init) (defBody s_InGap_init) (defScope s_InGap_init) .none kV_InGap_init dc_InGap_init pm_InGap_init an_InGap_init cd_InGap_init ct_InGap_init), sl_InGap_init⟩)
    (l_NoDate_init : K.lookup f_NoDate_init = some ⟨oc_NoDate_init, od_NoDate_init, .func (PySem.W.fnOf "__init__" "NoDate.__init__" (defArgs s_NoDate_init) (defBody s_NoDate_init) (defScope s_NoDate_init) .none kV_NoDate_init dc_NoDate_init pm_NoDate_init an_NoDate_init cd_NoDate_init ct_NoDate_init), sl_NoDate_init⟩)
    (l_Calendar_day_of : K.lookup f_Calendar_day_of = some ⟨oc_Calendar_day_of, od_Calendar_day_of, .func (PySem.W.fnOf "day_of" "Calendar.day_of" (defArgs s_Calendar_day_of) (defBody s_Calendar_day_of) (defScope s_Calendar_day_of) .none kV_Calendar_day_of dc_Calendar_day_of pm_Calendar_day_of an_Calendar_day_of cd_Calendar_day_of ct_Calendar_day_of), sl_Calendar_day_of⟩)
    (l_Change_day_of : K.lookup f_Change_day_of = some ⟨oc_Change_day_of, od_Change_day_of, .func (PySem.W.fnOf "day_of" "Change.day_of" (defArgs s_Change_day_of) (defBody s_Change_day_of) (defScope s_Change_day_of) .none kV_Change_day_of dc_Change_day_of pm_Change_day_of an_Change_day_of cd_Change_day_of ct_Change_day_of), sl_Change_day_of⟩)
    (l_Ltold : K.lookup f_Ltold = some ⟨oc_Ltold, od_Ltold, .func (PySem.W.fnOf "_law_told" "_law_told" (defArgs s_Ltold) (defBody s_Ltold) (defScope s_Ltold) .none kV_Ltold dc_Ltold pm_Ltold an_Ltold cd_Ltold ct_Ltold), sl_Ltold⟩)
    (l_Lhas : K.lookup f_Lhas = some ⟨oc_Lhas, od_Lhas, .func (PySem.W.fnOf "_law_has" "_law_has" (defArgs s_Lhas) (defBody s_Lhas) (defScope s_Lhas) .none kV_Lhas dc_Lhas pm_Lhas an_Lhas cd_Lhas ct_Lhas), sl_Lhas⟩)
    (l_Lwhole : K.lookup f_Lwhole = some ⟨oc_Lwhole, od_Lwhole, .func (PySem.W.fnOf "_law_whole" "_law_whole" (defArgs s_Lwhole) (defBody s_Lwhole) (defScope s_Lwhole) .none kV_Lwhole dc_Lwhole pm_Lwhole an_Lwhole cd_Lwhole ct_Lwhole), sl_Lwhole⟩)
    (l_Ldue : K.lookup f_Ldue = some ⟨oc_Ldue, od_Ldue, .func (PySem.W.fnOf "_law_due" "_law_due" (defArgs s_Ldue) (defBody s_Ldue) (defScope s_Ldue) .none kV_Ldue dc_Ldue pm_Ldue an_Ldue cd_Ldue ct_Ldue), sl_Ldue⟩)
    (l_law : K.lookup f_law = some ⟨oc_law, od_law, .func (PySem.W.fnOf "law" "law" (defArgs s_law) (defBody s_law) (defScope s_law) .none kV_law dc_law pm_law an_law cd_law ct_law), sl_law⟩)
    (dl_Measure_init : K.lookup dT_Measure_init = some dO_Measure_init)
    (dl_Sun_init : K.lookup dT_Sun_init = some dO_Sun_init)
    (dd_Measure_init : dO_Measure_init.data = .seq (List.toArray dI_Measure_init) dN_Measure_init)
    (dd_Sun_init : dO_Sun_init.data = .seq (List.toArray dI_Sun_init) dN_Sun_init)
    (c_sized : PySem.W.codeIn K cd_sized "sized" = true)
    (k_sized : PySem.W.keepIn K (.ref f_sized) = true)
    (c_divisor : PySem.W.codeIn K cd_divisor "divisor" = true)
    (k_divisor : PySem.W.keepIn K (.ref f_divisor) = true)
    (c_common : PySem.W.codeIn K cd_common "common" = true)
    (k_common : PySem.W.keepIn K (.ref f_common) = true)
    (c_Measure_period : PySem.W.codeIn K cd_Measure_period "Measure.period" = true)
    (k_Measure_period : PySem.W.keepIn K (.ref f_Measure_period) = true)
    (tt_counter : PySem.W.tabIn K "counter" = some (cc_counter, tP_counter))
    (c_counter : PySem.W.codeIn K (.ref cc_counter) "counter" = true)
    (k_counter : PySem.W.keepIn K (.ref f_counter) = true)
    (c_Measure_upto : PySem.W.codeIn K cd_Measure_upto "Measure.upto" = true)
    (k_Measure_upto : PySem.W.keepIn K (.ref f_Measure_upto) = true)
    (c_Measure_seek : PySem.W.codeIn K cd_Measure_seek "Measure.seek" = true)
    (k_Measure_seek : PySem.W.keepIn K (.ref f_Measure_seek) = true)
    (c_Sun_year_at : PySem.W.codeIn K cd_Sun_year_at "Sun.year_at" = true)
    (k_Sun_year_at : PySem.W.keepIn K (.ref f_Sun_year_at) = true)
    (c_term_on : PySem.W.codeIn K cd_term_on "term_on" = true)
    (k_term_on : PySem.W.keepIn K (.ref f_term_on) = true)
    (c_Measure_at : PySem.W.codeIn K cd_Measure_at "Measure.at" = true)
    (k_Measure_at : PySem.W.keepIn K (.ref f_Measure_at) = true)
    (c_Sun_lengths : PySem.W.codeIn K cd_Sun_lengths "Sun.lengths" = true)
    (k_Sun_lengths : PySem.W.keepIn K (.ref f_Sun_lengths) = true)
    (c_Sun_year_start : PySem.W.codeIn K cd_Sun_year_start "Sun.year_start" = true)
    (k_Sun_year_start : PySem.W.keepIn K (.ref f_Sun_year_start) = true)
    (c_Calendar_date_of : PySem.W.codeIn K cd_Calendar_date_of "Calendar.date_of" = true)
    (k_Calendar_date_of : PySem.W.keepIn K (.ref f_Calendar_date_of) = true)
    (c_Change_date_of : PySem.W.codeIn K cd_Change_date_of "Change.date_of" = true)
    (k_Change_date_of : PySem.W.keepIn K (.ref f_Change_date_of) = true)
    (c_list_of : PySem.W.codeIn K cd_list_of "list_of" = true)
    (k_list_of : PySem.W.keepIn K (.ref f_list_of) = true)
    (c_many_fall : PySem.W.codeIn K cd_many_fall "many_fall" = true)
    (k_many_fall : PySem.W.keepIn K (.ref f_many_fall) = true)
    (c_is_term : PySem.W.codeIn K cd_is_term "is_term" = true)
    (k_is_term : PySem.W.keepIn K (.ref f_is_term) = true)
    (c_is_measure : PySem.W.codeIn K cd_is_measure "is_measure" = true)
    (k_is_measure : PySem.W.keepIn K (.ref f_is_measure) = true)
    (dv_Measure_init : Vals [.non] dI_Measure_init)
    (c_Measure_init : PySem.W.codeIn K cd_Measure_init "Measure.__init__" = true)
    (k_Measure_init : PySem.W.keepIn K (.ref f_Measure_init) = true)
    (c_are_months : PySem.W.codeIn K cd_are_months "are_months" = true)
    (k_are_months : PySem.W.keepIn K (.ref f_are_months) = true)
    (dv_Sun_init : Vals [.int 1, .non] dI_Sun_init)
    (c_Sun_init : PySem.W.codeIn K cd_Sun_init "Sun.__init__" = true)
    (k_Sun_init : PySem.W.keepIn K (.ref f_Sun_init) = true)
    (c_Change_init : PySem.W.codeIn K cd_Change_init "Change.__init__" = true)
    (k_Change_init : PySem.W.keepIn K (.ref f_Change_init) = true)
    (c_Lchange : PySem.W.codeIn K cd_Lchange "_law_change" = true)
    (k_Lchange : PySem.W.keepIn K (.ref f_Lchange) = true)
    (c_Lcell_at : PySem.W.codeIn K cd_Lcell_at "_law_cell_at" = true)
    (k_Lcell_at : PySem.W.keepIn K (.ref f_Lcell_at) = true)
    (c_Lnumber : PySem.W.codeIn K cd_Lnumber "_law_number" = true)
    (k_Lnumber : PySem.W.keepIn K (.ref f_Lnumber) = true)
    (c_Llengths : PySem.W.codeIn K cd_Llengths "_law_lengths" = true)
    (k_Llengths : PySem.W.keepIn K (.ref f_Llengths) = true)
    (c_Lsum : PySem.W.codeIn K cd_Lsum "_law_sum" = true)
    (k_Lsum : PySem.W.keepIn K (.ref f_Lsum) = true)
    (c_Lday : PySem.W.codeIn K cd_Lday "_law_day" = true)
    (k_Lday : PySem.W.keepIn K (.ref f_Lday) = true)
    (c_Lturned : PySem.W.codeIn K cd_Lturned "_law_turned" = true)
    (k_Lturned : PySem.W.keepIn K (.ref f_Lturned) = true)
    (c_InGap_init : PySem.W.codeIn K cd_InGap_init "InGap.__init__" = true)
    (k_InGap_init : PySem.W.keepIn K (.ref f_InGap_init) = true)
    (c_NoDate_init : PySem.W.codeIn K cd_NoDate_init "NoDate.__init__" = true)
    (k_NoDate_init : PySem.W.keepIn K (.ref f_NoDate_init) = true)
    (c_Calendar_day_of : PySem.W.codeIn K cd_Calendar_day_of "Calendar.day_of" = true)
    (k_Calendar_day_of : PySem.W.keepIn K (.ref f_Calendar_day_of) = true)
    (c_Change_day_of : PySem.W.codeIn K cd_Change_day_of "Change.day_of" = true)
    (k_Change_day_of : PySem.W.keepIn K (.ref f_Change_day_of) = true)
    (c_Ltold : PySem.W.codeIn K cd_Ltold "_law_told" = true)
    (k_Ltold : PySem.W.keepIn K (.ref f_Ltold) = true)
    (c_Lhas : PySem.W.codeIn K cd_Lhas "_law_has" = true)
    (k_Lhas : PySem.W.keepIn K (.ref f_Lhas) = true)
    (c_Lwhole : PySem.W.codeIn K cd_Lwhole "_law_whole" = true)
    (k_Lwhole : PySem.W.keepIn K (.ref f_Lwhole) = true)
    (c_Ldue : PySem.W.codeIn K cd_Ldue "_law_due" = true)
    (k_Ldue : PySem.W.keepIn K (.ref f_Ldue) = true)
    (c_law : PySem.W.codeIn K cd_law "law" = true)
    (k_law : PySem.W.keepIn K (.ref f_law) = true)
    (q_MOST_N : PySem.W.nsIn K mainGlobals "MOST_N" = some (some (.int 1000 t_MOST_N)))
    (q_MOST_BASE : PySem.W.nsIn K mainGlobals "MOST_BASE" = some (some (.int 20000 t_MOST_BASE)))
    (q_MOST_TERMS : PySem.W.nsIn K mainGlobals "MOST_TERMS" = some (some (.int 6 t_MOST_TERMS)))
    (q_MOST_MONTHS : PySem.W.nsIn K mainGlobals "MOST_MONTHS" = some (some (.int 20 t_MOST_MONTHS)))
    (q_MOST_DAYS : PySem.W.nsIn K mainGlobals "MOST_DAYS" = some (some (.int 1000 t_MOST_DAYS)))
    (z_abs : PySem.W.nsIn K mainGlobals "abs" = some none)
    (z_all : PySem.W.nsIn K mainGlobals "all" = some none)
    (z_bool : PySem.W.nsIn K mainGlobals "bool" = some none)
    (z_divmod : PySem.W.nsIn K mainGlobals "divmod" = some none)
    (z_int : PySem.W.nsIn K mainGlobals "int" = some none)
    (z_isinstance : PySem.W.nsIn K mainGlobals "isinstance" = some none)
    (z_len : PySem.W.nsIn K mainGlobals "len" = some none)
    (z_list : PySem.W.nsIn K mainGlobals "list" = some none)
    (z_max : PySem.W.nsIn K mainGlobals "max" = some none)
    (z_min : PySem.W.nsIn K mainGlobals "min" = some none)
    (z_sum : PySem.W.nsIn K mainGlobals "sum" = some none)
    (z_tuple : PySem.W.nsIn K mainGlobals "tuple" = some none)
    (x_NoChange : PySem.W.excIn K C_NoChange [.type "ValueError", .type "Exception", .type "BaseException", .type "object"] "ValueError.__new__" = true)
    (kc_NoChange : PySem.W.keepIn K (.ref C_NoChange) = true)
    (bc_NoChange : PySem.W.subIn K (.ref C_NoChange) (.type "BaseException") = some true)
    (tc_NoChange : PySem.W.typeIn K (.ref C_NoChange) = some (.type "type"))
    (ic_NoChange : PySem.W.isClsIn K C_NoChange = true)
    (sc_NoChange : PySem.W.subIn K (.ref C_NoChange) (.ref C_NoChange) = some true)
    (kc_FeastError : PySem.W.keepIn K (.ref C_FeastError) = true)
    (bc_FeastError : PySem.W.subIn K (.ref C_FeastError) (.type "BaseException") = some true)
    (tc_FeastError : PySem.W.typeIn K (.ref C_FeastError) = some (.type "type"))
    (ic_FeastError : PySem.W.isClsIn K C_FeastError = true)
    (sc_FeastError : PySem.W.subIn K (.ref C_FeastError) (.ref C_FeastError) = some true)
    (kc_NoDate : PySem.W.keepIn K (.ref C_NoDate) = true)
    (bc_NoDate : PySem.W.subIn K (.ref C_NoDate) (.type "BaseException") = some true)
    (tc_NoDate : PySem.W.typeIn K (.ref C_NoDate) = some (.type "type"))
    (ic_NoDate : PySem.W.isClsIn K C_NoDate = true)
    (sc_NoDate : PySem.W.subIn K (.ref C_NoDate) (.ref C_NoDate) = some true)
    (kc_InGap : PySem.W.keepIn K (.ref C_InGap) = true)
    (bc_InGap : PySem.W.subIn K (.ref C_InGap) (.type "BaseException") = some true)
    (tc_InGap : PySem.W.typeIn K (.ref C_InGap) = some (.type "type"))
    (ic_InGap : PySem.W.isClsIn K C_InGap = true)
    (sc_InGap : PySem.W.subIn K (.ref C_InGap) (.ref C_InGap) = some true)
    (sb_NoChange_FeastError : PySem.W.subIn K (.ref C_NoChange) (.ref C_FeastError) = some true)
    (sb_NoChange_NoDate : PySem.W.subIn K (.ref C_NoChange) (.ref C_NoDate) = some false)
    (sb_NoChange_InGap : PySem.W.subIn K (.ref C_NoChange) (.ref C_InGap) = some false)
    (sb_NoDate_NoChange : PySem.W.subIn K (.ref C_NoDate) (.ref C_NoChange) = some false)
    (sb_NoDate_FeastError : PySem.W.subIn K (.ref C_NoDate) (.ref C_FeastError) = some true)
    (sb_NoDate_InGap : PySem.W.subIn K (.ref C_NoDate) (.ref C_InGap) = some false)
    (sb_InGap_NoChange : PySem.W.subIn K (.ref C_InGap) (.ref C_NoChange) = some false)
    (sb_InGap_FeastError : PySem.W.subIn K (.ref C_InGap) (.ref C_FeastError) = some true)
    (sb_InGap_NoDate : PySem.W.subIn K (.ref C_InGap) (.ref C_NoDate) = some false)
    (xc_NoChange : ExcC K C_NoChange)
    (sv_NoChange : PySem.W.subIn K (.ref C_NoChange) (.type "ValueError") = some true)
    (xc_NoDate : ExcC K C_NoDate)
    (sv_NoDate : PySem.W.subIn K (.ref C_NoDate) (.type "ValueError") = some true)
    (xc_InGap : ExcC K C_InGap)
    (sv_InGap : PySem.W.subIn K (.ref C_InGap) (.type "ValueError") = some true)
    (xl_NoDate : K.lookup C_NoDate = some (excClassObj nm_NoDate q_NoDate C_NoDate N_NoDate bs_NoDate [.ref C_FeastError, .type "ValueError", .type "Exception", .type "BaseException", .type "object"] true sn_NoDate sub_NoDate ab_NoDate col_NoDate dd_NoDate m0_NoDate m1_NoDate m2_NoDate m3_NoDate m5_NoDate "ValueError.__new__"))
    (sa_NoDate : PySem.W.findIn K (.ref C_NoDate) "__setattr__" = some (some (.builtin "object.__setattr__")))
    (xl_InGap : K.lookup C_InGap = some (excClassObj nm_InGap q_InGap C_InGap N_InGap bs_InGap [.ref C_FeastError, .type "ValueError", .type "Exception", .type "BaseException", .type "object"] true sn_InGap sub_InGap ab_InGap col_InGap dd_InGap m0_InGap m1_InGap m2_InGap m3_InGap m5_InGap "ValueError.__new__"))
    (sa_InGap : PySem.W.findIn K (.ref C_InGap) "__setattr__" = some (some (.builtin "object.__setattr__")))
    (cl_Measure : Cls K C_Measure)
    (mk_Measure : Mk K C_Measure f_Measure_init)
    (na_Measure_base : NoAttr K C_Measure "base")
    (na_Measure_terms : NoAttr K C_Measure "terms")
    (me_Measure_at : Meth K C_Measure "at" f_Measure_at)
    (me_Measure_upto : Meth K C_Measure "upto" f_Measure_upto)
    (me_Measure_period : Meth K C_Measure "period" f_Measure_period)
    (me_Measure_seek : Meth K C_Measure "seek" f_Measure_seek)
    (cl_Sun : Cls K C_Sun)
    (mk_Sun : Mk K C_Sun f_Sun_init)
    (na_Sun_start : NoAttr K C_Sun "start")
    (na_Sun_months : NoAttr K C_Sun "months")
    (na_Sun_leap : NoAttr K C_Sun "leap")
    (na_Sun_years : NoAttr K C_Sun "years")
    (me_Sun_year_start : Meth K C_Sun "year_start" f_Sun_year_start)
    (me_Sun_lengths : Meth K C_Sun "lengths" f_Sun_lengths)
    (me_Sun_year_at : Meth K C_Sun "year_at" f_Sun_year_at)
    (me_Sun_date_of : Meth K C_Sun "date_of" f_Calendar_date_of)
    (me_Sun_day_of : Meth K C_Sun "day_of" f_Calendar_day_of)
    (cl_Change : Cls K C_Change)
    (mk_Change : Mk K C_Change f_Change_init)
    (na_Change_old : NoAttr K C_Change "old")
    (na_Change_new : NoAttr K C_Change "new")
    (na_Change_day : NoAttr K C_Change "day")
    (na_Change_last : NoAttr K C_Change "last")
    (na_Change_first : NoAttr K C_Change "first")
    (me_Change_date_of : Meth K C_Change "date_of" f_Change_date_of)
    (me_Change_day_of : Meth K C_Change "day_of" f_Change_day_of)
    (ti_NoDate_init : PySem.W.typeIn K (.ref f_NoDate_init) = some (.type "function"))
    (xf_NoDate : XfC K C_NoDate)
    (no_NoDate_date : PySem.W.findIn K (.ref C_NoDate) "date" = some none)
    (ti_InGap_init : PySem.W.typeIn K (.ref f_InGap_init) = some (.type "function"))
    (xf_InGap : XfC K C_InGap)
    (no_InGap_date : PySem.W.findIn K (.ref C_InGap) "date" = some none)
    (no_InGap_day : PySem.W.findIn K (.ref C_InGap) "day" = some none)
    (cr_FeastError : ClX.CRead K C_FeastError (.type "type"))
    (vi_FeastError : PySem.W.findCls K (.ref C_FeastError) (.type "type") "__init__" = some (.val (.builtin "ValueError.__init__"))) :
    (∀ c P : Addr, PySem.W.tabIn K "counter" = some (c, P) → PySem.W.codeHdIn K c P = true ∧ K.lookup P = none ∧ h.get? P = some { cls := .none, data := .fields #[] }) → LamX.LawAtS l w K CX0 10 63 "_law_script" mg fa h := by
  have e := hfa.symm.trans (PySem.W.mg_of X G a_law)
  cases e
  have F_sized := fun_mk (st := s_sized) l_sized c_sized k_sized
  have b_sized := F_sized.binds (ps := ["size"]) fun _ _ _ _ _ _ us hl => match us, hl with | [_], _ => rfl
  have F_divisor := fun_mk (st := s_divisor) l_divisor c_divisor k_divisor
  have b_divisor := F_divisor.binds (ps := ["one", "other"]) fun _ _ _ _ _ _ us hl => match us, hl with | [_, _], _ => rfl
  have F_common := fun_mk (st := s_common) l_common c_common k_common
  have b_common := F_common.binds (ps := ["one", "other"]) fun _ _ _ _ _ _ us hl => match us, hl with | [_, _], _ => rfl
  have F_Measure_period := fun_mk (st := s_Measure_period) l_Measure_period c_Measure_period k_Measure_period
  have b_Measure_period := F_Measure_period.binds (ps := ["self"]) fun _ _ _ _ _ _ us hl => match us, hl with | [_], _ => rfl
  have F_counter := funC_mk (st := s_counter) l_counter c_counter k_counter
  have b_counter := F_counter.binds (ps := ["terms"]) fun _ _ _ _ _ _ us hl => match us, hl with | [_], _ => rfl
  have F_Measure_upto := fun_mk (st := s_Measure_upto) l_Measure_upto c_Measure_upto k_Measure_upto
  have b_Measure_upto := F_Measure_upto.binds (ps := ["self", "k"]) fun _ _ _ _ _ _ us hl => match us, hl with | [_, _], _ => rfl
  have F_Measure_seek := fun_mk (st := s_Measure_seek) l_Measure_seek c_Measure_seek k_Measure_seek
  have b_Measure_seek := F_Measure_seek.binds (ps := ["self", "total"]) fun _ _ _ _ _ _ us hl => match us, hl with | [_, _], _ => rfl
  have F_Sun_year_at := fun_mk (st := s_Sun_year_at) l_Sun_year_at c_Sun_year_at k_Sun_year_at
  have b_Sun_year_at := F_Sun_year_at.binds (ps := ["self", "day"]) fun _ _ _ _ _ _ us hl => match us, hl with | [_, _], _ => rfl
  have F_term_on := fun_mk (st := s_term_on) l_term_on c_term_on k_term_on
  have b_term_on := F_term_on.binds (ps := ["term", "k"]) fun _ _ _ _ _ _ us hl => match us, hl with | [_, _], _ => rfl
  have F_Measure_at := fun_mk (st := s_Measure_at) l_Measure_at c_Measure_at k_Measure_at
  have b_Measure_at := F_Measure_at.binds (ps := ["self", "k"]) fun _ _ _ _ _ _ us hl => match us, hl with | [_, _], _ => rfl
  have F_Sun_lengths := fun_mk (st := s_Sun_lengths) l_Sun_lengths c_Sun_lengths k_Sun_lengths
  have b_Sun_lengths := F_Sun_lengths.binds (ps := ["self", "year"]) fun _ _ _ _ _ _ us hl => match us, hl with | [_, _], _ => rfl
  have F_Sun_year_start := fun_mk (st := s_Sun_year_start) l_Sun_year_start c_Sun_year_start k_Sun_year_start
  have b_Sun_year_start := F_Sun_year_start.binds (ps := ["self", "year"]) fun _ _ _ _ _ _ us hl => match us, hl with | [_, _], _ => rfl
  have F_Calendar_date_of := fun_mk (st := s_Calendar_date_of) l_Calendar_date_of c_Calendar_date_of k_Calendar_date_of
  have b_Calendar_date_of := F_Calendar_date_of.binds (ps := ["self", "day"]) fun _ _ _ _ _ _ us hl => match us, hl with | [_, _], _ => rfl
  have F_Change_date_of := fun_mk (st := s_Change_date_of) l_Change_date_of c_Change_date_of k_Change_date_of
  have b_Change_date_of := F_Change_date_of.binds (ps := ["self", "day"]) fun _ _ _ _ _ _ us hl => match us, hl with | [_, _], _ => rfl
  have F_list_of := fun_mk (st := s_list_of) l_list_of c_list_of k_list_of
  have b_list_of := F_list_of.binds (ps := ["terms"]) fun _ _ _ _ _ _ us hl => match us, hl with | [_], _ => rfl
  have F_many_fall := fun_mk (st := s_many_fall) l_many_fall c_many_fall k_many_fall
  have b_many_fall := F_many_fall.binds (ps := ["terms"]) fun _ _ _ _ _ _ us hl => match us, hl with | [_], _ => rfl
  have F_is_term := fun_mk (st := s_is_term) l_is_term c_is_term k_is_term
  have b_is_term := F_is_term.binds (ps := ["term"]) fun _ _ _ _ _ _ us hl => match us, hl with | [_], _ => rfl
  have F_is_measure := fun_mk (st := s_is_measure) l_is_measure c_is_measure k_is_measure
  have b_is_measure := F_is_measure.binds (ps := ["base", "terms"]) fun _ _ _ _ _ _ us hl => match us, hl with | [_, _], _ => rfl
  have F_Measure_init : FunD K "__init__" "Measure.__init__" (defArgs s_Measure_init) (defBody s_Measure_init) (defScope s_Measure_init) [.non] [] f_Measure_init _ := ⟨⟨_, _, _, _, _, _, _, _, _, _, rfl, l_Measure_init, c_Measure_init, .inr ⟨by simp, _, _, _, _, rfl, dl_Measure_init, dd_Measure_init, dv_Measure_init⟩, .inl rfl⟩, k_Measure_init⟩
  obtain ⟨ds_Measure_init_3, v_Measure_init_3, b_Measure_init_3⟩ := F_Measure_init.binds1 (ps := ["self", "base", "terms"]) 3 1 (by simp) (by decide) fun _ _ _ _ _ _ _ us its h1 h2 => match us, its, h1, h2 with | [_, _, _], [_], _, _ => ⟨_, rfl, rfl⟩
  have F_are_months := fun_mk (st := s_are_months) l_are_months c_are_months k_are_months
  have b_are_months := F_are_months.binds (ps := ["lengths", "leap", "terms"]) fun _ _ _ _ _ _ us hl => match us, hl with | [_, _, _], _ => rfl
  have F_Sun_init : FunD K "__init__" "Sun.__init__" (defArgs s_Sun_init) (defBody s_Sun_init) (defScope s_Sun_init) [.int 1, .non] [] f_Sun_init _ := ⟨⟨_, _, _, _, _, _, _, _, _, _, rfl, l_Sun_init, c_Sun_init, .inr ⟨by simp, _, _, _, _, rfl, dl_Sun_init, dd_Sun_init, dv_Sun_init⟩, .inl rfl⟩, k_Sun_init⟩
  obtain ⟨ds_Sun_init_5, v_Sun_init_5, b_Sun_init_5⟩ := F_Sun_init.binds1 (ps := ["self", "start", "lengths", "leap", "terms"]) 5 2 (by simp) (by decide) fun _ _ _ _ _ _ _ us its h1 h2 => match us, its, h1, h2 with | [_, _, _, _, _], [_, _], _, _ => ⟨_, rfl, rfl⟩
  have F_Change_init := fun_mk (st := s_Change_init) l_Change_init c_Change_init k_Change_init
  have b_Change_init := F_Change_init.binds (ps := ["self", "old", "new", "day"]) fun _ _ _ _ _ _ us hl => match us, hl with | [_, _, _, _], _ => rfl
  have F_Lchange := fun_mk (st := s_Lchange) l_Lchange c_Lchange k_Lchange
  have b_Lchange := F_Lchange.binds (ps := []) fun _ _ _ _ _ _ us hl => match us, hl with | [], _ => rfl
  have F_Lcell_at := fun_mk (st := s_Lcell_at) l_Lcell_at c_Lcell_at k_Lcell_at
  have b_Lcell_at := F_Lcell_at.binds (ps := ["_law_script", "_law_k"]) fun _ _ _ _ _ _ us hl => match us, hl with | [_, _], _ => rfl
  have F_Lnumber := fun_mk (st := s_Lnumber) l_Lnumber c_Lnumber k_Lnumber
  have b_Lnumber := F_Lnumber.binds (ps := ["_law_cell"]) fun _ _ _ _ _ _ us hl => match us, hl with | [_], _ => rfl
  have F_Llengths := fun_mk (st := s_Llengths) l_Llengths c_Llengths k_Llengths
  have b_Llengths := F_Llengths.binds (ps := ["_law_year", "_law_elder"]) fun _ _ _ _ _ _ us hl => match us, hl with | [_, _], _ => rfl
  have F_Lsum := fun_mk (st := s_Lsum) l_Lsum c_Lsum k_Lsum
  have b_Lsum := F_Lsum.binds (ps := ["_law_date", "_law_elder"]) fun _ _ _ _ _ _ us hl => match us, hl with | [_, _], _ => rfl
  have F_Lday := fun_mk (st := s_Lday) l_Lday c_Lday k_Lday
  have b_Lday := F_Lday.binds (ps := ["_law_script"]) fun _ _ _ _ _ _ us hl => match us, hl with | [_], _ => rfl
  have F_Lturned := fun_mk (st := s_Lturned) l_Lturned c_Lturned k_Lturned
  have b_Lturned := F_Lturned.binds (ps := ["_law_date", "_law_cell", "_law_far"]) fun _ _ _ _ _ _ us hl => match us, hl with | [_, _, _], _ => rfl
  have F_InGap_init := fun_mk (st := s_InGap_init) l_InGap_init c_InGap_init k_InGap_init
  have b_InGap_init := F_InGap_init.binds (ps := ["self", "date", "day"]) fun _ _ _ _ _ _ us hl => match us, hl with | [_, _, _], _ => rfl
  have F_NoDate_init := fun_mk (st := s_NoDate_init) l_NoDate_init c_NoDate_init k_NoDate_init
  have b_NoDate_init := F_NoDate_init.binds (ps := ["self", "date"]) fun _ _ _ _ _ _ us hl => match us, hl with | [_, _], _ => rfl
  have F_Calendar_day_of := fun_mk (st := s_Calendar_day_of) l_Calendar_day_of c_Calendar_day_of k_Calendar_day_of
  have b_Calendar_day_of := F_Calendar_day_of.binds (ps := ["self", "date"]) fun _ _ _ _ _ _ us hl => match us, hl with | [_, _], _ => rfl
  have F_Change_day_of := fun_mk (st := s_Change_day_of) l_Change_day_of c_Change_day_of k_Change_day_of
  have b_Change_day_of := F_Change_day_of.binds (ps := ["self", "date"]) fun _ _ _ _ _ _ us hl => match us, hl with | [_, _], _ => rfl
  have F_Ltold := fun_mk (st := s_Ltold) l_Ltold c_Ltold k_Ltold
  have b_Ltold := F_Ltold.binds (ps := ["_law_change_here", "_law_date"]) fun _ _ _ _ _ _ us hl => match us, hl with | [_, _], _ => rfl
  have F_Lhas := fun_mk (st := s_Lhas) l_Lhas c_Lhas k_Lhas
  have b_Lhas := F_Lhas.binds (ps := ["_law_date", "_law_elder"]) fun _ _ _ _ _ _ us hl => match us, hl with | [_, _], _ => rfl
  have F_Lwhole := fun_mk (st := s_Lwhole) l_Lwhole c_Lwhole k_Lwhole
  have b_Lwhole := F_Lwhole.binds (ps := ["_law_found"]) fun _ _ _ _ _ _ us hl => match us, hl with | [_], _ => rfl
  have F_Ldue := fun_mk (st := s_Ldue) l_Ldue c_Ldue k_Ldue
  have b_Ldue := F_Ldue.binds (ps := ["_law_date"]) fun _ _ _ _ _ _ us hl => match us, hl with | [_], _ => rfl
  have F_law := fun_mk (st := s_law) l_law c_law k_law
  have b_law := F_law.binds (ps := ["_law_script"]) fun _ _ _ _ _ _ us hl => match us, hl with | [_], _ => rfl
  intro tabs
  obtain ⟨hC, hP, hT⟩ := tabs _ _ tt_counter
  refine ⟨PySem.W.fnOf "law" "law" (defArgs s_law) (defBody s_law) (defScope s_law) .none kV_law dc_law pm_law an_law cd_law ct_law, [(cc_counter, tP_counter)], sp_law K tP_counter, ?_, ?_, ?_, fun s v => .of_eq rfl, fun H a ns hl hb ht hS => ⟨a, ns, rfl, hS, hl, hb, ?_, fun _ => rfl⟩, fun base _ _ tb => ?_⟩
  · intro p hp; cases List.mem_singleton.mp hp; exact hT
  · intro p hp; cases List.mem_singleton.mp hp; exact hP
  · intro p hp; cases List.mem_singleton.mp hp; exact PySem.W.codeHd_of_K X hC
  · exact tabs_nil (ht _ (List.mem_singleton.mpr rfl))
  · have tb_counter := tb _ (List.mem_singleton.mpr rfl)
    exact ok_law (⟨_, _, F_sized, (PySem.W.mg_of X G a_sized), b_sized, _, _, F_divisor, (PySem.W.mg_of X G a_divisor), b_divisor, _, _, F_common, (PySem.W.mg_of X G a_common), b_common, _, _, F_Measure_period, b_Measure_period, _, _, _, _, tb_counter, F_counter, (PySem.W.mg_of X G a_counter), b_counter, _, _, F_Measure_upto, b_Measure_upto, _, _, F_Measure_seek, b_Measure_seek, _, _, F_Sun_year_at, b_Sun_year_at, _, _, F_term_on, (PySem.W.mg_of X G a_term_on), b_term_on, _, _, F_Measure_at, b_Measure_at, _, _, F_Sun_lengths, b_Sun_lengths, _, _, F_Sun_year_start, b_Sun_year_start, _, _, F_Calendar_date_of, b_Calendar_date_of, _, _, F_Change_date_of, b_Change_date_of, _, _, F_list_of, (PySem.W.mg_of X G a_list_of), b_list_of, _, _, F_many_fall, (PySem.W.mg_of X G a_many_fall), b_many_fall, _, _, F_is_term, (PySem.W.mg_of X G a_is_term), b_is_term, _, _, F_is_measure, (PySem.W.mg_of X G a_is_measure), b_is_measure, _, _, F_Measure_init, _, v_Measure_init_3, b_Measure_init_3, _, _, F_are_months, (PySem.W.mg_of X G a_are_months), b_are_months, _, _, F_Sun_init, _, v_Sun_init_5, b_Sun_init_5, _, _, F_Change_init, b_Change_init, _, _, F_Lchange, (PySem.W.mg_of X G a_Lchange), b_Lchange, _, _, F_Lcell_at, (PySem.W.mg_of X G a_Lcell_at), b_Lcell_at, _, _, F_Lnumber, (PySem.W.mg_of X G a_Lnumber), b_Lnumber, _, _, F_Llengths, (PySem.W.mg_of X G a_Llengths), b_Llengths, _, _, F_Lsum, (PySem.W.mg_of X G a_Lsum), b_Lsum, _, _, F_Lday, (PySem.W.mg_of X G a_Lday), b_Lday, _, _, F_Lturned, (PySem.W.mg_of X G a_Lturned), b_Lturned, _, _, F_InGap_init, b_InGap_init, _, _, F_NoDate_init, b_NoDate_init, _, _, F_Calendar_day_of, b_Calendar_day_of, _, _, F_Change_day_of, b_Change_day_of, _, _, F_Ltold, (PySem.W.mg_of X G a_Ltold), b_Ltold, _, _, F_Lhas, (PySem.W.mg_of X G a_Lhas), b_Lhas, _, _, F_Lwhole, (PySem.W.mg_of X G a_Lwhole), b_Lwhole, _, _, F_Ldue, (PySem.W.mg_of X G a_Ldue), b_Ldue, _, _, F_law, (PySem.W.mg_of X G a_law), b_law, _, (PySem.W.mg_of X G q_MOST_N), _, (PySem.W.mg_of X G q_MOST_BASE), _, (PySem.W.mg_of X G q_MOST_TERMS), _, (PySem.W.mg_of X G q_MOST_MONTHS), _, (PySem.W.mg_of X G q_MOST_DAYS), (PySem.W.mg_none_of X G z_abs), (PySem.W.mg_none_of X G z_all), (PySem.W.mg_none_of X G z_bool), (PySem.W.mg_none_of X G z_divmod), (PySem.W.mg_none_of X G z_int), (PySem.W.mg_none_of X G z_isinstance), (PySem.W.mg_none_of X G z_len), (PySem.W.mg_none_of X G z_list), (PySem.W.mg_none_of X G z_max), (PySem.W.mg_none_of X G z_min), (PySem.W.mg_none_of X G z_sum), (PySem.W.mg_none_of X G z_tuple), _, (PySem.W.mg_of X G gc_NoChange), x_NoChange, kc_NoChange, bc_NoChange, tc_NoChange, ic_NoChange, sc_NoChange, _, (PySem.W.mg_of X G gc_FeastError), kc_FeastError, bc_FeastError, tc_FeastError, ic_FeastError, sc_FeastError, _, (PySem.W.mg_of X G gc_NoDate), kc_NoDate, bc_NoDate, tc_NoDate, ic_NoDate, sc_NoDate, _, (PySem.W.mg_of X G gc_InGap), kc_InGap, bc_InGap, tc_InGap, ic_InGap, sc_InGap, sb_NoChange_FeastError, sb_NoChange_NoDate, sb_NoChange_InGap, sb_NoDate_NoChange, sb_NoDate_FeastError, sb_NoDate_InGap, sb_InGap_NoChange, sb_InGap_FeastError, sb_InGap_NoDate, xc_NoChange, sv_NoChange, xc_NoDate, sv_NoDate, xc_InGap, sv_InGap, _, (PySem.W.mg_of X G gc_Measure), cl_Measure, mk_Measure, na_Measure_base, na_Measure_terms, me_Measure_at, me_Measure_upto, me_Measure_period, me_Measure_seek, _, (PySem.W.mg_of X G gc_Sun), cl_Sun, mk_Sun, na_Sun_start, na_Sun_months, na_Sun_leap, na_Sun_years, me_Sun_year_start, me_Sun_lengths, me_Sun_year_at, me_Sun_date_of, me_Sun_day_of, _, (PySem.W.mg_of X G gc_Change), cl_Change, mk_Change, na_Change_old, na_Change_new, na_Change_day, na_Change_last, na_Change_first, me_Change_date_of, me_Change_day_of, in_NoDate_init, ti_NoDate_init, xf_NoDate, no_NoDate_date, ⟨⟨_, _, _, _, _, _, _, _, _, _, _, _, _, _, _, xl_NoDate, by first | rfl | decide +kernel⟩, sa_NoDate, bc_NoDate, tc_NoDate, kc_NoDate⟩, in_InGap_init, ti_InGap_init, xf_InGap, no_InGap_date, no_InGap_day, ⟨⟨_, _, _, _, _, _, _, _, _, _, _, _, _, _, _, xl_InGap, by first | rfl | decide +kernel⟩, sa_InGap, bc_InGap, tc_InGap, kc_InGap⟩, cr_FeastError, vi_FeastError⟩ : Txt K mg base)
end FW
open PySem PySem.W PyProof.Rows
set_option pp.maxSteps 300 in
set_option maxRecDepth 100000 in
set_option maxHeartbeats 0 in
theorem PySem.Challenge.cw_feastwheel_k46_a_change_of_years_holds : PySem.Challenge.rw_feastwheel_k46_a_change_of_years.Holds := by
  w_on; o_law; k_head; (case hw => w_witness2)
  k_fill
  refine LamX.walk_ofTs (l := PySem.Challenge.rw_feastwheel_k46_a_change_of_years) (n := 63) (k := 10) (x := "_law_script") (CX := fun _ => L2.CX0) rfl (by decide) rfl ⟨rfl, by decide, by decide⟩ (fun w h Y => PySem.W.km_in_of Y) ?F (fun _ _ _ _ _ h => h)
  case F =>
    intro w mg fa h Y KX G hmg
    refine' FW.all_mk KX G hmg ?gc_NoChange ?gc_FeastError ?gc_NoDate ?gc_InGap ?gc_Measure ?gc_Sun ?gc_Change ?in_Measure_period ?in_Measure_upto ?in_Measure_seek ?in_Sun_year_at ?in_Measure_at ?in_Sun_lengths ?in_Sun_year_start ?in_Calendar_date_of ?in_Change_date_of ?in_Measure_init ?in_Sun_init ?in_Change_init ?in_Calendar_day_of ?in_Change_day_of ?in_NoDate_init ?in_InGap_init ?a_sized ?a_divisor ?a_common ?a_counter ?a_term_on ?a_list_of ?a_many_fall ?a_is_term ?a_is_measure ?a_are_months ?a_Lchange ?a_Lcell_at ?a_Lnumber ?a_Llengths ?a_Lsum ?a_Lday ?a_Lturned ?a_Ltold ?a_Lhas ?a_Lwhole ?a_Ldue ?a_law ?l_sized ?l_divisor ?l_common ?l_Measure_period ?l_counter ?l_Measure_upto ?l_Measure_seek ?l_Sun_year_at ?l_term_on ?l_Measure_at ?l_Sun_lengths ?l_Sun_year_start ?l_Calendar_date_of ?l_Change_date_of ?l_list_of ?l_many_fall ?l_is_term ?l_is_measure ?l_Measure_init ?l_are_months ?l_Sun_init ?l_Change_init ?l_Lchange ?l_Lcell_at ?l_Lnumber ?l_Llengths ?l_Lsum ?l_Lday ?l_Lturned ?l_InGap_init ?l_NoDate_init ?l_Calendar_day_of ?l_Change_day_of ?l_Ltold ?l_Lhas ?l_Lwhole ?l_Ldue ?l_law ?dl_Measure_init ?dl_Sun_init ?dd_Measure_init ?dd_Sun_init ?c_sized ?k_sized ?c_divisor ?k_divisor ?c_common ?k_common ?c_Measure_period ?k_Measure_period ?tt_counter ?c_counter ?k_counter ?c_Measure_upto ?k_Measure_upto ?c_Measure_seek ?k_Measure_seek ?c_Sun_year_at ?k_Sun_year_at ?c_term_on ?k_term_on ?c_Measure_at ?k_Measure_at ?c_Sun_lengths ?k_Sun_lengths ?c_Sun_year_start ?k_Sun_year_start ?c_Calendar_date_of ?k_Calendar_date_of ?c_Change_date_of ?k_Change_date_of ?c_list_of ?k_list_of ?c_many_fall ?k_many_fall ?c_is_term ?k_is_term ?c_is_measure ?k_is_measure ?dv_Measure_init ?c_Measure_init ?k_Measure_init ?c_are_months ?k_are_months ?dv_Sun_init ?c_Sun_init ?k_Sun_init ?c_Change_init ?k_Change_init ?c_Lchange ?k_Lchange ?c_Lcell_at ?k_Lcell_at ?c_Lnumber ?k_Lnumber ?c_Llengths ?k_Llengths ?c_Lsum ?k_Lsum ?c_Lday ?k_Lday ?c_Lturned ?k_Lturned ?c_InGap_init ?k_InGap_init ?c_NoDate_init ?k_NoDate_init ?c_Calendar_day_of ?k_Calendar_day_of ?c_Change_day_of ?k_Change_day_of ?c_Ltold ?k_Ltold ?c_Lhas ?k_Lhas ?c_Lwhole ?k_Lwhole ?c_Ldue ?k_Ldue ?c_law ?k_law ?q_MOST_N ?q_MOST_BASE ?q_MOST_TERMS ?q_MOST_MONTHS ?q_MOST_DAYS ?z_abs ?z_all ?z_bool ?z_divmod ?z_int ?z_isinstance ?z_len ?z_list ?z_max ?z_min ?z_sum ?z_tuple ?x_NoChange ?kc_NoChange ?bc_NoChange ?tc_NoChange ?ic_NoChange ?sc_NoChange ?kc_FeastError ?bc_FeastError ?tc_FeastError ?ic_FeastError ?sc_FeastError ?kc_NoDate ?bc_NoDate ?tc_NoDate ?ic_NoDate ?sc_NoDate ?kc_InGap ?bc_InGap ?tc_InGap ?ic_InGap ?sc_InGap ?sb_NoChange_FeastError ?sb_NoChange_NoDate ?sb_NoChange_InGap ?sb_NoDate_NoChange ?sb_NoDate_FeastError ?sb_NoDate_InGap ?sb_InGap_NoChange ?sb_InGap_FeastError ?sb_InGap_NoDate ?xc_NoChange ?sv_NoChange ?xc_NoDate ?sv_NoDate ?xc_InGap ?sv_InGap ?xl_NoDate ?sa_NoDate ?xl_InGap ?sa_InGap ?cl_Measure ?mk_Measure ?na_Measure_base ?na_Measure_terms ?me_Measure_at ?me_Measure_upto ?me_Measure_period ?me_Measure_seek ?cl_Sun ?mk_Sun ?na_Sun_start ?na_Sun_months ?na_Sun_leap ?na_Sun_years ?me_Sun_year_start ?me_Sun_lengths ?me_Sun_year_at ?me_Sun_date_of ?me_Sun_day_of ?cl_Change ?mk_Change ?na_Change_old ?na_Change_new ?na_Change_day ?na_Change_last ?na_Change_first ?me_Change_date_of ?me_Change_day_of ?ti_NoDate_init ?xf_NoDate ?no_NoDate_date ?ti_InGap_init ?xf_InGap ?no_InGap_date ?no_InGap_day ?cr_FeastError ?vi_FeastError ?tabs
    (case tabs => intro c P e; have e2 := PySem.W.km_tabs_of Y; exact FW.tabs_of e2 e (by kernel_rfl))
    (case gc_NoChange => first | k_is | rfl)
    (case gc_FeastError => first | k_is | rfl)
    (case gc_NoDate => first | k_is | rfl)
    (case gc_InGap => first | k_is | rfl)
    (case gc_Measure => first | k_is | rfl)
    (case gc_Sun => first | k_is | rfl)
    (case gc_Change => first | k_is | rfl)
    (case in_Measure_period => first | k_is | rfl)
    (case in_Measure_upto => first | k_is | rfl)
    (case in_Measure_seek => first | k_is | rfl)
    (case in_Sun_year_at => first | k_is | rfl)
    (case in_Measure_at => first | k_is | rfl)
    (case in_Sun_lengths => first | k_is | rfl)
    (case in_Sun_year_start => first | k_is | rfl)
    (case in_Calendar_date_of => first | k_is | rfl)
    (case in_Change_date_of => first | k_is | rfl)
    (case in_Measure_init => first | k_is | rfl)
    (case in_Sun_init => first | k_is | rfl)
    (case in_Change_init => first | k_is | rfl)
    (case in_Calendar_day_of => first | k_is | rfl)
    (case in_Change_day_of => first | k_is | rfl)
    (case in_NoDate_init => first | k_is | rfl)
    (case in_InGap_init => first | k_is | rfl)
    (case a_sized => first | k_is | rfl)
    (case a_divisor => first | k_is | rfl)
    (case a_common => first | k_is | rfl)
    (case a_counter => first | k_is | rfl)
    (case a_term_on => first | k_is | rfl)
    (case a_list_of => first | k_is | rfl)
    (case a_many_fall => first | k_is | rfl)
    (case a_is_term => first | k_is | rfl)
    (case a_is_measure => first | k_is | rfl)
    (case a_are_months => first | k_is | rfl)
    (case a_Lchange => first | k_is | rfl)
    (case a_Lcell_at => first | k_is | rfl)
    (case a_Lnumber => first | k_is | rfl)
    (case a_Llengths => first | k_is | rfl)
    (case a_Lsum => first | k_is | rfl)
    (case a_Lday => first | k_is | rfl)
    (case a_Lturned => first | k_is | rfl)
    (case a_Ltold => first | k_is | rfl)
    (case a_Lhas => first | k_is | rfl)
    (case a_Lwhole => first | k_is | rfl)
    (case a_Ldue => first | k_is | rfl)
    (case a_law => first | k_is | rfl)
    (case l_sized => first | k_is | rfl)
    (case l_divisor => first | k_is | rfl)
    (case l_common => first | k_is | rfl)
    (case l_Measure_period => first | k_is | rfl)
    (case l_counter => first | k_is | rfl)
    (case l_Measure_upto => first | k_is | rfl)
    (case l_Measure_seek => first | k_is | rfl)
    (case l_Sun_year_at => first | k_is | rfl)
    (case l_term_on => first | k_is | rfl)
    (case l_Measure_at => first | k_is | rfl)
    (case l_Sun_lengths => first | k_is | rfl)
    (case l_Sun_year_start => first | k_is | rfl)
    (case l_Calendar_date_of => first | k_is | rfl)
    (case l_Change_date_of => first | k_is | rfl)
    (case l_list_of => first | k_is | rfl)
    (case l_many_fall => first | k_is | rfl)
    (case l_is_term => first | k_is | rfl)
    (case l_is_measure => first | k_is | rfl)
    (case l_Measure_init => first | k_is | rfl)
    (case l_are_months => first | k_is | rfl)
    (case l_Sun_init => first | k_is | rfl)
    (case l_Change_init => first | k_is | rfl)
    (case l_Lchange => first | k_is | rfl)
    (case l_Lcell_at => first | k_is | rfl)
    (case l_Lnumber => first | k_is | rfl)
    (case l_Llengths => first | k_is | rfl)
    (case l_Lsum => first | k_is | rfl)
    (case l_Lday => first | k_is | rfl)
    (case l_Lturned => first | k_is | rfl)
    (case l_InGap_init => first | k_is | rfl)
    (case l_NoDate_init => first | k_is | rfl)
    (case l_Calendar_day_of => first | k_is | rfl)
    (case l_Change_day_of => first | k_is | rfl)
    (case l_Ltold => first | k_is | rfl)
    (case l_Lhas => first | k_is | rfl)
    (case l_Lwhole => first | k_is | rfl)
    (case l_Ldue => first | k_is | rfl)
    (case l_law => first | k_is | rfl)
    (case dl_Measure_init => first | k_is | rfl)
    (case dl_Sun_init => first | k_is | rfl)
    (case dd_Measure_init => first | rfl | (repeat (first | exact .nil | refine .cons (by first | rfl | exact ⟨_, rfl⟩) ?_)))
    (case dd_Sun_init => first | rfl | (repeat (first | exact .nil | refine .cons (by first | rfl | exact ⟨_, rfl⟩) ?_)))
    (case c_sized => first | k_is | rfl)
    (case k_sized => first | k_is | rfl)
    (case c_divisor => first | k_is | rfl)
    (case k_divisor => first | k_is | rfl)
    (case c_common => first | k_is | rfl)
    (case k_common => first | k_is | rfl)
    (case c_Measure_period => first | k_is | rfl)
    (case k_Measure_period => first | k_is | rfl)
    (case tt_counter => first | k_is | rfl)
    (case c_counter => first | k_is | rfl)
    (case k_counter => first | k_is | rfl)
    (case c_Measure_upto => first | k_is | rfl)
    (case k_Measure_upto => first | k_is | rfl)
    (case c_Measure_seek => first | k_is | rfl)
    (case k_Measure_seek => first | k_is | rfl)
    (case c_Sun_year_at => first | k_is | rfl)
    (case k_Sun_year_at => first | k_is | rfl)
    (case c_term_on => first | k_is | rfl)
    (case k_term_on => first | k_is | rfl)
    (case c_Measure_at => first | k_is | rfl)
    (case k_Measure_at => first | k_is | rfl)
    (case c_Sun_lengths => first | k_is | rfl)
    (case k_Sun_lengths => first | k_is | rfl)
    (case c_Sun_year_start => first | k_is | rfl)
    (case k_Sun_year_start => first | k_is | rfl)
    (case c_Calendar_date_of => first | k_is | rfl)
    (case k_Calendar_date_of => first | k_is | rfl)
    (case c_Change_date_of => first | k_is | rfl)
    (case k_Change_date_of => first | k_is | rfl)
    (case c_list_of => first | k_is | rfl)
    (case k_list_of => first | k_is | rfl)
    (case c_many_fall => first | k_is | rfl)
    (case k_many_fall => first | k_is | rfl)
    (case c_is_term => first | k_is | rfl)
    (case k_is_term => first | k_is | rfl)
    (case c_is_measure => first | k_is | rfl)
    (case k_is_measure => first | k_is | rfl)
    (case dv_Measure_init => first | rfl | (repeat (first | exact .nil | refine .cons (by first | rfl | exact ⟨_, rfl⟩) ?_)))
    (case c_Measure_init => first | k_is | rfl)
    (case k_Measure_init => first | k_is | rfl)
    (case c_are_months => first | k_is | rfl)
    (case k_are_months => first | k_is | rfl)
    (case dv_Sun_init => first | rfl | (repeat (first | exact .nil | refine .cons (by first | rfl | exact ⟨_, rfl⟩) ?_)))
    (case c_Sun_init => first | k_is | rfl)
    (case k_Sun_init => first | k_is | rfl)
    (case c_Change_init => first | k_is | rfl)
    (case k_Change_init => first | k_is | rfl)
    (case c_Lchange => first | k_is | rfl)
    (case k_Lchange => first | k_is | rfl)
    (case c_Lcell_at => first | k_is | rfl)
    (case k_Lcell_at => first | k_is | rfl)
    (case c_Lnumber => first | k_is | rfl)
    (case k_Lnumber => first | k_is | rfl)
    (case c_Llengths => first | k_is | rfl)
    (case k_Llengths => first | k_is | rfl)
    (case c_Lsum => first | k_is | rfl)
    (case k_Lsum => first | k_is | rfl)
    (case c_Lday => first | k_is | rfl)
    (case k_Lday => first | k_is | rfl)
    (case c_Lturned => first | k_is | rfl)
    (case k_Lturned => first | k_is | rfl)
    (case c_InGap_init => first | k_is | rfl)
    (case k_InGap_init => first | k_is | rfl)
    (case c_NoDate_init => first | k_is | rfl)
    (case k_NoDate_init => first | k_is | rfl)
    (case c_Calendar_day_of => first | k_is | rfl)
    (case k_Calendar_day_of => first | k_is | rfl)
    (case c_Change_day_of => first | k_is | rfl)
    (case k_Change_day_of => first | k_is | rfl)
    (case c_Ltold => first | k_is | rfl)
    (case k_Ltold => first | k_is | rfl)
    (case c_Lhas => first | k_is | rfl)
    (case k_Lhas => first | k_is | rfl)
    (case c_Lwhole => first | k_is | rfl)
    (case k_Lwhole => first | k_is | rfl)
    (case c_Ldue => first | k_is | rfl)
    (case k_Ldue => first | k_is | rfl)
    (case c_law => first | k_is | rfl)
    (case k_law => first | k_is | rfl)
    (case q_MOST_N => first | k_is | rfl)
    (case q_MOST_BASE => first | k_is | rfl)
    (case q_MOST_TERMS => first | k_is | rfl)
    (case q_MOST_MONTHS => first | k_is | rfl)
    (case q_MOST_DAYS => first | k_is | rfl)
    (case z_abs => first | k_is | rfl)
    (case z_all => first | k_is | rfl)
    (case z_bool => first | k_is | rfl)
    (case z_divmod => first | k_is | rfl)
    (case z_int => first | k_is | rfl)
    (case z_isinstance => first | k_is | rfl)
    (case z_len => first | k_is | rfl)
    (case z_list => first | k_is | rfl)
    (case z_max => first | k_is | rfl)
    (case z_min => first | k_is | rfl)
    (case z_sum => first | k_is | rfl)
    (case z_tuple => first | k_is | rfl)
    (case x_NoChange => k_exc)
    (case kc_NoChange => first | k_is | rfl)
    (case bc_NoChange => first | k_is | rfl)
    (case tc_NoChange => first | k_is | rfl)
    (case ic_NoChange => first | k_is | rfl)
    (case sc_NoChange => first | k_is | rfl)
    (case kc_FeastError => first | k_is | rfl)
    (case bc_FeastError => first | k_is | rfl)
    (case tc_FeastError => first | k_is | rfl)
    (case ic_FeastError => first | k_is | rfl)
    (case sc_FeastError => first | k_is | rfl)
    (case kc_NoDate => first | k_is | rfl)
    (case bc_NoDate => first | k_is | rfl)
    (case tc_NoDate => first | k_is | rfl)
    (case ic_NoDate => first | k_is | rfl)
    (case sc_NoDate => first | k_is | rfl)
    (case kc_InGap => first | k_is | rfl)
    (case bc_InGap => first | k_is | rfl)
    (case tc_InGap => first | k_is | rfl)
    (case ic_InGap => first | k_is | rfl)
    (case sc_InGap => first | k_is | rfl)
    (case sb_NoChange_FeastError => first | k_is | rfl)
    (case sb_NoChange_NoDate => first | k_is | rfl)
    (case sb_NoChange_InGap => first | k_is | rfl)
    (case sb_NoDate_NoChange => first | k_is | rfl)
    (case sb_NoDate_FeastError => first | k_is | rfl)
    (case sb_NoDate_InGap => first | k_is | rfl)
    (case sb_InGap_NoChange => first | k_is | rfl)
    (case sb_InGap_FeastError => first | k_is | rfl)
    (case sb_InGap_NoDate => first | k_is | rfl)
    (case xc_NoChange => constructor <;> first | k_is | rfl)
    (case sv_NoChange => first | k_is | rfl)
    (case xc_NoDate => constructor <;> first | k_is | rfl)
    (case sv_NoDate => first | k_is | rfl)
    (case xc_InGap => constructor <;> first | k_is | rfl)
    (case sv_InGap => first | k_is | rfl)
    (case xl_NoDate => first | k_is | rfl)
    (case sa_NoDate => first | k_is | rfl)
    (case xl_InGap => first | k_is | rfl)
    (case sa_InGap => first | k_is | rfl)
    (case cl_Measure => constructor <;> first | k_is | rfl)
    (case mk_Measure => constructor <;> first | k_is | rfl)
    (case na_Measure_base => first | k_is | rfl)
    (case na_Measure_terms => first | k_is | rfl)
    (case me_Measure_at => constructor <;> first | k_is | rfl)
    (case me_Measure_upto => constructor <;> first | k_is | rfl)
    (case me_Measure_period => constructor <;> first | k_is | rfl)
    (case me_Measure_seek => constructor <;> first | k_is | rfl)
    (case cl_Sun => constructor <;> first | k_is | rfl)
    (case mk_Sun => constructor <;> first | k_is | rfl)
    (case na_Sun_start => first | k_is | rfl)
    (case na_Sun_months => first | k_is | rfl)
    (case na_Sun_leap => first | k_is | rfl)
    (case na_Sun_years => first | k_is | rfl)
    (case me_Sun_year_start => constructor <;> first | k_is | rfl)
    (case me_Sun_lengths => constructor <;> first | k_is | rfl)
    (case me_Sun_year_at => constructor <;> first | k_is | rfl)
    (case me_Sun_date_of => constructor <;> first | k_is | rfl)
    (case me_Sun_day_of => constructor <;> first | k_is | rfl)
    (case cl_Change => constructor <;> first | k_is | rfl)
    (case mk_Change => constructor <;> first | k_is | rfl)
    (case na_Change_old => first | k_is | rfl)
    (case na_Change_new => first | k_is | rfl)
    (case na_Change_day => first | k_is | rfl)
    (case na_Change_last => first | k_is | rfl)
    (case na_Change_first => first | k_is | rfl)
    (case me_Change_date_of => constructor <;> first | k_is | rfl)
    (case me_Change_day_of => constructor <;> first | k_is | rfl)
    (case ti_NoDate_init => first | k_is | rfl)
    (case xf_NoDate => constructor <;> first | k_is | rfl)
    (case no_NoDate_date => first | k_is | rfl)
    (case ti_InGap_init => first | k_is | rfl)
    (case xf_InGap => constructor <;> first | k_is | rfl)
    (case no_InGap_date => first | k_is | rfl)
    (case no_InGap_day => first | k_is | rfl)
    (case cr_FeastError => constructor <;> first | k_is | rfl)
    (case vi_FeastError => first | k_is | rfl)
