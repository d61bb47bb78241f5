import PyProof.Rows.All
import Wide.All
import OpenK.AllK
import Wide.FinOn
import HandS.ForMost
import HandS.Exc
import HandS.Wide
import HandS.WideBits
import HandS.IsInst
import HandS.Flow
import HandS.EndBits
import HandS.Conv
import HandS.Zip
import HandS.ExcIs
import HandS.ExcField
import HandS.TryMany
import KE.KExcIs
import HandS.HotCalls
import HandS.ForExc
import HandS.ExcInit
import HandS.ClsMeth
import PySem.Challenge.RW_feastwheel_k58_too_long_to_meet
set_option Elab.async false
set_option linter.all false
set_option maxRecDepth 100000
set_option maxHeartbeats 4000000
namespace FW
open PySem PySem.Spec PyProof.Rows L2
/-! ### heaps -/
theorem same_t {K : PySem.W.Frag} {H H' : Hp} {a : Addr} {xs : List V} (e : Same H H') (h : SqT K H a xs) : SqT K H' a xs := by
  rcases h with (h | ⟨o, h⟩) | h
  · exact .inl (.inl (e _ _ h))
  · exact .inl (.inr ⟨o, e _ _ h⟩)
  · exact .inr h
theorem same_l {K : PySem.W.Frag} {H H' : Hp} {a : Addr} {xs : List V} (e : Same H H') (h : SqL K H a xs) : SqL K H' a xs := e.seq h
theorem same_at {H H' : Hp} {a : Addr} {o : HO} (e : Same H H') (h : H a = some o) : H' a = some o := e _ _ h
theorem same_new {H : Hp} {p : Addr} {o : HO} (h : H p = none) : Same H (upd H p o) := fun b x e => by
  rw [upd_ne (ne_of_none e h)]
  exact e
theorem same_mut {H H' : Hp} {p : Addr} {o : HO} (e : Same H H') (h : H p = none) : Same H (upd H' p o) := fun a u ha => by
  rw [upd_ne (ne_of_none ha h)]
  exact e a u ha
section
variable {K : PySem.W.Frag} {σ : L2.St} {H H1 : Hp} {Q : VK} {D : Ends} {i : Nat} {v x y : V} {ta tb tc te : TE} {t u : TT} {tr : TA} {m n : Int} {a b : Int} {r r' : R2}
/-! ### steps: expressions -/
theorem k_var (h : σ[i]? = some (some v)) (q : Q v H) : tVar i σ H Q := ⟨v, h, q⟩
theorem k_c (q : Q v H) : tC v σ H Q := q
theorem k_op (h : ta σ H fun x H1 => tb σ H1 fun y H2 => r x y H2 Q) : tOp r ta tb σ H Q := h
theorem k_un {r : V → Hp → VK → Prop} (h : ta σ H fun x H1 => r x H1 Q) : tUn r ta σ H Q := h
theorem k_I0 {g : Int → Int → V} (q : Q (g a b) H) : rI0 g (.int a) (.int b) H Q := ⟨a, b, rfl, rfl, q⟩
theorem k_I {C : Int → Int → Prop} {g : Int → Int → V} (c : C a b) (q : Q (g a b) H) : rI C g (.int a) (.int b) H Q := ⟨a, b, rfl, rfl, c, q⟩
theorem k_U {g : Int → V} (q : Q (g a) H) : rU g (.int a) H Q := ⟨a, rfl, q⟩
theorem k_nil {Q : List V → Hp → Prop} (q : Q [] H) : tNil σ H Q := q
theorem k_cons {Q : List V → Hp → Prop} (h : ta σ H fun x H1 => tr σ H1 fun xs H2 => Q (x :: xs) H2) : tCons ta tr σ H Q := h
theorem k_cb {r : List V → Hp → VK → Prop} (h : tr σ H fun vs H1 => r vs H1 Q) : tCB r tr σ H Q := h
theorem k_call {sp : Sp} {E : XK} (h : tr σ H fun vs H1 => sp vs H1 Q E) : tCall sp [] E tr σ H Q := by
  show tr σ H fun vs H1 => sp (vs ++ []) H1 Q E
  simp only [List.append_nil]
  exact h
def NewT (xs : List V) (H : Hp) (Q : VK) : Prop := xs.length ≤ sizeLine ∧ ∀ p, H p = none → Q (.ref p) (upd H p (.tup xs))
def NewL (xs : List V) (H : Hp) (Q : VK) : Prop := xs.length ≤ sizeLine ∧ ∀ p, H p = none → Q (.ref p) (upd H p (.lst xs))
theorem k_tup (h : tr σ H fun xs H1 => NewT xs H1 Q) : tTup tr σ H Q := h
theorem k_lst (h : tr σ H fun xs H1 => NewL xs H1 Q) : tLst tr σ H Q := h
theorem k_newtup {xs : List V} (hl : xs.length ≤ 1000) (h : ∀ p H2, H p = none → Same H H2 → H2 p = some (.tup xs) → Q (.ref p) H2) : NewT xs H Q :=
  ⟨Nat.le_trans hl (by decide), fun p hp => h p _ hp (same_new hp) upd_same⟩
theorem k_newlst {xs : List V} (hl : xs.length ≤ 1000) (h : ∀ p H2, H p = none → Same H H2 → H2 p = some (.lst xs) → Q (.ref p) H2) : NewL xs H Q :=
  ⟨Nat.le_trans hl (by decide), fun p hp => h p _ hp (same_new hp) upd_same⟩
theorem k_ifx {Q : VK} (h : t σ H fun c H1 => if c = true then ta σ H1 Q else tb σ H1 Q) : tIf t ta tb σ H Q := h
theorem k_andV (h : ta σ H fun x H1 => ∃ c, x = .bl c ∧ if c = true then tb σ H1 Q else Q (.bl false) H1) : tAndV ta tb σ H Q := h
theorem k_orV (h : ta σ H fun x H1 => ∃ c, x = .bl c ∧ if c = true then Q (.bl true) H1 else tb σ H1 Q) : tOrV ta tb σ H Q := h
theorem k_notV (h : ta σ H fun x H1 => ∃ c, x = .bl c ∧ Q (.bl (!c)) H1) : tNotV ta σ H Q := h
theorem k_chain (h : ta σ H fun x H1 => tb σ H1 fun y H2 => r x y H2 fun z H3 => ∃ k, z = .bl k ∧ (if k = true then tc σ H3 fun w' H4 => r' y w' H4 Q else Q (.bl false) H3)) : tChain r r' ta tb tc σ H Q := h
theorem k_and2 {i j : Nat} {x y : Bool} (h1 : σ[i]? = some (some (.bl x))) (h2 : σ[j]? = some (some (.bl y))) (q : Q (.bl (x && y)) H) : tAndV (tVar i) (tVar j) σ H Q :=
  ⟨_, h1, x, rfl, by cases x with
    | true => rw [if_pos rfl]; exact ⟨_, h2, q⟩
    | false => rw [if_neg Bool.false_ne_true]; exact q⟩
theorem k_or2 {i j : Nat} {x y : Bool} (h1 : σ[i]? = some (some (.bl x))) (h2 : σ[j]? = some (some (.bl y))) (q : Q (.bl (x || y)) H) : tOrV (tVar i) (tVar j) σ H Q :=
  ⟨_, h1, x, rfl, by cases x with
    | true => rw [if_pos rfl]; exact q
    | false => rw [if_neg Bool.false_ne_true]; exact ⟨_, h2, q⟩⟩
theorem k_andn2 {i j : Nat} {x y : Bool} (h1 : σ[i]? = some (some (.bl x))) (h2 : σ[j]? = some (some (.bl y))) (q : Q (.bl (x && !y)) H) : tAndV (tVar i) (tNotV (tVar j)) σ H Q :=
  ⟨_, h1, x, rfl, by cases x with
    | true => rw [if_pos rfl]; exact ⟨_, h2, _, rfl, q⟩
    | false => rw [if_neg Bool.false_ne_true]; exact q⟩
/-- a truth value told -/
theorem k_bl {p : Bool → Prop} {c : Bool} (h : p c) : ∃ k, V.bl c = .bl k ∧ p k := ⟨c, rfl, h⟩
/-! ### steps: tests -/
theorem k_test {Q : Bool → Hp → Prop} (h : ta σ H fun x H' => ∃ k, x = .bl k ∧ Q k H') : tTest ta σ H Q := h
theorem k_B {Q : Bool → Hp → Prop} (h : ta σ H fun x H' => ∃ k, x = .bl k ∧ Q k H') : tB ta σ H Q := h
theorem k_and {Q : Bool → Hp → Prop} (h : t σ H fun c H1 => if c = true then u σ H1 Q else Q false H1) : tAnd t u σ H Q := h
theorem k_or {Q : Bool → Hp → Prop} (h : t σ H fun c H1 => if c = true then Q true H1 else u σ H1 Q) : tOr t u σ H Q := h
theorem k_not {Q : Bool → Hp → Prop} (h : t σ H fun c H1 => Q (!c) H1) : tNot t σ H Q := h
/-! ### branches -/
theorem if_dec {p A B : Prop} [Decidable p] (h1 : p → A) (h2 : ¬ p → B) : if decide p = true then A else B := by
  by_cases h : p
  · rw [if_pos (decide_eq_true h)]; exact h1 h
  · rw [if_neg (by rw [decide_eq_false h]; decide)]; exact h2 h
theorem if_ndec {p A B : Prop} [Decidable p] (h1 : ¬ p → A) (h2 : p → B) : if (!decide p) = true then A else B := by
  by_cases h : p
  · rw [if_neg (by rw [decide_eq_true h]; decide)]; exact h2 h
  · rw [if_pos (by rw [decide_eq_false h]; rfl)]; exact h1 h
theorem if_b {c : Bool} {A B : Prop} (h1 : c = true → A) (h2 : c = false → B) : if c = true then A else B := by
  cases c with
  | true => rw [if_pos rfl]; exact h1 rfl
  | false => rw [if_neg Bool.false_ne_true]; exact h2 rfl
theorem if_t {A B : Prop} (h : A) : if true = true then A else B := iteT h
theorem if_f {A B : Prop} (h : B) : if false = true then A else B := iteF h
theorem if_nt {A B : Prop} (h : A) : if (!false) = true then A else B := iteT h
theorem if_nf {A B : Prop} (h : B) : if (!true) = true then A else B := iteF h
theorem fin_t {c : Bool} (hc : c = true) (q : Q (.bl true) H) : Q (.bl c) H := by rw [hc]; exact q
/-! ### steps: statements -/
theorem k_seq {t u : TS} (h : t { D with nx := u D } σ H) : tSeq t u D σ H := h
theorem k_seqA {g : TG} {u : TS} (h : tAsg te g { D with nx := u D } σ H) : tSeq (tAsg te g) u D σ H := h
theorem k_seqD {u : TS} (h : tDrop te { D with nx := u D } σ H) : tSeq (tDrop te) u D σ H := h
theorem k_seqP {i j : Nat} {u : TS} (h : tPar i j tr { D with nx := u D } σ H) : tSeq (tPar i j tr) u D σ H := h
theorem k_seqI {t u : TS} {c : TT} {w : TS} (h : c σ H fun b H1 => if b = true then t { D with nx := w D } σ H1 else u { D with nx := w D } σ H1) : tSeq (tIfS c t u) w D σ H := h
theorem k_nx {f : L2.St → Hp → Prop} {r : VK} {b c : L2.St → Hp → Prop} (h : f σ H) : Ends.nx ⟨f, r, b, c⟩ σ H := h
theorem k_rt {f : L2.St → Hp → Prop} {r : VK} {b c : L2.St → Hp → Prop} (h : r v H) : Ends.rt ⟨f, r, b, c⟩ v H := h
theorem k_next (h : D.nx σ H) : tNext D σ H := h
theorem k_asg {i : Nat} (h : te σ H fun x H1 => D.nx (σ.set i (some x)) H1) : tAsg te (gName i) D σ H := h
theorem k_asgG {g : TG} (h : te σ H fun x H1 => g x σ H1 D.nx) : tAsg te g D σ H := h
theorem k_gname {Q : L2.St → Hp → Prop} (h : Q (σ.set i (some v)) H) : gName i v σ H Q := h
theorem k_gtup {tg : TGs} {n : Nat} {p : Addr} {xs : List V} {Q : L2.St → Hp → Prop} (h : SqT K H p xs) (hl : xs.length = n) (q : tg xs σ H Q) : gTup K n tg (.ref p) σ H Q := ⟨p, xs, rfl, h, hl, q⟩
theorem k_gcons {tg : TG} {ug : TGs} {vs : List V} {Q : L2.St → Hp → Prop} (q : tg v σ H fun σ' H' => ug vs σ' H' Q) : gCons tg ug (v :: vs) σ H Q := ⟨v, vs, rfl, q⟩
theorem k_gnil {Q : L2.St → Hp → Prop} (q : Q σ H) : gNil [] σ H Q := ⟨rfl, q⟩
theorem k_par {i j : Nat} (h : tr σ H fun vs H1 => ∃ v w, vs = [v, w] ∧ D.nx ((σ.set i (some v)).set j (some w)) H1) : tPar i j tr D σ H := h
theorem k_par2 {P : V → V → Prop} {x y : V} (h : P x y) : ∃ v w, [x, y] = [v, w] ∧ P v w := ⟨x, y, rfl, h⟩
theorem k_drop (h : te σ H fun _ H1 => D.nx σ H1) : tDrop te D σ H := h
theorem k_ret (h : te σ H D.rt) : tRet te D σ H := h
theorem k_retN (h : D.rt .non H) : tRetN D σ H := h
theorem k_if {t u : TS} {c : TT} (h : c σ H fun b H1 => if b = true then t D σ H1 else u D σ H1) : tIfS c t u D σ H := h
theorem k_cutI {t u w : TS} {c : TT} (P : L2.St → Hp → Prop) (h1 : ∀ N : L2.St → Hp → Prop, (∀ σ' H', P σ' H' → N σ' H') → c σ H fun b H1 => if b = true then t { D with nx := N } σ H1 else u { D with nx := N } σ H1) (h2 : ∀ σ' H', P σ' H' → w D σ' H') : tSeq (tIfS c t u) w D σ H := h1 _ h2
/-- the ways of a statement meet again: what holds behind it -/
theorem k_cut {t u : TS} (P : L2.St → Hp → Prop) (h1 : ∀ N : L2.St → Hp → Prop, (∀ σ' H', P σ' H' → N σ' H') → t { D with nx := N } σ H) (h2 : ∀ σ' H', P σ' H' → u D σ' H') : tSeq t u D σ H := h1 _ h2
/-! ### loops -/
theorem k_seqW {t : TT} {tb u : TS} (h : tWhile t tb { D with nx := u D } σ H) : tSeq (tWhile t tb) u D σ H := h
theorem k_seqF {wi : TI} {g : TG} {tb u : TS} (h : tFor wi g tb { D with nx := u D } σ H) : tSeq (tFor wi g tb) u D σ H := h
theorem k_while {t : TT} {tb : TS} (W : Nat → L2.St → Hp → Prop) (m : Nat) (h0 : W m σ H) (hs : ∀ m σ H, W m σ H → t σ H fun b H1 => if b = true then ∃ N : L2.St → Hp → Prop, (∀ σ' H', N σ' H' → ∃ m', m' < m ∧ W m' σ' H') ∧ tb { D with nx := N, ct := N, bk := D.nx } σ H1 else D.nx σ H1) : tWhile t tb D σ H := ⟨W, ⟨m, h0⟩, hs⟩
theorem k_turn {tb : TS} {W : Nat → L2.St → Hp → Prop} {m : Nat} (h : tb { D with nx := fun σ' H' => ∃ m', m' < m ∧ W m' σ' H', ct := fun σ' H' => ∃ m', m' < m ∧ W m' σ' H', bk := D.nx } σ H) : ∃ N : L2.St → Hp → Prop, (∀ σ' H', N σ' H' → ∃ m', m' < m ∧ W m' σ' H') ∧ tb { D with nx := N, ct := N, bk := D.nx } σ H := ⟨_, fun _ _ h => h, h⟩
def ForG (J : It) (g : TG) (tb : TS) (D : Ends) (σ : L2.St) (H1 : Hp) : Prop := ∃ W : Nat → Nat → L2.St → Hp → Prop, (∃ m, W 0 m σ H1) ∧ ∀ i m σ H, W i m σ H →
  (J.stop i H ∧ D.nx σ H) ∨ (J.go i H ∧ ∃ N : L2.St → Hp → Prop, (∀ σ' H', N σ' H' → ∃ m', m' < m ∧ W (i + 1) m' σ' H') ∧ ∀ x H', J.yld i H x H' → g x σ H' fun σ2 H2 => tb { D with nx := N, ct := N, bk := D.nx } σ2 H2)
theorem k_for {wi : TI} {g : TG} {tb : TS} (h : wi σ H fun J H1 => ForG J g tb D σ H1) : tFor wi g tb D σ H := h
/-! ### comprehensions over a range -/
def Rng1 (vs : List V) (H : Hp) (R : It → Hp → Prop) : Prop := ∃ j : Int, vs = [.int j] ∧ -(2 ^ 62) ≤ j ∧ j < 2 ^ 62 ∧ R (Itr 0 j.toNat) H
def Rng2 (vs : List V) (H : Hp) (R : It → Hp → Prop) : Prop := ∃ i j : Int, vs = [.int i, .int j] ∧ (-(2 ^ 62) ≤ i ∧ i < 2 ^ 62 ∧ -(2 ^ 62) ≤ j ∧ j < 2 ^ 62) ∧ R (Itr i (j - i).toNat) H
theorem k_irng1 {R : It → Hp → Prop} (h : tr σ H fun vs H1 => Rng1 vs H1 R) : iRng1 tr σ H R := h
theorem k_irng2 {R : It → Hp → Prop} (h : tr σ H fun vs H1 => Rng2 vs H1 R) : iRng2 tr σ H R := h
theorem k_rng1 {n : Int} {R : It → Hp → Prop} (h0 : -(2 ^ 62) ≤ n ∧ n < 2 ^ 62) (h : R (Itr 0 n.toNat) H) : Rng1 [V.int n] H R := ⟨n, rfl, h0.1, h0.2, h⟩
theorem k_rng2 {n : Int} {R : It → Hp → Prop} (h0 : -(2 ^ 62) ≤ m ∧ m < 2 ^ 62 ∧ -(2 ^ 62) ≤ n ∧ n < 2 ^ 62) (h : R (Itr m (n - m).toNat) H) : Rng2 [V.int m, V.int n] H R := ⟨m, n, rfl, h0, h⟩
def LcG (J : It) (H1 : Hp) (g : TG) (tt : TT) (te : TE) (vs : List Nat) (σ : L2.St) (Q : VK) : Prop := ∀ D, H1 D = none → ∃ W : Nat → Nat → Hp → Prop, (∃ m, W 0 m (upd H1 D (.lst []))) ∧ ∀ i m H, W i m H →
  (J.stop i H ∧ Q (.ref D) H) ∨ (J.go i H ∧ ∃ Nx : Hp → Prop, (∀ H', Nx H' → ∃ m', m' < m ∧ W (i + 1) m' H') ∧ ∀ x H', J.yld i H x H' → g x (wipe σ vs) H' fun σ2 H2 => wipe σ2 vs = wipe σ vs ∧ tt σ2 H2 fun b H3 =>
    if b = true then te σ2 H3 fun y H4 => ∃ acc, H4 D = some (.lst acc) ∧ acc.length < sizeLine ∧ Nx (upd H4 D (.lst (acc ++ [y]))) else Nx H3)
theorem k_lc {wi : TI} {g : TG} {tt : TT} {vs : List Nat} (h : wi σ H fun J H1 => LcG J H1 g tt te vs σ Q) : tLc wi g tt te vs σ H Q := h
/-- [e for k in range(..)]: the list of the values, each told by its place -/
theorem k_lcr {lo : Int} {n j : Nat} (L : List V) (hl : L.length = n) (hz : n ≤ 1000000)
    (hs : ∀ (i : Nat) (v : V) (H2 : Hp) (R : VK), L[i]? = some v → Same H1 H2 → (∀ H3, Same H2 H3 → R v H3) → te (σ.set j (some (.int (lo + i)))) H2 R)
    (q : ∀ D H2, H1 D = none → Same H1 H2 → H2 D = some (.lst L) → Q (.ref D) H2) :
    LcG (Itr lo n) H1 (gName j) tYes te [j] σ Q := by
  intro D hD
  refine lc_range (fun i H' => Same H1 H' ∧ H' D = some (.lst (L.take i))) ⟨same_new hD, by rw [upd_same]; rfl⟩ (fun i H' hi ⟨sm, hd⟩ => ?_) (fun H' ⟨sm, hd⟩ => q D H' hD sm (by rw [hd, List.take_of_length_le (by omega)]))
  have ew : ∀ y : V, (wipe σ [j]).set j (some y) = σ.set j (some y) := fun y => by
    show ((σ.set j none).set j (some y)) = _
    rw [List.set_set]
  show wipe ((wipe σ [j]).set j _) [j] = wipe σ [j] ∧ _
  rw [ew]
  refine ⟨by show (σ.set j _).set j none = σ.set j none; rw [List.set_set], ?_⟩
  refine hs i (L[i]'(by omega)) H' _ (List.getElem?_eq_getElem (by omega)) sm fun H3 s3 => ?_
  refine ⟨L.take i, s3 _ _ hd, Nat.lt_of_le_of_lt (Nat.le_trans (by rw [List.length_take]; exact Nat.min_le_left _ _) (show i ≤ 1000000 by omega)) (by rw [sizeLine_eq]; decide), same_mut (sm.trans s3) hD, ?_⟩
  rw [upd_same, List.take_add_one, List.getElem?_eq_getElem (show i < L.length by omega)]
  rfl
/-! ### comprehensions and loops over a list, a tuple -/
def SqI (J : Addr → It) (ok : Addr → Hp → Prop) (x : V) (H : Hp) (R : It → Hp → Prop) : Prop := ∃ a, x = .ref a ∧ ok a H ∧ R (J a) H
theorem k_itup {tl : TE} {R : It → Hp → Prop} (h : tl σ H fun x H1 => SqI (Itt K) (fun a H => ∃ xs, SqT K H a xs) x H1 R) : iTup K tl σ H R := h
theorem k_ilst {tl : TE} {R : It → Hp → Prop} (h : tl σ H fun x H1 => SqI (Itl K) (fun a H => ∃ xs, SqL K H a xs) x H1 R) : iList K tl σ H R := h
theorem k_sqt {p : Addr} {xs : List V} {R : It → Hp → Prop} (h : SqT K H p xs) (q : R (Itt K p) H) : SqI (Itt K) (fun a H => ∃ xs, SqT K H a xs) (.ref p) H R := ⟨p, rfl, ⟨xs, h⟩, q⟩
theorem k_sql {p : Addr} {xs : List V} {R : It → Hp → Prop} (h : SqL K H p xs) (q : R (Itl K p) H) : SqI (Itl K) (fun a H => ∃ xs, SqL K H a xs) (.ref p) H R := ⟨p, rfl, ⟨xs, h⟩, q⟩
theorem wipe_set {σ : L2.St} {j : Nat} {y : V} : (wipe σ [j]).set j (some y) = σ.set j (some y) := by
  show ((σ.set j none).set j (some y)) = _
  rw [List.set_set]
theorem wipe_set2 {σ : L2.St} {j : Nat} {y : V} : wipe (σ.set j (some y)) [j] = wipe σ [j] := by
  show (σ.set j _).set j none = σ.set j none
  rw [List.set_set]
/-- [e for x in t], t a tuple: the list of the values -/
theorem k_lct {a : Addr} {xs : List V} {j : Nat} (hx : SqT K H1 a xs) (L : List V) (hl : L.length = xs.length) (hz : xs.length ≤ 1000000)
    (hs : ∀ (i : Nat) (x v : V) (H2 : Hp) (R : VK), xs[i]? = some x → L[i]? = some v → Same H1 H2 → (∀ H3, Same H2 H3 → R v H3) → te (σ.set j (some x)) H2 R)
    (q : ∀ D H2, H1 D = none → Same H1 H2 → H2 D = some (.lst L) → Q (.ref D) H2) : LcG (Itt K a) H1 (gName j) tYes te [j] σ Q := by
  intro D hD
  refine lc_tup (fun i H' => Same H1 H' ∧ H' D = some (.lst (L.take i))) ⟨same_new hD, by rw [upd_same]; rfl⟩ (fun i H' _ ⟨sm, _⟩ => same_t sm hx) (fun i x H' hi ⟨sm, hd⟩ => ?_) (fun H' ⟨sm, hd⟩ => q D H' hD sm (by rw [hd, List.take_of_length_le (by omega)]))
  have hil := (List.getElem?_eq_some_iff.mp hi).1
  show wipe ((wipe σ [j]).set j _) [j] = wipe σ [j] ∧ _
  rw [wipe_set]
  refine ⟨wipe_set2, ?_⟩
  refine hs i x (L[i]'(by omega)) H' _ hi (List.getElem?_eq_getElem (by omega)) sm fun H3 s3 => ?_
  refine ⟨L.take i, s3 _ _ hd, Nat.lt_of_le_of_lt (Nat.le_trans (by rw [List.length_take]; exact Nat.min_le_left _ _) (show i ≤ 1000000 by omega)) (by rw [sizeLine_eq]; decide), same_mut (sm.trans s3) hD, ?_⟩
  rw [upd_same, List.take_add_one, List.getElem?_eq_getElem (show i < L.length by omega)]
  rfl
/-- [e for x in xs], xs a list -/
theorem k_lcl {a : Addr} {xs : List V} {j : Nat} (hx : SqL K H1 a xs) (L : List V) (hl : L.length = xs.length) (hz : xs.length ≤ 1000000)
    (hs : ∀ (i : Nat) (x v : V) (H2 : Hp) (R : VK), xs[i]? = some x → L[i]? = some v → Same H1 H2 → (∀ H3, Same H2 H3 → R v H3) → te (σ.set j (some x)) H2 R)
    (q : ∀ D H2, H1 D = none → Same H1 H2 → H2 D = some (.lst L) → Q (.ref D) H2) : LcG (Itl K a) H1 (gName j) tYes te [j] σ Q := by
  intro D hD
  refine lc_list (fun i H' => Same H1 H' ∧ H' D = some (.lst (L.take i))) ⟨same_new hD, by rw [upd_same]; rfl⟩ (fun i H' _ ⟨sm, _⟩ => same_l sm hx) (fun i x H' hi ⟨sm, hd⟩ => ?_) (fun H' ⟨sm, hd⟩ => q D H' hD sm (by rw [hd, List.take_of_length_le (by omega)]))
  have hil := (List.getElem?_eq_some_iff.mp hi).1
  show wipe ((wipe σ [j]).set j _) [j] = wipe σ [j] ∧ _
  rw [wipe_set]
  refine ⟨wipe_set2, ?_⟩
  refine hs i x (L[i]'(by omega)) H' _ hi (List.getElem?_eq_getElem (by omega)) sm fun H3 s3 => ?_
  refine ⟨L.take i, s3 _ _ hd, Nat.lt_of_le_of_lt (Nat.le_trans (by rw [List.length_take]; exact Nat.min_le_left _ _) (show i ≤ 1000000 by omega)) (by rw [sizeLine_eq]; decide), same_mut (sm.trans s3) hD, ?_⟩
  rw [upd_same, List.take_add_one, List.getElem?_eq_getElem (show i < L.length by omega)]
  rfl
theorem rgc_pos {a b c : Int} (ha : 0 ≤ a) (ha' : a ≤ 1000000000) (hb : 0 ≤ b) (hb' : b ≤ 1000000000) (hc : 1 ≤ c) (hc' : c ≤ 1000000000) :
    ∃ n : Nat, RgC a b c n ∧ (n : Int) ≤ b ∧ ∀ i : Nat, i < n ↔ a + i * c < b := by
  have hpos : (0 : Int) ≤ Builtin.Range.rangeSize a b c := by
    unfold Builtin.Range.rangeSize
    rw [if_pos (by omega)]
    split
    · have := Int.ediv_nonneg (a := b - a - 1) (b := c) (by omega) (by omega); omega
    · omega
  have hle : Builtin.Range.rangeSize a b c ≤ b := by
    unfold Builtin.Range.rangeSize
    rw [if_pos (by omega)]
    split
    · have := Int.ediv_le_self c (show 0 ≤ b - a - 1 by omega); omega
    · omega
  obtain ⟨n, hn⟩ := Int.eq_ofNat_of_zero_le hpos
  refine ⟨n, ⟨by omega, by omega, ?_, hn⟩, by omega, fun i => ?_⟩
  · unfold Builtin.Range.small
    simp only [Builtin.Range.rangeFitsLong, Bool.and_eq_true, Bool.or_eq_true, decide_eq_true_eq, beq_iff_eq]
    rw [if_pos (show c > 0 by omega)]
    simp only [Bool.and_eq_true, decide_eq_true_eq]
    refine ⟨⟨⟨⟨?_, ?_⟩, ?_⟩, ?_⟩, .inr ?_⟩ <;> omega
  · unfold Builtin.Range.rangeSize at hn
    rw [if_pos (show c > 0 by omega)] at hn
    have e1 := Int.emod_add_mul_ediv (b - a - 1) c
    have e2 := Int.emod_nonneg (b - a - 1) (show c ≠ 0 by omega)
    have e3 := Int.emod_lt_of_pos (b - a - 1) (show 0 < c by omega)
    by_cases hab : a < b
    · rw [if_pos hab] at hn
      generalize (b - a - 1) / c = q at *
      constructor
      · intro hi
        have : c * (i : Int) ≤ c * q := Int.mul_le_mul_of_nonneg_left (by omega) (by omega)
        rw [Int.mul_comm (i : Int)]; omega
      · intro hi
        by_cases h : (i : Int) ≤ q
        · omega
        · have : c * (q + 1) ≤ c * (i : Int) := Int.mul_le_mul_of_nonneg_left (by omega) (by omega)
          rw [Int.mul_add] at this
          rw [Int.mul_comm (i : Int)] at hi; omega
    · rw [if_neg hab] at hn
      constructor
      · intro hi; omega
      · intro hi
        have : 0 ≤ (i : Int) * c := Int.mul_nonneg (by omega) (by omega)
        omega
def Rng3 (vs : List V) (H : Hp) (R : It → Hp → Prop) : Prop := ∃ (i j c : Int) (n : Nat), vs = [.int i, .int j, .int c] ∧ RgC i j c n ∧ R (Itc i c n) H
theorem k_irng3 {R : It → Hp → Prop} (h : tr σ H fun vs H1 => Rng3 vs H1 R) : iRng3 tr σ H R := h
theorem k_rng3 {i j c : Int} {n : Nat} {R : It → Hp → Prop} (h0 : RgC i j c n) (h : R (Itc i c n) H) : Rng3 [V.int i, V.int j, V.int c] H R := ⟨i, j, c, n, rfl, h0, h⟩
/-! ### list(range(..)), list + list -/
def LstRg (x : V) (H : Hp) (Q : VK) : Prop := ∃ n, x = .int n ∧ (RgOk 0 n ∧ ∀ q, H q = none → Q (.ref q) (upd H q (.lst (rgV 0 n))))
theorem k_lstrg (h : ta σ H fun x H1 => LstRg x H1 Q) : tLstRg (tRg1 ta) σ H Q := h
theorem k_lstrgV (h0 : 0 ≤ a ∧ a ≤ 16777216) (h : ∀ p H2, H p = none → Same H H2 → H2 p = some (.lst (rgV 0 a)) → Q (.ref p) H2) : LstRg (.int a) H Q :=
  ⟨a, rfl, RgOk.of_le (by omega) h0.2 (by omega) h0.1, fun p hp => h p _ hp (same_new hp) upd_same⟩
/-! ### any comprehension: over what tells n items one by one, with a test -/
theorem k_lcG {J : It} {n j : Nat} {item : Nat → V} {tt : TT} (p : Nat → Bool) (g : Nat → V) (hz : n ≤ 1000000)
    (hgo : ∀ i H2, Same H1 H2 → i < n → J.go i H2) (hy : ∀ i H2 x H', Same H1 H2 → i < n → J.yld i H2 x H' → H' = H2 ∧ x = item i) (hst : ∀ H2, Same H1 H2 → J.stop n H2)
    (ht : ∀ i H2 (R : Bool → Hp → Prop), i < n → Same H1 H2 → (∀ H3, Same H2 H3 → R (p i) H3) → tt (σ.set j (some (item i))) H2 R)
    (hv : ∀ i H2 (R : VK), i < n → p i = true → Same H1 H2 → (∀ H3, Same H2 H3 → R (g i) H3) → te (σ.set j (some (item i))) H2 R)
    (q : ∀ D H2, H1 D = none → Same H1 H2 → H2 D = some (.lst (((List.range n).filter p).map g)) → Q (.ref D) H2) : LcG J H1 (gName j) tt te [j] σ Q := by
  intro D hD
  refine ⟨fun i m H' => m = n - i ∧ i ≤ n ∧ Same H1 H' ∧ H' D = some (.lst (((List.range i).filter p).map g)), ⟨n, rfl, Nat.zero_le _, same_new hD, by rw [upd_same]; rfl⟩, ?_⟩
  rintro i m H' ⟨rfl, hi, sm, hd⟩
  by_cases hlt : i < n
  · refine .inr ⟨hgo i H' sm hlt, fun H'' => i + 1 ≤ n ∧ Same H1 H'' ∧ H'' D = some (.lst (((List.range (i + 1)).filter p).map g)), fun H'' ⟨a, b, c⟩ => ⟨n - (i + 1), by omega, rfl, a, b, c⟩, fun x H'' y => ?_⟩
    obtain ⟨rfl, rfl⟩ := hy i H' x H'' sm hlt y
    show wipe ((wipe σ [j]).set j _) [j] = wipe σ [j] ∧ _
    rw [wipe_set]
    refine ⟨wipe_set2, ht i H'' _ hlt sm fun H3 s3 => ?_⟩
    have er : ((List.range (i + 1)).filter p).map g = ((List.range i).filter p).map g ++ (if p i = true then [g i] else []) := by
      rw [List.range_succ, List.filter_append, List.map_append]
      congr 1
      by_cases h : p i = true <;> simp [h]
    cases hp : p i with
    | true =>
      refine hv i H3 _ hlt hp (sm.trans s3) fun H4 s4 => ?_
      refine ⟨_, s4 _ _ (s3 _ _ hd), ?_, hlt, same_mut ((sm.trans s3).trans s4) hD, ?_⟩
      · rw [List.length_map]
        refine Nat.lt_of_le_of_lt (Nat.le_trans (List.length_filter_le _ _) (by rw [List.length_range]; exact (show i ≤ 1000000 by omega))) (by rw [sizeLine_eq]; decide)
      · rw [upd_same, er, if_pos hp]
    | false =>
      refine ⟨hlt, sm.trans s3, ?_⟩
      rw [s3 _ _ hd, er, if_neg (by rw [hp]; decide), List.append_nil]
  · have e : i = n := by omega
    subst e
    exact .inl ⟨hst H' sm, q D H' hD sm hd⟩
theorem k_lcrf {lo : Int} {n j : Nat} {tt : TT} (p : Nat → Bool) (g : Nat → V) (hz : n ≤ 1000000)
    (ht : ∀ i H2 (R : Bool → Hp → Prop), i < n → Same H1 H2 → (∀ H3, Same H2 H3 → R (p i) H3) → tt (σ.set j (some (.int (lo + i)))) H2 R)
    (hv : ∀ i H2 (R : VK), i < n → p i = true → Same H1 H2 → (∀ H3, Same H2 H3 → R (g i) H3) → te (σ.set j (some (.int (lo + i)))) H2 R)
    (q : ∀ D H2, H1 D = none → Same H1 H2 → H2 D = some (.lst (((List.range n).filter p).map g)) → Q (.ref D) H2) : LcG (Itr lo n) H1 (gName j) tt te [j] σ Q :=
  k_lcG (item := fun i => .int (lo + i)) p g hz (fun i H2 _ h => h) (fun i H2 x H' _ _ y => ⟨y.1, y.2⟩) (fun H2 _ => Nat.le_refl _) ht hv q
theorem k_lccf {lo c : Int} {n j : Nat} {tt : TT} (p : Nat → Bool) (g : Nat → V) (hz : n ≤ 1000000)
    (ht : ∀ i H2 (R : Bool → Hp → Prop), i < n → Same H1 H2 → (∀ H3, Same H2 H3 → R (p i) H3) → tt (σ.set j (some (.int (lo + (i : Nat) * c)))) H2 R)
    (hv : ∀ i H2 (R : VK), i < n → p i = true → Same H1 H2 → (∀ H3, Same H2 H3 → R (g i) H3) → te (σ.set j (some (.int (lo + (i : Nat) * c)))) H2 R)
    (q : ∀ D H2, H1 D = none → Same H1 H2 → H2 D = some (.lst (((List.range n).filter p).map g)) → Q (.ref D) H2) : LcG (Itc lo c n) H1 (gName j) tt te [j] σ Q :=
  k_lcG (item := fun i => .int (lo + (i : Nat) * c)) p g hz (fun i H2 _ h => h) (fun i H2 x H' _ _ y => ⟨y.1, y.2⟩) (fun H2 _ => Nat.le_refl _) ht hv q
theorem k_lclf {a : Addr} {xs : List V} {j : Nat} {tt : TT} (hx : SqL K H1 a xs) (p : Nat → Bool) (g : Nat → V) (hz : xs.length ≤ 1000000)
    (ht : ∀ i H2 (R : Bool → Hp → Prop), i < xs.length → Same H1 H2 → (∀ H3, Same H2 H3 → R (p i) H3) → tt (σ.set j (some (xs.getD i .non))) H2 R)
    (hv : ∀ i H2 (R : VK), i < xs.length → p i = true → Same H1 H2 → (∀ H3, Same H2 H3 → R (g i) H3) → te (σ.set j (some (xs.getD i .non))) H2 R)
    (q : ∀ D H2, H1 D = none → Same H1 H2 → H2 D = some (.lst (((List.range xs.length).filter p).map g)) → Q (.ref D) H2) : LcG (Itl K a) H1 (gName j) tt te [j] σ Q :=
  k_lcG (item := fun i => xs.getD i .non) p g hz (fun i H2 s h => ⟨xs, xs[i], same_l s hx, by simp [h]⟩) (fun i H2 x H' s h y => by
    obtain ⟨e, y⟩ := y
    refine ⟨e, ?_⟩
    have := y xs (same_l s hx)
    rw [List.getD_eq_getElem?_getD, this]; rfl) (fun H2 s => ⟨xs, same_l s hx, Nat.le_refl _⟩) ht hv q
theorem range_all {α : Type} (xs : List α) (d : α) : ((List.range xs.length).filter fun _ => true).map (fun i => xs.getD i d) = xs := by
  rw [List.filter_eq_self.mpr (fun _ _ => rfl)]
  apply List.ext_getElem
  · simp
  · intro i h1 h2
    simp [List.getD_eq_getElem?_getD, List.getElem?_eq_getElem h2]
/-! ### operators by values -/
def rAddA : R2 := fun x y H Q => rI0 (fun i j => .int (i + j)) x y H Q ∨ (∃ i j, x = .str i ∧ y = .str j ∧ i.length + j.length ≤ sizeLine ∧ Q (.str (i ++ j)) H) ∨ rCat x y H Q
theorem op_addA {X : Cx} : OpR X (binaryOp .Add) rAddA := op_add.or (op_add_str.or op_cat)
theorem k_add (q : Q (.int (a + b)) H) : rAddA (.int a) (.int b) H Q := .inl ⟨a, b, rfl, rfl, q⟩
theorem k_cat {l c : Addr} {xs zs : List V} (h1 : H l = some (.lst xs)) (h2 : H c = some (.lst zs)) (hl : xs.length + zs.length ≤ 16000000) (h : ∀ p H2, H p = none → Same H H2 → H2 p = some (.lst (xs ++ zs)) → Q (.ref p) H2) : rAddA (.ref l) (.ref c) H Q :=
  .inr (.inr ⟨l, c, xs, zs, rfl, rfl, h1, h2, Nat.le_trans hl (by rw [sizeLine_eq]; decide), fun p hp => h p _ hp (same_new hp) upd_same⟩)
def rEqA (K : PySem.W.Frag) : R2 := fun x y H Q => rEq x y H Q ∨ rEqD K x y H Q
def rNeA (K : PySem.W.Frag) : R2 := fun x y H Q => rNe x y H Q ∨ rNeD K x y H Q
theorem op_eqA {X : Cx} (hu : X.A.units + 64 < cLine) : OpR X (compareOp .Eq) (rEqA X.K) := op_eq.or (op_eqD hu)
theorem op_neA {X : Cx} (hu : X.A.units + 64 < cLine) : OpR X (compareOp .NotEq) (rNeA X.K) := op_ne.or (op_neD hu)
theorem dec_i : decide (V.int a = V.int b) = decide (a = b) := by
  by_cases h : a = b
  · subst h; simp
  · rw [decide_eq_false h, decide_eq_false (fun e => h (V.int.inj e))]
theorem dec_b {a b : Bool} : decide (V.bl a = V.bl b) = decide (a = b) := by
  by_cases h : a = b
  · subst h; simp
  · rw [decide_eq_false h, decide_eq_false (fun e => h (V.bl.inj e))]
theorem dec_s {a b : Str} : decide (V.str a = V.str b) = decide (a = b) := by
  by_cases h : a = b
  · subst h; simp
  · rw [decide_eq_false h, decide_eq_false (fun e => h (V.str.inj e))]
theorem k_eq (q : Q (.bl (decide (a = b))) H) : rEqA K (.int a) (.int b) H Q := .inl ⟨rfl, by rw [dec_i]; exact q⟩
theorem k_ne (q : Q (.bl (!decide (a = b))) H) : rNeA K (.int a) (.int b) H Q := .inl ⟨rfl, by rw [dec_i]; exact q⟩
theorem k_eqb {a b : Bool} (q : Q (.bl (decide (a = b))) H) : rEqA K (.bl a) (.bl b) H Q := .inl ⟨rfl, by rw [dec_b]; exact q⟩
theorem k_neb {a b : Bool} (q : Q (.bl (!decide (a = b))) H) : rNeA K (.bl a) (.bl b) H Q := .inl ⟨rfl, by rw [dec_b]; exact q⟩
theorem k_eqs {a b : Str} (q : Q (.bl (decide (a = b))) H) : rEqA K (.str a) (.str b) H Q := .inl ⟨rfl, by rw [dec_s]; exact q⟩
theorem k_nes {a b : Str} (q : Q (.bl (!decide (a = b))) H) : rNeA K (.str a) (.str b) H Q := .inl ⟨rfl, by rw [dec_s]; exact q⟩
theorem k_ixT {p : Addr} {xs : List V} {i : Int} (h : SqT K H p xs) (ha : atI xs i = some v) (q : Q v H) : rIx K (.ref p) (.int i) H Q := .inr (.inl ⟨p, xs, i, v, rfl, rfl, h, ha, q⟩)
theorem k_ixL {p : Addr} {xs : List V} {i : Int} (h : SqL K H p xs) (ha : atI xs i = some v) (q : Q v H) : rIx K (.ref p) (.int i) H Q := .inl ⟨p, xs, i, v, rfl, rfl, h, ha, q⟩
theorem inV_ints {a : Int} : ∀ l : List Int, inV (.int a) (l.map V.int) = decide (a ∈ l)
  | [] => rfl
  | x :: r => by
    have ih := inV_ints (a := a) r
    show (inV (.int a) (.int x :: r.map V.int)) = _
    unfold inV at ih ⊢
    rw [List.any_cons, ih]
    have e : eqV (.int x) (.int a) = decide (a = x) := by
      show (x == a) = decide (a = x)
      by_cases h : a = x
      · subst h; simp
      · rw [decide_eq_false h]; simpa using fun e => h e.symm
    by_cases h : a = x
    · subst h; simp [e]
    · simp [e, h]
theorem flat_ints : ∀ l : List Int, (l.map V.int).all flatV = true
  | [] => rfl
  | x :: r => by rw [List.map_cons, List.all_cons, flat_ints r]; rfl
theorem k_inL {neg : Bool} {p : Addr} {l : List Int} (h : SqL K H p (l.map V.int)) (q : Q (.bl (if neg then !decide (a ∈ l) else decide (a ∈ l))) H) : rIn K neg (.int a) (.ref p) H Q :=
  ⟨p, l.map V.int, rfl, .inl h, rfl, flat_ints l, by rw [inV_ints]; exact q⟩
theorem k_notinL {p : Addr} {l : List Int} (h : SqL K H p (l.map V.int)) (q : Q (.bl (!decide (a ∈ l))) H) : rIn K true (.int a) (.ref p) H Q := k_inL (neg := true) h q
theorem k_inL' {p : Addr} {l : List Int} (h : SqL K H p (l.map V.int)) (q : Q (.bl (decide (a ∈ l))) H) : rIn K false (.int a) (.ref p) H Q := k_inL (neg := false) h q
theorem inV2 {x y : Int} : inV (.int a) [.int x, .int y] = decide (a = x ∨ a = y) := by
  have h := inV_ints (a := a) [x, y]
  have e : (decide (a ∈ [x, y])) = decide (a = x ∨ a = y) := by
    have : a ∈ [x, y] ↔ (a = x ∨ a = y) := by simp
    simp [this]
  exact h.trans e
theorem k_notin2 {p : Addr} {x y : Int} (h : SqL K H p [.int x, .int y]) (q : Q (.bl (!decide (a = x ∨ a = y))) H) : rIn K true (.int a) (.ref p) H Q :=
  ⟨p, _, rfl, .inl h, rfl, rfl, by rw [inV2]; exact q⟩
theorem k_in2 {p : Addr} {x y : Int} (h : SqL K H p [.int x, .int y]) (q : Q (.bl (decide (a = x ∨ a = y))) H) : rIn K false (.int a) (.ref p) H Q :=
  ⟨p, _, rfl, .inl h, rfl, rfl, by rw [inV2]; exact q⟩
def rIsN : R2 := fun x y H Q => y = .non ∧ Q (.bl (decide (x = .non))) H
def rNotN : R2 := fun x y H Q => y = .non ∧ Q (.bl (!decide (x = .non))) H
theorem kb_isN {X : Cx} : OpR X (compareOp .Is) rIsN := op_isN
theorem kb_notN {X : Cx} : OpR X (compareOp .IsNot) rNotN := op_notN
theorem k_isN_n (q : Q (.bl true) H) : rIsN .non .non H Q := ⟨rfl, q⟩
theorem k_isN_i (q : Q (.bl false) H) : rIsN (.int a) .non H Q := ⟨rfl, q⟩
theorem k_isN_r {p : Addr} (q : Q (.bl false) H) : rIsN (.ref p) .non H Q := ⟨rfl, q⟩
theorem k_notN_n (q : Q (.bl false) H) : rNotN .non .non H Q := ⟨rfl, q⟩
theorem k_notN_i (q : Q (.bl true) H) : rNotN (.int a) .non H Q := ⟨rfl, q⟩
theorem k_notN_r {p : Addr} (q : Q (.bl true) H) : rNotN (.ref p) .non H Q := ⟨rfl, q⟩
/-! ### == of pairs and lists of ints -/
theorem dp_ints : ∀ l : List Int, DpAll K H (l.map V.int) (l.map PyData.int)
  | [] => .nil
  | x :: r => .cons (.int x) (dp_ints r)
theorem eqv_ints : ∀ l m : List Int, PyData.eqvAll (l.map PyData.int) (m.map PyData.int) = decide (l = m)
  | [], [] => by simp [PyData.eqvAll]
  | [], _ :: _ => by simp [PyData.eqvAll]
  | _ :: _, [] => by simp [PyData.eqvAll]
  | x :: r, y :: t => by
    rw [List.map_cons, List.map_cons, PyData.eqvAll, eqv_ints r t, PyData.eqv]
    by_cases h : x = y <;> simp [h]
theorem shaped_tints (l : List Int) : SeqAt.shaped (.tuple (l.map PyData.int)) = true := by
  have h1 : ∀ l : List Int, PyData.canLayAll0 (l.map PyData.int) = true := fun l => by
    induction l with
    | nil => rfl
    | cons x r ih => rw [List.map_cons]; simp [PyData.canLayAll0, PyData.canLay0, ih]
  have h2 : ∀ l : List Int, PyData.depthAll (l.map PyData.int) ≤ 1 := fun l => by
    induction l with
    | nil => simp [PyData.depthAll]
    | cons x r ih => rw [List.map_cons]; simp [PyData.depthAll, PyData.depth]; omega
  have := h2 l
  simp [SeqAt.shaped, PyData.canLay0, PyData.depth, h1 l]
  omega
theorem shaped_lints (l : List Int) : SeqAt.shaped (.list (l.map PyData.int)) = true := by
  have h1 : ∀ l : List Int, PyData.canLayAll0 (l.map PyData.int) = true := fun l => by
    induction l with
    | nil => rfl
    | cons x r ih => rw [List.map_cons]; simp [PyData.canLayAll0, PyData.canLay0, ih]
  have h2 : ∀ l : List Int, PyData.depthAll (l.map PyData.int) ≤ 1 := fun l => by
    induction l with
    | nil => simp [PyData.depthAll]
    | cons x r ih => rw [List.map_cons]; simp [PyData.depthAll, PyData.depth]; omega
  have := h2 l
  simp [SeqAt.shaped, PyData.canLay0, PyData.depth, h1 l]
  omega
theorem k_eqT {p q : Addr} {l m : List Int} (h1 : SqT K H p (l.map V.int)) (h2 : SqT K H q (m.map V.int)) (r : Q (.bl (decide (l = m))) H) : rEqA K (.ref p) (.ref q) H Q :=
  .inr ⟨_, _, .tup h1 (dp_ints l), .tup h2 (dp_ints m), shaped_tints l, shaped_tints m, by rw [PyData.eqv, eqv_ints]; exact r⟩
theorem k_neT {p q : Addr} {l m : List Int} (h1 : SqT K H p (l.map V.int)) (h2 : SqT K H q (m.map V.int)) (r : Q (.bl (!decide (l = m))) H) : rNeA K (.ref p) (.ref q) H Q :=
  .inr ⟨_, _, .tup h1 (dp_ints l), .tup h2 (dp_ints m), shaped_tints l, shaped_tints m, by rw [PyData.eqv, eqv_ints]; exact r⟩
theorem k_eqL {p q : Addr} {l m : List Int} (h1 : SqL K H p (l.map V.int)) (h2 : SqL K H q (m.map V.int)) (r : Q (.bl (decide (l = m))) H) : rEqA K (.ref p) (.ref q) H Q :=
  .inr ⟨_, _, .lst h1 (dp_ints l), .lst h2 (dp_ints m), shaped_lints l, shaped_lints m, by rw [PyData.eqv, eqv_ints]; exact r⟩
theorem k_neL {p q : Addr} {l m : List Int} (h1 : SqL K H p (l.map V.int)) (h2 : SqL K H q (m.map V.int)) (r : Q (.bl (!decide (l = m))) H) : rNeA K (.ref p) (.ref q) H Q :=
  .inr ⟨_, _, .lst h1 (dp_ints l), .lst h2 (dp_ints m), shaped_lints l, shaped_lints m, by rw [PyData.eqv, eqv_ints]; exact r⟩
theorem k_eqP {p q : Addr} {c d : Int} (h1 : SqT K H p [.int a, .int b]) (h2 : SqT K H q [.int c, .int d]) (r : Q (.bl (decide (a = c ∧ b = d))) H) : rEqA K (.ref p) (.ref q) H Q :=
  k_eqT (l := [a, b]) (m := [c, d]) h1 h2 (by
    have e : decide ([a, b] = [c, d]) = decide (a = c ∧ b = d) := by simp
    rw [e]; exact r)
theorem k_neP {p q : Addr} {c d : Int} (h1 : SqT K H p [.int a, .int b]) (h2 : SqT K H q [.int c, .int d]) (r : Q (.bl (!decide (a = c ∧ b = d))) H) : rNeA K (.ref p) (.ref q) H Q :=
  k_neT (l := [a, b]) (m := [c, d]) h1 h2 (by
    have e : decide ([a, b] = [c, d]) = decide (a = c ∧ b = d) := by simp
    rw [e]; exact r)
/-! ### calls of built-ins by values -/
def rAbs : List V → Hp → VK → Prop := fun xs H Q => ∃ i, xs = [.int i] ∧ Q (.int (if i < 0 then -i else i)) H
theorem cb_abs {X : Cx} : CallR X (.builtin "abs") rAbs := call_abs
theorem k_abs (q : Q (.int (if a < 0 then -a else a)) H) : rAbs [.int a] H Q := ⟨a, rfl, q⟩
def rMax2 : List V → Hp → VK → Prop := fun xs H Q => ∃ i j, xs = [.int i, .int j] ∧ Q (.int (if j > i then j else i)) H
theorem cb_max2 {X : Cx} (hc : X.calm = true) : CallR X (.builtin "max") rMax2 := call_max2 hc
theorem k_max2 (q : ∀ k : Int, (k = a ∨ k = b) → a ≤ k → b ≤ k → Q (.int k) H) : rMax2 [.int a, .int b] H Q := ⟨a, b, rfl, by split <;> exact q _ (by omega) (by omega) (by omega)⟩
def rMin2 : List V → Hp → VK → Prop := fun xs H Q => ∃ i j, xs = [.int i, .int j] ∧ Q (.int (if j < i then j else i)) H
theorem cb_min2 {X : Cx} (hc : X.calm = true) : CallR X (.builtin "min") rMin2 := call_min2 hc
theorem k_min2 (q : ∀ k : Int, (k = a ∨ k = b) → k ≤ a → k ≤ b → Q (.int k) H) : rMin2 [.int a, .int b] H Q := ⟨a, b, rfl, by split <;> exact q _ (by omega) (by omega) (by omega)⟩
def rLen (K : PySem.W.Frag) : List V → Hp → VK → Prop := fun xs H Q => ∃ x n, xs = [x] ∧ LenV K x H n ∧ Q (.int n) H
theorem cb_len {X : Cx} : CallR X (.builtin "len") (rLen X.K) := call_len
theorem k_lenL {p : Addr} {xs : List V} (h : SqL K H p xs) (q : Q (.int (xs.length : Int)) H) : rLen K [.ref p] H Q := ⟨.ref p, xs.length, rfl, .inl ⟨xs, h, rfl⟩, q⟩
theorem k_lenT {p : Addr} {xs : List V} (h : SqT K H p xs) (q : Q (.int (xs.length : Int)) H) : rLen K [.ref p] H Q := ⟨.ref p, xs.length, rfl, .inr ⟨xs, h, rfl⟩, q⟩
def rDivmod : List V → Hp → VK → Prop := fun xs H Q => ∃ i j, xs = [.int i, .int j] ∧ CDivP i j ∧ ∀ p, H p = none → Q (.ref p) (upd H p (.tup [.int (i / j), .int (i % j)]))
theorem cb_divmod {X : Cx} : CallR X (.builtin "divmod") rDivmod := call_divmodW
theorem k_divmod (c : CDivP a b) (h : ∀ p H2, H p = none → Same H H2 → H2 p = some (.tup [.int (a / b), .int (a % b)]) → Q (.ref p) H2) : rDivmod [.int a, .int b] H Q :=
  ⟨a, b, rfl, c, fun p hp => h p _ hp (same_new hp) upd_same⟩
theorem k_sum {p : Addr} {l : List Int} (h : SqL K H p (l.map V.int)) (q : Q (.int l.sum) H) : rSum K [.ref p] H Q := ⟨p, l, rfl, h, q⟩
theorem k_all {p : Addr} {l : List Bool} (h : SqL K H p (l.map V.bl)) (q : Q (.bl (l.all id)) H) : rAll K [.ref p] H Q := ⟨p, l, rfl, h, q⟩
theorem k_any {p : Addr} {l : List Bool} (h : SqL K H p (l.map V.bl)) (q : Q (.bl (l.any id)) H) : rAny K [.ref p] H Q := ⟨p, l, rfl, h, q⟩
def BitsV (x : V) (H : Hp) (Q : VK) : Prop := ∃ i, x = .int i ∧ Q (.int (Builtin.Int.intBits i : Nat)) H
theorem k_bits (h : ta σ H fun x H1 => BitsV x H1 Q) : tBits ta σ H Q := h
theorem k_bitsV (q : Q (.int (Builtin.Int.intBits a : Nat)) H) : BitsV (.int a) H Q := ⟨a, rfl, q⟩
def rInt : List V → Hp → VK → Prop := fun xs H Q => (∃ i, xs = [.int i] ∧ Q (.int i) H) ∨ ∃ k, xs = [.bl k] ∧ Q (.int (if k then 1 else 0)) H
theorem cb_int {X : Cx} : CallR X (.type "int") rInt := call_int1
theorem k_intI (q : Q (.int a) H) : rInt [.int a] H Q := .inl ⟨a, rfl, q⟩
theorem k_intB {c : Bool} (q : Q (.int (if c then 1 else 0)) H) : rInt [.bl c] H Q := .inr ⟨c, rfl, q⟩
theorem k_isi_ii (q : Q (.bl true) H) : rIsi K [.int a, .ty "int"] H Q := ⟨.int a, .ty "int", .type "int", .type "int", true, rfl, .ty _, .base (.int _), kit_ty (by decide +kernel), q⟩
theorem k_isi_ib (q : Q (.bl false) H) : rIsi K [.int a, .ty "bool"] H Q := ⟨.int a, .ty "bool", .type "int", .type "bool", false, rfl, .ty _, .base (.int _), kit_ty (by decide +kernel), q⟩
theorem k_isi_bb {c : Bool} (q : Q (.bl true) H) : rIsi K [.bl c, .ty "bool"] H Q := ⟨.bl c, .ty "bool", .type "bool", .type "bool", true, rfl, .ty _, .base (.bl _), kit_ty (by decide +kernel), q⟩
theorem k_isi_it (q : Q (.bl false) H) : rIsi K [.int a, .ty "tuple"] H Q := ⟨.int a, .ty "tuple", .type "int", .type "tuple", false, rfl, .ty _, .base (.int _), kit_ty (by decide +kernel), q⟩
theorem tyx_t {p : Addr} {xs : List V} (h : SqT K H p xs) : TyX K H (.ref p) (.type "tuple") := by
  rcases h with (h | ⟨o, h⟩) | ⟨o, its, n, l, c, _⟩
  · exact .base (.tup h)
  · exact .fTuple h
  · exact .kTuple l c
theorem k_isi_tt {p : Addr} {xs : List V} (h : SqT K H p xs) (q : Q (.bl true) H) : rIsi K [.ref p, .ty "tuple"] H Q := ⟨.ref p, .ty "tuple", .type "tuple", .type "tuple", true, rfl, .ty _, tyx_t h, kit_ty (by decide +kernel), q⟩
/-! ### the rules that speak of the written part, by its own letter -/
section
variable {X : Cx} (K : PySem.W.Frag) (hK : X.K = K := by rfl)
include hK
theorem kb_ix : IxR X (rIx K) := hK ▸ ix_seq
theorem kb_eq (hu : X.A.units + 64 < cLine) : OpR X (compareOp .Eq) (rEqA K) := hK ▸ op_eqA hu
theorem kb_ne (hu : X.A.units + 64 < cLine) : OpR X (compareOp .NotEq) (rNeA K) := hK ▸ op_neA hu
theorem kb_in : OpR X (compareOp .In) (rIn K false) := hK ▸ op_in_seq
theorem kb_notIn : OpR X (compareOp .NotIn) (rIn K true) := hK ▸ op_notIn_seq
theorem kb_len : CallR X (.builtin "len") (rLen K) := hK ▸ cb_len
theorem kb_isi : CallR X (.builtin "isinstance") (rIsi K) := hK ▸ call_isi
theorem kb_sum (hc : X.calm = true) : CallR X (.builtin "sum") (rSum K) := hK ▸ cr_sum hc
theorem kb_max (hc : X.calm = true) : CallR X (.builtin "max") (rMax K) := hK ▸ cr_max hc
theorem kb_min (hc : X.calm = true) : CallR X (.builtin "min") (rMin K) := hK ▸ cr_min hc
theorem kb_all (hc : X.calm = true) : CallR X (.builtin "all") (rAll K) := hK ▸ cr_all hc
theorem kb_any (hc : X.calm = true) : CallR X (.builtin "any") (rAny K) := hK ▸ cr_any hc
end
/-- // by any divisor but 0, below 2 ^ 9000 -/
def CDivX (_ j : Int) : Prop := j ≠ 0 ∧ j.natAbs.log2 < 9000
theorem op_fdivX {X : Cx} : OpR X (binaryOp .FloorDiv) (rI CDivX fun i j => .int (i.fdiv j)) := opI fun i j _ _ _ _ _ hc q => floordiv_int hc.1 q (.inl (PyProof.noPylong_of_log2 hc.2))
/-- a power of written numbers -/
theorem pe_powc {X : Cx} {b e n : Int} {j1 j2 : Nat} {p1 p2 pos : Pos} (h : (0 ≤ e ∧ e ≤ 1000000 ∧ b.natAbs < 2 ^ 64) ∧ b ^ e.toNat = n) : PE X (.BinOp (.Constant (.int b) j1 p1) .Pow (.Constant (.int e) j2 p2) pos) (tC (.int n)) :=
  ⟨fun pins s σ H Q I q => (pe_op (X := X) op_pow pe_int pe_int).run pins s σ H Q I ⟨b, e, rfl, rfl, h.1, by show Q (.int (b ^ e.toNat)) H; rw [h.2]; exact q⟩⟩
end
/-! ### sizes -/
structure Sm (n : Nat) (i : Int) : Prop where
  h : i.natAbs < 2 ^ n
theorem sm_lit {i : Int} (h : i.natAbs < 2 ^ 400) : Sm 400 i := ⟨h⟩
theorem sm_mono {a b : Nat} {i : Int} (h : Sm a i) (hab : a ≤ b) : Sm b i := ⟨Nat.lt_of_lt_of_le h.h (Nat.pow_le_pow_right (by decide) hab)⟩
theorem sm41 {i : Int} (h1 : -1000000000000000000000000000000000000000000000000000000000000 ≤ i) (h2 : i ≤ 1000000000000000000000000000000000000000000000000000000000000) : Sm 200 i := by
  have e : (2 : Nat) ^ 200 = 1606938044258990275541962092341162602522202993782792835301376 := by decide
  refine ⟨?_⟩
  rw [e]; omega
theorem mul_bd {x k X Y : Int} (h1 : 1 ≤ x) (h2 : x ≤ X) (h3 : 1 ≤ k) (h4 : k ≤ Y) : 1 ≤ x * k ∧ x * k ≤ X * Y := by
  refine ⟨Int.mul_pos (by omega) (by omega), ?_⟩
  exact Int.mul_le_mul h2 h4 (by omega) (by omega)
theorem mul_bd2 {x k X Y : Int} (h1 : -X ≤ x) (h2 : x ≤ X) (h3 : -Y ≤ k) (h4 : k ≤ Y) : -(X * Y) ≤ x * k ∧ x * k ≤ X * Y := by
  have e : (x * k).natAbs ≤ X.natAbs * Y.natAbs := by rw [Int.natAbs_mul]; exact Nat.mul_le_mul (by omega) (by omega)
  have e2 : ((X.natAbs * Y.natAbs : Nat) : Int) = X * Y := by
    rw [Int.natCast_mul, show ((X.natAbs : Nat) : Int) = X by omega, show ((Y.natAbs : Nat) : Int) = Y by omega]
  omega
theorem sm_mul {i j : Int} {a b : Nat} (ha : Sm a i) (hb : Sm b j) : Sm (a + b) (i * j) := ⟨wide_lt ha.h hb.h⟩
theorem sm_bits {i : Int} {n : Nat} (h : Builtin.Int.intBits i ≤ n) : Sm n i := by
  unfold Builtin.Int.intBits at h
  split at h
  · rename_i z
    have : i = 0 := by simpa using z
    subst this
    exact ⟨Nat.pow_pos (by decide)⟩
  · rename_i z
    have hz : i.natAbs ≠ 0 := by
      intro q
      apply z
      have : i = 0 := by omega
      subst this
      decide
    exact ⟨Nat.lt_of_lt_of_le ((Nat.log2_lt hz).mp (Nat.lt_succ_self _)) (Nat.pow_le_pow_right (by decide) h)⟩
theorem sm_mulx {i j : Int} {a b : Nat} (ha : Sm a i) (hb : Sm b j) (h : a + b ≤ 134217728) : CMulX i j := mulx_ok ha.h hb.h h
theorem modbd {y n B : Int} (hn : 1 ≤ n) (h : n ≤ B) : 0 ≤ y % n ∧ y % n ≤ B := ⟨Int.emod_nonneg _ (by omega), by have := Int.emod_lt_of_pos y (show 0 < n by omega); omega⟩
theorem sm_divx {i j : Int} {b : Nat} (h : j ≠ 0) (hb : Sm b j) (h0 : 0 < b) (h9 : b ≤ 9000) : CDivX i j := ⟨h, Nat.lt_of_lt_of_le (PySem.Flt.log2_lt_of h0 hb.h) h9⟩
theorem sm_div {i j : Int} {b : Nat} (h : 0 < j) (hb : Sm b j) (h0 : 0 < b) (h9 : b ≤ 9000) : CDivW i j := wide_div h hb.h h0 h9
/-! ### range of great numbers -/
theorem turn_rangeL {P : Program} {w : World} {K : PySem.W.Frag} {tg : Expr} (it : Addr) (lo c : Int) (n : Nat) : Turn P w K tg (Itc lo c n) [it] it (fun i h => PySem.IsLongIter h it (lo + (i : Nat) * c) ((n : Int) - (i : Nat)) c) where
  mem := by simp
  obj := fun i h st b hb => by
    have e : b = it := by simpa using hb
    subst e
    exact ⟨_, st, fun v z => nomatch z⟩
  keep := fun i h h' st k => k it (by simp) _ st
  item := by
    intro X hP hw hK hc i pins s σ H E I hf st hg
    subst hP hw hK
    obtain ⟨f0, f1, f2, f3, f4, f5⟩ := hf it (by simp)
    have W := Walks.longrange (prog := X.prog) (w := X.w) (I.ok.hd hc) it lo c n
    refine W.item i s _ _ hg st fun v h' tk hv st' kk => ?_
    obtain ⟨t, rfl⟩ := hv
    have I1 : Inv X pins σ H { s with heap := h', toks := tk } := I.turned (fun b o hb e => kk b o (by simpa using hb) e) f0 f1 f3 f4 f5
    exact ⟨_, rfl, go_of (s := { s with heap := h', toks := tk }) (n := "longrange_iterator") st' rfl rfl (by decide) ⟨.int (lo + (i : Nat) * c), H, I1, ⟨t, rfl⟩, ⟨rfl, rfl⟩, st', fun b hb => (hf b hb).1⟩⟩
  done := by
    intro X hP hw hK hc i pins s σ H E I hf st hg
    subst hP hw hK
    obtain ⟨f0, f1, f2, f3, f4, f5⟩ := hf it (by simp)
    exact PySem.wpAny_pyNext_long_end (I.ok.hd hc) st (by have : n ≤ i := hg; omega) fun h' eb => ⟨rfl, I.turned (t' := s.toks) (fun b o hb e => eb b o hb e) f0 f1 f3 f4 f5⟩
  self := fun A i s Q E st h => PySem.wpAny_pyIter_longiter st h
theorem itc_one (lo : Int) (n : Nat) : Itc lo 1 n = Itr lo n := by
  unfold Itc Itr
  simp only [Int.mul_one]
def Rng2L (vs : List V) (H : Hp) (R : It → Hp → Prop) : Prop := ∃ i j : Int, vs = [.int i, .int j] ∧ R (Itr i (j - i).toNat) H
def iRng2L (ta : TA) : TI := fun σ H R => ta σ H fun vs H1 => Rng2L vs H1 R
theorem pi_range2L {X : Cx} {tg : Expr} {a b : Expr} {ta : TA} {p pos : Pos} (hg : Gl X "range") (hm : X.mg "range" = none) (ha : PA X [a, b] ta) (hs : starEach [a, b] X.env = [(false, eval a X.env), (false, eval b X.env)] := by rfl) (hs2 : starEach [b] X.env = [(false, eval b X.env)] := by rfl) :
    PI X tg (.Call (.Name "range" p) [a, b] [] pos) (iRng2L ta) := by
  refine ⟨fun pins s σ H R I h => ?_⟩
  refine Call_ (ld_blt I hg hm boot_range (PyProof.Rows.callWith_type1 (thn (ha.run pos pins s σ H _ I h) fun us s1 ⟨vs, H1, I1, r1, q1⟩ => ?_) (by rw [hs, hs2]) (by rw [hs2]; rfl)))
  obtain ⟨i, j, e, q⟩ := q1
  subst e
  cases r1 with
  | cons r rr =>
    cases rr with
    | cons r' rr =>
      cases rr
      obtain ⟨t, rfl⟩ := r
      obtain ⟨t', rfl⟩ := r'
      refine PySem.call_range_2 ?_
      have I2 : Inv X pins σ H1 { s1 with heap := s1.heap.push { cls := .type "range", data := .fields #[.int i t, .int j t', .int 1 s1.toks] }, toks := s1.toks + 1 } := I1.kept (t' := s1.toks + 1) fun b o e => Heap.get?_push_of_some _ e
      have e1 : i + ((0 : Nat) : Int) * 1 = i := by simp
      have e2 : (((j - i).toNat : Nat) : Int) - ((0 : Nat) : Int) = Builtin.Range.rangeSize i j 1 := by rw [PyProof.Rows.rangeSize_nat]; simp
      rw [← itc_one] at q
      cases hsm : Builtin.Range.small i j 1 with
      | true =>
        refine wpAny_pyIter_range (IsRange.new ..) hsm ?_
        refine pi_one (tk := s1.toks + 1) I2 _ (turn_rangeC _ i 1 (j - i).toNat) ?_ q
        show IsRangeIter _ _ (i + ((0 : Nat) : Int) * 1) ((((j - i).toNat : Nat) : Int) - ((0 : Nat) : Int)) 1
        rw [e1, e2]
        exact Heap.get?_push_size _ rfl
      | false =>
        refine wpAny_pyIter_longrange (IsRange.new ..) hsm ?_
        refine pi_one (tk := s1.toks + 1) I2 _ (turn_rangeL _ i 1 (j - i).toNat) ?_ q
        show IsLongIter _ _ (i + ((0 : Nat) : Int) * 1) ((((j - i).toNat : Nat) : Int) - ((0 : Nat) : Int)) 1
        rw [e1, e2]
        exact Heap.get?_push_size _ rfl
section
variable {σ : L2.St} {H : Hp} {tr : TA} {m n : Int}
theorem k_irng2L {R : It → Hp → Prop} (h : tr σ H fun vs H1 => Rng2L vs H1 R) : iRng2L tr σ H R := h
theorem k_rng2L {R : It → Hp → Prop} (h : R (Itr m (n - m).toNat) H) : Rng2L [V.int m, V.int n] H R := ⟨m, n, rfl, h⟩
end
theorem b_dec {b : Bool} {p : Prop} [Decidable p] (h : b = true ↔ p) : b = decide p := by
  by_cases hp : p
  · rw [decide_eq_true hp]; exact h.mpr hp
  · rw [decide_eq_false hp]
    cases hb : b with
    | false => rfl
    | true => exact absurd (h.mp hb) hp
/-- a test that something differs, where it does not -/
theorem if_same {p A B : Prop} [Decidable p] (h : p) (h2 : B) : if (!decide p) = true then A else B := if_ndec (fun hn => absurd h hn) (fun _ => h2)
theorem inV3 {a x y z : Int} : inV (.int a) [.int x, .int y, .int z] = decide (a = x ∨ a = y ∨ a = z) := by
  have h := inV_ints (a := a) [x, y, z]
  have e : (decide (a ∈ [x, y, z])) = decide (a = x ∨ a = y ∨ a = z) := by
    have : a ∈ [x, y, z] ↔ (a = x ∨ a = y ∨ a = z) := by simp
    simp [this]
  exact h.trans e
theorem k_in3 {K : PySem.W.Frag} {H : Hp} {Q : VK} {a : Int} {p : Addr} {x y z : Int} (h : SqL K H p [.int x, .int y, .int z]) (q : Q (.bl (decide (a = x ∨ a = y ∨ a = z))) H) : rIn K false (.int a) (.ref p) H Q :=
  ⟨p, _, rfl, .inl h, rfl, rfl, by rw [inV3]; exact q⟩
/-! ### words that are known -/
theorem if_seq {a b : Str} {A B : Prop} (h : a = b) (x : A) : if decide (a = b) = true then A else B := if_dec (fun _ => x) (fun hn => absurd h hn)
theorem if_sne {a b : Str} {A B : Prop} (h : ¬ a = b) (x : B) : if decide (a = b) = true then A else B := if_dec (fun he => absurd he h) (fun _ => x)
theorem if_nseq {a b : Str} {A B : Prop} (h : a = b) (x : B) : if (!decide (a = b)) = true then A else B := if_ndec (fun hn => absurd h hn) (fun _ => x)
theorem if_nsne {a b : Str} {A B : Prop} (h : ¬ a = b) (x : A) : if (!decide (a = b)) = true then A else B := if_ndec (fun _ => x) (fun he => absurd he h)
theorem or_split {t u : TT} {σ : L2.St} {H : Hp} {R : Bool → Hp → Prop} (p : Prop) (hT : p → R true H) (hF : ¬ p → R false H) (h : ∀ R' : Bool → Hp → Prop, (p → R' true H) → (¬ p → R' false H) → tOr t u σ H R') : tOr t u σ H R := h R hT hF
theorem and_split {t u : TT} {σ : L2.St} {H : Hp} {R : Bool → Hp → Prop} (p : Prop) (hT : p → R true H) (hF : ¬ p → R false H) (h : ∀ R' : Bool → Hp → Prop, (p → R' true H) → (¬ p → R' false H) → tAnd t u σ H R') : tAnd t u σ H R := h R hT hF
theorem dec_two {p : Prop} [Decidable p] {R : Bool → Prop} (a : p → R true) (b : ¬ p → R false) : R (decide p) := by
  by_cases h : p
  · rw [decide_eq_true h]; exact a h
  · rw [decide_eq_false h]; exact b h
theorem dec_twoN {p : Prop} [Decidable p] {R : Bool → Prop} (a : p → R false) (b : ¬ p → R true) : R (!decide p) := by
  by_cases h : p
  · rw [decide_eq_true h]; exact a h
  · rw [decide_eq_false h]; exact b h
section
variable {σ : L2.St} {H : Hp}
def PartV (x : V) (H : Hp) (Q : Option Int → Hp → Prop) : Prop := ∃ i, x = .int i ∧ Q (some i) H
theorem k_part {t : TE} {Q : Option Int → Hp → Prop} (h : t σ H fun x H1 => PartV x H1 Q) : tPart t σ H Q := h
theorem k_partV {i : Int} {Q : Option Int → Hp → Prop} (h : Q (some i) H) : PartV (.int i) H Q := ⟨i, rfl, h⟩
theorem k_nopart {Q : Option Int → Hp → Prop} (h : Q none H) : tNoPart σ H Q := h
end

section
open Int
/-! ### remainders: the mathematics -/
theorem gcd_abs (a b : Int) : Int.gcd (if a < 0 then -a else a) (if b < 0 then -b else b) = Int.gcd a b := by
  split <;> split <;> simp
theorem abs_nn (a : Int) : 0 ≤ (if a < 0 then -a else a) := by split <;> omega
theorem abs_le {a b : Int} (h1 : -b ≤ a) (h2 : a ≤ b) : (if a < 0 then -a else a) ≤ b := by split <;> omega
theorem gcd_mod (x y : Int) : Int.gcd y (x % y) = Int.gcd x y := by
  have e : x % y = x - y * (x / y) := Int.emod_def x y
  rw [e, Int.gcd_comm, Int.mul_comm, Int.gcd_sub_mul_right_left]
theorem gcd_zero (x : Int) (h : 0 ≤ x) : ((Int.gcd x 0 : Nat) : Int) = x := by
  rw [Int.gcd_zero_right]; omega
/-- the least common multiple of two numbers from 1 on, as the program reckons it -/
def lcmI (a b : Int) : Int := a / (Int.gcd a b : Nat) * b
theorem gcd_pos {a b : Int} (ha : 1 ≤ a) : 1 ≤ ((Int.gcd a b : Nat) : Int) := by
  have : Int.gcd a b ≠ 0 := fun h => by
    have := Int.gcd_eq_zero_iff.mp h
    omega
  omega
theorem gcd_le {a b : Int} (ha : 1 ≤ a) : ((Int.gcd a b : Nat) : Int) ≤ a := Int.le_of_dvd (by omega) (Int.gcd_dvd_left a b)
theorem gcd_le' {a b : Int} (hb : 1 ≤ b) : ((Int.gcd a b : Nat) : Int) ≤ b := Int.le_of_dvd (by omega) (Int.gcd_dvd_right a b)
theorem lcm_mul_gcd {a b : Int} (ha : 1 ≤ a) : lcmI a b * (Int.gcd a b : Nat) = a * b := by
  have h := Int.ediv_mul_cancel (Int.gcd_dvd_left a b)
  unfold lcmI
  rw [Int.mul_assoc, Int.mul_comm b, ← Int.mul_assoc, h]
theorem lcm_pos {a b : Int} (ha : 1 ≤ a) (hb : 1 ≤ b) : 1 ≤ lcmI a b := by
  have h := lcm_mul_gcd (b := b) ha
  have h1 := gcd_pos (b := b) ha
  have h2 : 0 < a * b := Int.mul_pos (by omega) (by omega)
  rw [← h] at h2
  have := Int.pos_of_mul_pos_left h2 (by omega)
  omega
theorem dvd_lcm_right (a b : Int) : b ∣ lcmI a b := ⟨_, Int.mul_comm _ _⟩
theorem dvd_lcm_left {a b : Int} (ha : 1 ≤ a) : a ∣ lcmI a b := by
  obtain ⟨k, hk⟩ := Int.gcd_dvd_right a b
  have h := lcm_mul_gcd (b := b) ha
  have h1 := gcd_pos (b := b) ha
  refine ⟨k, ?_⟩
  have e : lcmI a b * (Int.gcd a b : Nat) = a * k * (Int.gcd a b : Nat) := by
    rw [h, Int.mul_assoc, Int.mul_comm k, ← hk]
  exact Int.eq_of_mul_eq_mul_right (by omega) e
theorem lcm_comm {a b : Int} (ha : 1 ≤ a) (hb : 1 ≤ b) : lcmI a b = lcmI b a := by
  have h := lcm_mul_gcd (b := b) ha
  have h' := lcm_mul_gcd (b := a) hb
  have h1 := gcd_pos (b := b) ha
  rw [Int.gcd_comm b a, Int.mul_comm b a, ← h] at h'
  exact (Int.eq_of_mul_eq_mul_right (by omega) h').symm
theorem bezout_dvd {a b u v g x : Int} (e : u * a + v * b = g) (ha : x ∣ a) (hb : x ∣ b) : x ∣ g := by
  rw [← e]; exact Int.dvd_add (Int.dvd_mul_of_dvd_right ha) (Int.dvd_mul_of_dvd_right hb)
theorem lcm_least {a b x : Int} (ha : 1 ≤ a) (hb : 1 ≤ b) (h1 : a ∣ x) (h2 : b ∣ x) : lcmI a b ∣ x := by
  -- a * b divides x * gcd
  have hg := gcd_pos (b := b) ha
  have h := lcm_mul_gcd (b := b) ha
  have hd : a * b ∣ x * (Int.gcd a b : Nat) := by
    have e : x * ((Int.gcd a b : Nat) : Int) = ((Int.gcd (x * a) (x * b) : Nat) : Int) ∨ x * ((Int.gcd a b : Nat) : Int) = -((Int.gcd (x * a) (x * b) : Nat) : Int) := by
      rw [Int.gcd_mul_left, Int.natCast_mul]
      rcases Int.natAbs_eq x with hx | hx
      · left; rw [← hx]
      · right
        have : ((x.natAbs : Nat) : Int) = -x := by omega
        rw [this, Int.neg_mul, Int.neg_neg]
    have d1 : a * b ∣ x * a := by rw [Int.mul_comm x a]; exact Int.mul_dvd_mul (Int.dvd_refl a) h2
    have d2 : a * b ∣ x * b := by exact Int.mul_dvd_mul h1 (Int.dvd_refl b)
    have d3 := Int.dvd_coe_gcd d1 d2
    rcases e with e | e
    · rw [e]; exact d3
    · rw [e]; exact Int.dvd_neg.mpr d3
  rw [← h] at hd
  exact Int.dvd_of_mul_dvd_mul_right (by omega) hd
theorem lcm_le_mul {a b : Int} (ha : 1 ≤ a) (hb : 1 ≤ b) : lcmI a b ≤ a * b := by
  have h := lcm_mul_gcd (b := b) ha
  have hg := gcd_pos (b := b) ha
  have hl := lcm_pos ha hb
  have := Int.mul_le_mul_of_nonneg_left hg (show (0 : Int) ≤ lcmI a b by omega)
  omega
/-! ### the equation: one step, and how great its numbers grow -/
theorem eq_rest {r1 r2 : Int} (h : r2 ≠ 0) : (0 < r2 → 0 ≤ r1 - r1.fdiv r2 * r2 ∧ r1 - r1.fdiv r2 * r2 < r2) ∧ (r2 < 0 → r2 < r1 - r1.fdiv r2 * r2 ∧ r1 - r1.fdiv r2 * r2 ≤ 0) := by
  constructor
  · intro h0
    rw [Int.fdiv_eq_ediv_of_nonneg _ (by omega)]
    have e := Int.emod_def r1 r2
    rw [Int.mul_comm] at e
    rw [← e]
    exact ⟨Int.emod_nonneg _ h, Int.emod_lt_of_pos _ h0⟩
  · intro h0
    have e1 : r1.fdiv r2 = (-r1) / (-r2) := by
      rw [← Int.fdiv_eq_ediv_of_nonneg (-r1) (show 0 ≤ -r2 by omega), Int.neg_fdiv_neg]
    have e := Int.emod_def (-r1) (-r2)
    have p1 := Int.emod_nonneg (-r1) (show -r2 ≠ 0 by omega)
    have p2 := Int.emod_lt_of_pos (-r1) (show 0 < -r2 by omega)
    rw [e1]
    have : r1 - (-r1) / (-r2) * r2 = -((-r1) % (-r2)) := by
      rw [e, Int.neg_mul, Int.mul_comm r2]; omega
    rw [this]
    omega
theorem gcd_rest (r1 r2 q : Int) : Int.gcd r2 (r1 - q * r2) = Int.gcd r1 r2 := by
  rw [Int.gcd_comm, Int.gcd_sub_mul_right_left]
/-- the sum of both rests times the quotient is no more than four times the sum ahead -/
theorem eq_quot {r1 r2 : Int} (h : r2 ≠ 0) : (r1.fdiv r2).natAbs * r2.natAbs ≤ r1.natAbs + r2.natAbs := by
  have hr := eq_rest (r1 := r1) h
  rw [← Int.natAbs_mul]
  generalize r1.fdiv r2 * r2 = z at *
  rcases Int.lt_or_gt_of_ne h with h0 | h0
  · have := hr.2 h0; omega
  · have := hr.1 h0; omega
/-- numbers so far are at most M, M times the cube of the rests' sum at most B: it stays so -/
theorem eq_grow {r1 r2 : Int} {M B : Nat} (h : r2 ≠ 0) (hs : (0 < r1 ∧ 0 < r2) ∨ (r1 < 0 ∧ r2 < 0)) (hlt : r2.natAbs < r1.natAbs)
    (hB : M * (r1.natAbs + r2.natAbs) ^ 3 ≤ B) : (M * (1 + (r1.fdiv r2).natAbs)) * (r2.natAbs + (r1 - r1.fdiv r2 * r2).natAbs) ^ 3 ≤ B := by
  have hr := eq_rest (r1 := r1) h
  have key : (r1.fdiv r2).natAbs * r2.natAbs + (r1 - r1.fdiv r2 * r2).natAbs = r1.natAbs ∧ 1 ≤ (r1.fdiv r2).natAbs := by
    have e := Int.natAbs_mul (r1.fdiv r2) r2
    rw [← e]
    have q1 : r1.fdiv r2 ≠ 0 := by
      intro z
      rw [z, Int.zero_mul] at hr
      omega
    refine ⟨?_, by omega⟩
    have hq : 0 ≤ r1.fdiv r2 * r2 ∧ 0 < r2 ∨ r1.fdiv r2 * r2 ≤ 0 ∧ r2 < 0 := by
      rcases hs with hs | hs
      · left; refine ⟨?_, hs.2⟩
        have := hr.1 hs.2
        rw [Int.fdiv_eq_ediv_of_nonneg _ (by omega)]
        exact Int.mul_nonneg (Int.ediv_nonneg (by omega) (by omega)) (by omega)
      · right; refine ⟨?_, hs.2⟩
        have e1 : r1.fdiv r2 = (-r1) / (-r2) := by
          rw [← Int.fdiv_eq_ediv_of_nonneg (-r1) (show 0 ≤ -r2 by omega), Int.neg_fdiv_neg]
        rw [e1]
        exact Int.mul_nonpos_of_nonneg_of_nonpos (Int.ediv_nonneg (by omega) (by omega)) (by omega)
    generalize r1.fdiv r2 * r2 = z at *
    rcases hs with hs | hs
    · have := hr.1 hs.2; omega
    · have := hr.2 hs.2; omega
  have h3 : (r1 - r1.fdiv r2 * r2).natAbs < r2.natAbs := by
    generalize r1.fdiv r2 * r2 = z at *
    rcases hs with hs | hs
    · have := hr.1 hs.2; omega
    · have := hr.2 hs.2; omega
  generalize (r1 - r1.fdiv r2 * r2).natAbs = c at *
  generalize (r1.fdiv r2).natAbs = q at *
  generalize r2.natAbs = b at *
  generalize r1.natAbs = a at *
  obtain ⟨k1, k2⟩ := key
  -- S = a + b, S' = b + c; S' (1 + q) ≤ 2 S ; 3 S' ≤ 2 S
  have t1 : (b + c) * (1 + q) ≤ 2 * (a + b) := by
    have : (b + c) * (1 + q) ≤ (2 * b) * (1 + q) := Nat.mul_le_mul_right _ (by omega)
    have e : (2 * b) * (1 + q) = 2 * b + 2 * (q * b) := by rw [Nat.mul_add, Nat.mul_one, Nat.mul_assoc, Nat.mul_comm b q]
    omega
  have t2 : 3 * (b + c) ≤ 2 * (a + b) := by
    have : b ≤ q * b := Nat.le_mul_of_pos_left _ k2
    omega
  have t3 : (3 * (b + c)) * (3 * (b + c)) ≤ (2 * (a + b)) * (2 * (a + b)) := Nat.mul_le_mul t2 t2
  generalize a + b = S at *
  generalize b + c = S' at *
  have t4 : (M * (1 + q) * S') ≤ M * (2 * S) := by
    rw [Nat.mul_assoc, Nat.mul_comm (1 + q)]; exact Nat.mul_le_mul_left _ t1
  have t5 : (M * (1 + q) * S') * ((3 * S') * (3 * S')) ≤ (M * (2 * S)) * ((2 * S) * (2 * S)) := Nat.mul_le_mul t4 t3
  have e1 : (M * (1 + q) * S') * ((3 * S') * (3 * S')) = 9 * (M * (1 + q) * S' ^ 3) := by
    simp only [Nat.pow_succ, Nat.pow_zero, Nat.one_mul]; simp only [Nat.mul_assoc, Nat.mul_comm, Nat.mul_left_comm]
  have e2 : (M * (2 * S)) * ((2 * S) * (2 * S)) = 8 * (M * S ^ 3) := by
    simp only [Nat.pow_succ, Nat.pow_zero, Nat.one_mul]; simp only [Nat.mul_assoc, Nat.mul_comm, Nat.mul_left_comm]
  rw [e1, e2] at t5
  omega
/-- between two turns of the equation, behind the first one -/
structure Later (B : Nat) (u1 v1 r1 u2 v2 r2 : Int) : Prop where
  sg : (0 < r1 ∧ 0 < r2) ∨ (r1 < 0 ∧ r2 < 0) ∨ (r2 = 0 ∧ r1 ≠ 0)
  lt : r2.natAbs < r1.natAbs
  bd : ∃ M : Nat, u1.natAbs ≤ M ∧ v1.natAbs ≤ M ∧ u2.natAbs ≤ M ∧ v2.natAbs ≤ M ∧ M * (r1.natAbs + r2.natAbs) ^ 3 ≤ B
theorem Later.le {B : Nat} {u1 v1 r1 u2 v2 r2 : Int} (h : Later B u1 v1 r1 u2 v2 r2) : u1.natAbs ≤ B ∧ v1.natAbs ≤ B ∧ u2.natAbs ≤ B ∧ v2.natAbs ≤ B := by
  obtain ⟨M, a1, a2, a3, a4, hM⟩ := h.bd
  have hp : 0 < (r1.natAbs + r2.natAbs) ^ 3 := Nat.pow_pos (by have := h.lt; omega)
  have : M ≤ B := Nat.le_trans (Nat.le_mul_of_pos_right M hp) hM
  omega
theorem mul_sub_abs {u1 u2 q : Int} {M : Nat} (h1 : u1.natAbs ≤ M) (h2 : u2.natAbs ≤ M) : (u1 - q * u2).natAbs ≤ M * (1 + q.natAbs) := by
  have e : (q * u2).natAbs ≤ M * q.natAbs := by rw [Int.natAbs_mul, Nat.mul_comm]; exact Nat.mul_le_mul_right _ h2
  rw [Nat.mul_add, Nat.mul_one]
  omega
theorem Later.step {B : Nat} {u1 v1 r1 u2 v2 r2 : Int} (h : Later B u1 v1 r1 u2 v2 r2) (h0 : r2 ≠ 0) :
    Later B u2 v2 r2 (u1 - r1.fdiv r2 * u2) (v1 - r1.fdiv r2 * v2) (r1 - r1.fdiv r2 * r2) := by
  obtain ⟨M, a1, a2, a3, a4, hM⟩ := h.bd
  have hs : (0 < r1 ∧ 0 < r2) ∨ (r1 < 0 ∧ r2 < 0) := by have := h.sg; omega
  have hr := eq_rest (r1 := r1) h0
  refine ⟨?_, ?_, ⟨M * (1 + (r1.fdiv r2).natAbs), ?_, ?_, mul_sub_abs a1 a3, mul_sub_abs a2 a4, eq_grow h0 hs h.lt hM⟩⟩
  · generalize r1 - r1.fdiv r2 * r2 = z at *
    rcases hs with hs | hs
    · have := hr.1 hs.2; omega
    · have := hr.2 hs.2; omega
  · generalize r1 - r1.fdiv r2 * r2 = z at *
    rcases hs with hs | hs
    · have := hr.1 hs.2; omega
    · have := hr.2 hs.2; omega
  · exact Nat.le_trans a3 (Nat.le_mul_of_pos_right M (by omega))
  · exact Nat.le_trans a4 (Nat.le_mul_of_pos_right M (by omega))
theorem Later.first {a b : Int} {n : Nat} (ha : a.natAbs ≤ 2 ^ n) (hb : b.natAbs ≤ 2 ^ n) (h0 : b ≠ 0) :
    Later (2 ^ (4 * n + 6)) 0 1 b (1 - a.fdiv b * 0) (0 - a.fdiv b * 1) (a - a.fdiv b * b) := by
  have hr := eq_rest (r1 := a) h0
  have hq := eq_quot (r1 := a) h0
  have h1 : (a.fdiv b).natAbs ≤ 2 ^ n + 2 ^ n := by
    have : (a.fdiv b).natAbs * 1 ≤ (a.fdiv b).natAbs * b.natAbs := Nat.mul_le_mul_left _ (by omega)
    omega
  refine ⟨?_, ?_, ⟨1 + (a.fdiv b).natAbs, by omega, by omega, ?_, ?_, ?_⟩⟩
  · generalize a - a.fdiv b * b = z at *
    rcases Int.lt_or_gt_of_ne h0 with h | h
    · have := hr.2 h; omega
    · have := hr.1 h; omega
  · generalize a - a.fdiv b * b = z at *
    rcases Int.lt_or_gt_of_ne h0 with h | h
    · have := hr.2 h; omega
    · have := hr.1 h; omega
  · rw [Int.mul_zero]; omega
  · rw [Int.mul_one]; omega
  · have h2 : b.natAbs + (a - a.fdiv b * b).natAbs ≤ 2 * 2 ^ n := by
      generalize a - a.fdiv b * b = z at *
      rcases Int.lt_or_gt_of_ne h0 with h | h
      · have := hr.2 h; omega
      · have := hr.1 h; omega
    have hp : 1 ≤ 2 ^ n := Nat.pow_pos (by decide)
    have h3 : 1 + (a.fdiv b).natAbs ≤ 2 ^ (n + 2) := by rw [Nat.pow_add]; omega
    have h4 : (b.natAbs + (a - a.fdiv b * b).natAbs) ^ 3 ≤ (2 ^ (n + 1)) ^ 3 := Nat.pow_le_pow_left (by rw [Nat.pow_add]; omega) 3
    have h5 := Nat.mul_le_mul h3 h4
    rw [← Nat.pow_mul, ← Nat.pow_add] at h5
    exact Nat.le_trans h5 (Nat.pow_le_pow_right (by decide) (by omega))
theorem fdiv_abs_le {r1 r2 : Int} (h : r2 ≠ 0) : (r1.fdiv r2).natAbs ≤ r1.natAbs + r2.natAbs := by
  have hq := eq_quot (r1 := r1) h
  have : (r1.fdiv r2).natAbs * 1 ≤ (r1.fdiv r2).natAbs * r2.natAbs := Nat.mul_le_mul_left _ (by omega)
  omega
theorem rest_lt {r1 r2 : Int} (h : r2 ≠ 0) : (r1 - r1.fdiv r2 * r2).natAbs < r2.natAbs := by
  have hr := eq_rest (r1 := r1) h
  generalize r1 - r1.fdiv r2 * r2 = z at *
  rcases Int.lt_or_gt_of_ne h with h | h
  · have := hr.2 h; omega
  · have := hr.1 h; omega
theorem bez_step {a b u1 v1 r1 u2 v2 r2 q : Int} (h1 : u1 * a + v1 * b = r1) (h2 : u2 * a + v2 * b = r2) : (u1 - q * u2) * a + (v1 - q * v2) * b = r1 - q * r2 := by
  rw [← h1, ← h2, Int.sub_mul, Int.sub_mul, Int.mul_add, Int.mul_assoc, Int.mul_assoc]
  omega
theorem met_ok {n m r s u v : Int} (hn : 1 ≤ n) (hm : 1 ≤ m) (hb : u * n + v * m = (Int.gcd n m : Nat)) (hd : (s - r) % (Int.gcd n m : Nat) = 0) :
    n ∣ (r + n * u * ((s - r) / (Int.gcd n m : Nat))) % lcmI n m - r ∧ m ∣ (r + n * u * ((s - r) / (Int.gcd n m : Nat))) % lcmI n m - s := by
  have hg := gcd_pos (b := m) hn
  have hk : (Int.gcd n m : Nat) * ((s - r) / (Int.gcd n m : Nat)) = s - r := by
    have := Int.emod_add_mul_ediv (s - r) (Int.gcd n m : Nat)
    omega
  generalize ((Int.gcd n m : Nat) : Int) = g at *
  generalize (s - r) / g = k at *
  have hL1 := dvd_lcm_left (b := m) hn
  have hL2 := dvd_lcm_right n m
  have e := Int.emod_def (r + n * u * k) (lcmI n m)
  rw [e]
  generalize (r + n * u * k) / lcmI n m = z
  constructor
  · have : r + n * u * k - lcmI n m * z - r = n * (u * k) - lcmI n m * z := by rw [Int.mul_assoc]; omega
    rw [this]
    exact Int.dvd_sub (Int.dvd_mul_right _ _) (Int.dvd_mul_of_dvd_left hL1)
  · have h2 : n * u * k = g * k - m * (v * k) := by
      have : n * u = g - m * v := by rw [← hb, Int.mul_comm u n, Int.mul_comm v m]; omega
      rw [this, Int.sub_mul, Int.mul_assoc]
    have : r + n * u * k - lcmI n m * z - s = -(m * (v * k)) - lcmI n m * z := by omega
    rw [this]
    exact Int.dvd_sub (Int.dvd_neg.mpr (Int.dvd_mul_right _ _)) (Int.dvd_mul_of_dvd_left hL2)
theorem alike_both {n m r s x d : Int} (hn : 1 ≤ n) (hm : 1 ≤ m) (h1 : n ∣ x - r) (h2 : m ∣ x - s) : ((d - r) % n = 0 ∧ (d - s) % m = 0) ↔ (d - x) % lcmI n m = 0 := by
  constructor
  · rintro ⟨a1, a2⟩
    have b1 := Int.dvd_of_emod_eq_zero a1
    have b2 := Int.dvd_of_emod_eq_zero a2
    refine Int.emod_eq_zero_of_dvd (lcm_least hn hm ?_ ?_)
    · have := Int.dvd_sub b1 h1; rwa [show d - r - (x - r) = d - x by omega] at this
    · have := Int.dvd_sub b2 h2; rwa [show d - s - (x - s) = d - x by omega] at this
  · intro a
    have b := Int.dvd_of_emod_eq_zero a
    refine ⟨Int.emod_eq_zero_of_dvd ?_, Int.emod_eq_zero_of_dvd ?_⟩
    · have := Int.dvd_add (Int.dvd_trans (dvd_lcm_left hn) b) h1; rwa [show d - x + (x - r) = d - r by omega] at this
    · have := Int.dvd_add (Int.dvd_trans (dvd_lcm_right n m) b) h2; rwa [show d - x + (x - s) = d - s by omega] at this

end

/-! ### numbers by their bits -/
def ofB (f : Nat → Bool) : Nat → Nat
  | 0 => 0
  | k + 1 => ofB f k + if f k then 2 ^ k else 0
theorem ofB_lt (f : Nat → Bool) : ∀ n, ofB f n < 2 ^ n
  | 0 => by simp [ofB]
  | k + 1 => by
    have := ofB_lt f k
    unfold ofB
    rw [Nat.pow_succ]
    split <;> omega
theorem tb_ofB (f : Nat → Bool) : ∀ n i, (ofB f n).testBit i = (decide (i < n) && f i)
  | 0, i => by simp [ofB]
  | k + 1, i => by
    have ih := tb_ofB f k
    have hl := ofB_lt f k
    unfold ofB
    by_cases hf : f k = true
    · rw [if_pos hf]
      have e : ofB f k + 2 ^ k = 2 ^ k * 1 + ofB f k := by omega
      rw [e, Nat.testBit_two_pow_mul_add _ hl]
      by_cases h : i < k
      · rw [if_pos h, ih, decide_eq_true h, decide_eq_true (show i < k + 1 by omega)]
      · rw [if_neg h]
        by_cases h2 : i = k
        · subst h2; simp [hf]
        · rw [decide_eq_false (show ¬ i < k + 1 by omega)]
          have : i - k ≠ 0 := by omega
          
          have t1 : Nat.testBit 1 (i - k) = false := by
            cases e1 : Nat.testBit 1 (i - k) with
            | false => rfl
            | true => exact absurd (Nat.testBit_one_eq_true_iff_self_eq_zero.mp e1) this
          simp [t1]
    · rw [if_neg hf, Nat.add_zero, ih]
      by_cases h2 : i = k
      · subst h2
        have hf' : f i = false := by simpa using hf
        simp [hf']
      · have : (decide (i < k)) = decide (i < k + 1) := by
          by_cases h : i < k
          · rw [decide_eq_true h, decide_eq_true (show i < k + 1 by omega)]
          · rw [decide_eq_false h, decide_eq_false (show ¬ i < k + 1 by omega)]
        rw [this]
theorem ofB_ext {f g : Nat → Bool} {n : Nat} (h : ∀ i, i < n → f i = g i) : ofB f n = ofB g n := by
  apply Nat.eq_of_testBit_eq
  intro i
  rw [tb_ofB, tb_ofB]
  by_cases hi : i < n
  · rw [h i hi]
  · rw [decide_eq_false hi]; rfl
theorem eq_ofB {x n : Nat} {f : Nat → Bool} (hx : ∀ i, x.testBit i = (decide (i < n) && f i)) : x = ofB f n := by
  apply Nat.eq_of_testBit_eq
  intro i
  rw [tb_ofB]; exact hx i
theorem ofB_self {x n : Nat} (hx : x < 2 ^ n) : ofB x.testBit n = x := by
  symm
  apply eq_ofB
  intro i
  by_cases hi : i < n
  · rw [decide_eq_true hi]; rfl
  · rw [decide_eq_false hi, Bool.false_and]
    exact Nat.testBit_lt_two_pow (Nat.lt_of_lt_of_le hx (Nat.pow_le_pow_right (by decide) (by omega)))
/-- whether a round holds on a day -/
def hold (n b : Nat) (d : Int) : Bool := b.testBit (d % (n : Int)).toNat
/-- the bits of the days of one round -/
def bitsOf (n : Nat) (f : Int → Bool) : Nat := ofB (fun i => f i) n
theorem bitsOf_lt (n : Nat) (f : Int → Bool) : bitsOf n f < 2 ^ n := ofB_lt _ _
theorem mod_lt' {n : Nat} (hn : 1 ≤ n) (d : Int) : (d % (n : Int)).toNat < n ∧ (((d % (n : Int)).toNat : Nat) : Int) = d % (n : Int) := by
  have h1 := Int.emod_nonneg d (show (n : Int) ≠ 0 by omega)
  have h2 := Int.emod_lt_of_pos d (show (0 : Int) < n by omega)
  omega
theorem hold_bitsOf {n : Nat} (hn : 1 ≤ n) (f : Int → Bool) (d : Int) : hold n (bitsOf n f) d = f (d % (n : Int)) := by
  obtain ⟨h1, h2⟩ := mod_lt' hn d
  unfold hold bitsOf
  rw [tb_ofB, decide_eq_true h1, Bool.true_and, h2]
theorem hold_per (n b : Nat) (d : Int) : hold n b (d % (n : Int)) = hold n b d := by
  unfold hold
  rw [Int.emod_emod_of_dvd _ (Int.dvd_refl _)]
theorem hold_eq {n b : Nat} {d e : Int} (h : d % (n : Int) = e % (n : Int)) : hold n b d = hold n b e := by
  unfold hold; rw [h]
theorem hold_nat {n b i : Nat} (hi : i < n) : hold n b (i : Int) = b.testBit i := by
  unfold hold
  have : ((i : Int) % (n : Int)) = i := Int.emod_eq_of_lt (by omega) (by omega)
  rw [this]; rfl
theorem bitsOf_self {n b : Nat} (hb : b < 2 ^ n) : bitsOf n (hold n b) = b := by
  unfold bitsOf
  rw [ofB_ext (g := b.testBit) (fun i hi => hold_nat hi)]
  exact ofB_self hb
theorem bitsOf_ext {n : Nat} {f g : Int → Bool} (h : ∀ i : Nat, i < n → f i = g i) : bitsOf n f = bitsOf n g := ofB_ext h
theorem eq_bitsOf {x n : Nat} {f : Int → Bool} (hx : x < 2 ^ n) (h : ∀ i : Nat, i < n → x.testBit i = f i) : x = bitsOf n f := by
  apply eq_ofB
  intro i
  by_cases hi : i < n
  · rw [decide_eq_true hi, h i hi]; rfl
  · rw [decide_eq_false hi, Bool.false_and]
    exact Nat.testBit_lt_two_pow (Nat.lt_of_lt_of_le hx (Nat.pow_le_pow_right (by decide) (by omega)))
theorem hold_mod {n : Nat} {f : Int → Bool} (hn : 1 ≤ n) (hf : ∀ d : Int, f (d % (n : Int)) = f d) (d : Int) : hold n (bitsOf n f) d = f d := by
  rw [hold_bitsOf hn, hf]
/-! ### the machine's operators on numbers from 0 on -/
theorem and_c (a b : Nat) : Builtin.bitAnd (a : Int) (b : Int) = ((a &&& b : Nat) : Int) := by
  rw [bitAnd_pp (Int.natCast_nonneg _) (Int.natCast_nonneg _), Int.toNat_natCast, Int.toNat_natCast]
theorem or_c (a b : Nat) : Builtin.bitOr (a : Int) (b : Int) = ((a ||| b : Nat) : Int) := by
  rw [bitOr_nn (Int.natCast_nonneg _) (Int.natCast_nonneg _), Int.toNat_natCast, Int.toNat_natCast]
theorem xor_c (a b : Nat) : Builtin.bitXor (a : Int) (b : Int) = ((a ^^^ b : Nat) : Int) := by
  rw [Bits.bitXor_pp (Int.natCast_nonneg _) (Int.natCast_nonneg _), Int.toNat_natCast, Int.toNat_natCast]
theorem pow_c (k : Nat) : (2 : Int) ^ k = ((2 ^ k : Nat) : Int) := (PySem.W.kbt_cast k).symm
theorem shl_c (a k : Nat) : (a : Int) * 2 ^ k = ((a * 2 ^ k : Nat) : Int) := by rw [pow_c, Int.natCast_mul]
theorem shr_c (a k : Nat) : (a : Int) / 2 ^ k = ((a / 2 ^ k : Nat) : Int) := by rw [pow_c, Int.natCast_ediv]
theorem mask_c (k : Nat) : (2 : Int) ^ k - 1 = ((2 ^ k - 1 : Nat) : Int) := by
  have := Nat.two_pow_pos k
  rw [pow_c]; omega
/-- (bits >> place) & 1 == 1 -/
theorem on_val (b : Nat) (z : Int) : decide (Builtin.bitAnd ((b : Int) / 2 ^ z.toNat) 1 = 1) = b.testBit z.toNat := by
  rw [shr_c, bitAnd_m1, Nat.testBit_eq_decide_div_mod_eq]
  congr 1
  apply propext
  omega
/-- (bits >> place) % 2 == 1 -/
theorem on_val2 (b : Nat) (z : Int) : decide ((b : Int) / 2 ^ z.toNat % 2 = 1) = b.testBit z.toNat := by
  rw [shr_c, Nat.testBit_eq_decide_div_mod_eq]
  congr 1
  apply propext
  omega
theorem and_mask (a k : Nat) : Builtin.bitAnd (a : Int) (2 ^ k - 1) = ((a % 2 ^ k : Nat) : Int) := by
  rw [mask_c, and_c, Nat.and_two_pow_sub_one_eq_mod]
theorem sm_nat {x n : Nat} (h : x < 2 ^ n) : Sm n (x : Int) := ⟨by rw [Int.natAbs_natCast]; exact h⟩
theorem sm_ofB {f : Nat → Bool} {m : Nat} (h : m ≤ 400000) : Sm 400000 ((ofB f m : Nat) : Int) := sm_mono (sm_nat (ofB_lt f m)) h
theorem sm_bitsOf {f : Int → Bool} {m : Nat} (h : m ≤ 400000) : Sm 400000 ((bitsOf m f : Nat) : Int) := sm_mono (sm_nat (bitsOf_lt m f)) h
theorem cshl {i j : Int} {n : Nat} (hi : Sm n i) (h0 : 0 ≤ j) (hj : j ≤ 100000000) (hn : n ≤ 34217728) : CShl i j := by
  obtain ⟨k, rfl⟩ := Int.eq_ofNat_of_zero_le h0
  exact shl_ok hi.h (by omega)
theorem sm_modp {x k n : Nat} (h : Sm n (x : Int)) : Sm n ((x % 2 ^ k : Nat) : Int) := by
  have h1 := h.h
  rw [Int.natAbs_natCast] at h1
  exact sm_nat (Nat.lt_of_le_of_lt (Nat.mod_le _ _) h1)
theorem sm_divp {x k n : Nat} (h : Sm n (x : Int)) : Sm n ((x / 2 ^ k : Nat) : Int) := by
  have h1 := h.h
  rw [Int.natAbs_natCast] at h1
  exact sm_nat (Nat.lt_of_le_of_lt (Nat.div_le_self _ _) h1)
theorem sm_shl {x n : Nat} {j : Int} (h : Sm n (x : Int)) (hj : j ≤ 400000) : Sm (n + 400000) ((x * 2 ^ j.toNat : Nat) : Int) := by
  have h1 := h.h
  rw [Int.natAbs_natCast] at h1
  refine sm_nat ?_
  rw [Nat.pow_add]
  exact Nat.mul_lt_mul_of_lt_of_le h1 (Nat.pow_le_pow_right (by decide) (by omega)) (Nat.two_pow_pos _)
theorem sm_or {x y n m : Nat} (h : Sm n (x : Int)) (h' : Sm m (y : Int)) : Sm (n + m) ((x ||| y : Nat) : Int) := by
  have h1 := (sm_mono h (Nat.le_add_right n m)).h
  have h2 := (sm_mono h' (Nat.le_add_left m n)).h
  rw [Int.natAbs_natCast] at h1 h2
  exact sm_nat (Nat.or_lt_two_pow h1 h2)
theorem sm_xor {x y n m : Nat} (h : Sm n (x : Int)) (h' : Sm m (y : Int)) : Sm (n + m) ((x ^^^ y : Nat) : Int) := by
  have h1 := (sm_mono h (Nat.le_add_right n m)).h
  have h2 := (sm_mono h' (Nat.le_add_left m n)).h
  rw [Int.natAbs_natCast] at h1 h2
  exact sm_nat (Nat.xor_lt_two_pow h1 h2)
theorem sm_and {x y n : Nat} (h : Sm n (x : Int)) : Sm n ((x &&& y : Nat) : Int) := by
  have h1 := h.h
  rw [Int.natAbs_natCast] at h1
  exact sm_nat (Nat.lt_of_le_of_lt Nat.and_le_left h1)
theorem sm_mask {j : Int} (hj : j ≤ 400000) : Sm 400001 ((2 : Int) ^ j.toNat - 1) := by
  rw [mask_c]
  refine sm_nat ?_
  have : 2 ^ j.toNat ≤ 2 ^ 400000 := Nat.pow_le_pow_right (by decide) (by omega)
  have h2 : (2 : Nat) ^ 400001 = 2 ^ 400000 * 2 := Nat.pow_succ ..
  have := Nat.two_pow_pos 400000
  generalize (2 : Nat) ^ 400000 = X at *
  omega
/-! ### steps: the operators on numbers from 0 on -/
section
variable {H : Hp} {Q : VK} {x y k : Nat} {j : Int}
theorem k_andm (q : Q (.int ((x % 2 ^ k : Nat) : Int)) H) : rI0 (fun i j => .int (Builtin.bitAnd i j)) (.int (x : Int)) (.int (2 ^ k - 1)) H Q := ⟨_, _, rfl, rfl, by dsimp only; rw [and_mask]; exact q⟩
theorem k_andc (q : Q (.int ((x &&& y : Nat) : Int)) H) : rI0 (fun i j => .int (Builtin.bitAnd i j)) (.int (x : Int)) (.int (y : Int)) H Q := ⟨_, _, rfl, rfl, by dsimp only; rw [and_c]; exact q⟩
theorem k_orc (q : Q (.int ((x ||| y : Nat) : Int)) H) : rI0 (fun i j => .int (Builtin.bitOr i j)) (.int (x : Int)) (.int (y : Int)) H Q := ⟨_, _, rfl, rfl, by dsimp only; rw [or_c]; exact q⟩
theorem k_xorc (q : Q (.int ((x ^^^ y : Nat) : Int)) H) : rI0 (fun i j => .int (Builtin.bitXor i j)) (.int (x : Int)) (.int (y : Int)) H Q := ⟨_, _, rfl, rfl, by dsimp only; rw [xor_c]; exact q⟩
theorem k_xorm (q : Q (.int ((x ^^^ (2 ^ k - 1) : Nat) : Int)) H) : rI0 (fun i j => .int (Builtin.bitXor i j)) (.int (x : Int)) (.int (2 ^ k - 1)) H Q := ⟨_, _, rfl, rfl, by dsimp only; rw [mask_c, xor_c]; exact q⟩
theorem k_shlc (c : CShl (x : Int) j) (q : Q (.int ((x * 2 ^ j.toNat : Nat) : Int)) H) : rI CShl (fun i j => .int (i * 2 ^ j.toNat)) (.int (x : Int)) (.int j) H Q := ⟨_, _, rfl, rfl, c, by dsimp only; rw [shl_c]; exact q⟩
theorem k_shrc (c : 0 ≤ j) (q : Q (.int ((x / 2 ^ j.toNat : Nat) : Int)) H) : rI (fun _ j => 0 ≤ j) (fun i j => .int (i / 2 ^ j.toNat)) (.int (x : Int)) (.int j) H Q := ⟨_, _, rfl, rfl, c, by dsimp only; rw [shr_c]; exact q⟩
/-- 1 << k -/
theorem k_shl1 (c : 0 ≤ j ∧ j ≤ 100000000) (q : Q (.int ((2 ^ j.toNat : Nat) : Int)) H) : rI CShl (fun i j => .int (i * 2 ^ j.toNat)) (.int 1) (.int j) H Q :=
  ⟨_, _, rfl, rfl, cshl (sm41 (by omega) (by omega)) c.1 c.2 (by decide), by dsimp only; rw [Int.one_mul, pow_c]; exact q⟩
end
/-! ### rounds -/
/-- a round at an address: its size and its bits -/
structure RT (K : PySem.W.Frag) (H : Hp) (a : Addr) (n b : Nat) : Prop where
  t : SqT K H a [.int (n : Int), .int (b : Int)]
  n1 : 1 ≤ n
  n2 : n ≤ 150000
  lt : b < 2 ^ n
theorem RT.mono {K : PySem.W.Frag} {H H' : Hp} {a : Addr} {n b : Nat} (r : RT K H a n b) (e : Same H H') : RT K H' a n b := ⟨same_t e r.t, r.n1, r.n2, r.lt⟩
theorem RT.sm {K : PySem.W.Frag} {H : Hp} {a : Addr} {n b : Nat} (r : RT K H a n b) : Sm 400000 (b : Int) := sm_mono (sm_nat r.lt) (by have := r.n2; omega)
/-! ### stretched -/
theorem str_step {g : Nat → Bool} {h k n : Nat} (hg : ∀ i, g (i % n) = g i) (hn : n ∣ h) (hk : k ≤ h) :
    (ofB g h) ||| (ofB g h % 2 ^ k * 2 ^ h) = ofB g (h + k) := by
  apply eq_ofB
  intro i
  rw [Nat.testBit_or, tb_ofB, Nat.testBit_mul_two_pow, Nat.testBit_mod_two_pow, tb_ofB]
  by_cases h1 : i < h
  · rw [decide_eq_true h1, decide_eq_false (show ¬ h ≤ i by omega), decide_eq_true (show i < h + k by omega)]
    simp
  · rw [decide_eq_false h1, decide_eq_true (show h ≤ i by omega)]
    by_cases h2 : i < h + k
    · rw [decide_eq_true h2, decide_eq_true (show i - h < k by omega), decide_eq_true (show i - h < h by omega)]
      have : g (i - h) = g i := by
        rw [← hg (i - h), ← hg i]
        obtain ⟨c, rfl⟩ := hn
        congr 1
        have e : i = (i - n * c) + n * c := by omega
        conv => rhs; rw [e]
        rw [Nat.add_mul_mod_self_left]
      simp [this]
    · rw [decide_eq_false h2, decide_eq_false (show ¬ i - h < k by omega)]
      simp
/-- the bits of a round told by a multiple of its size -/
theorem str_bits {n b m : Nat} (hn : 1 ≤ n) : ofB (fun i => b.testBit (i % n)) m = bitsOf m (hold n b) := by
  unfold bitsOf
  apply ofB_ext
  intro i _
  unfold hold
  congr 1
theorem str_start {n b : Nat} (hb : b < 2 ^ n) : b = ofB (fun i => b.testBit (i % n)) n := by
  apply eq_ofB
  intro i
  by_cases hi : i < n
  · rw [decide_eq_true hi, Nat.mod_eq_of_lt hi]; rfl
  · rw [decide_eq_false hi, Bool.false_and]
    exact Nat.testBit_lt_two_pow (Nat.lt_of_lt_of_le hb (Nat.pow_le_pow_right (by decide) (by omega)))
/-! ### the other functions over rounds -/
theorem on_valc (b : Nat) (z : Nat) : decide (Builtin.bitAnd ((b / 2 ^ z : Nat) : Int) 1 = 1) = b.testBit z := by
  rw [bitAnd_m1, Nat.testBit_eq_decide_div_mod_eq]
  congr 1
  apply propext
  omega
theorem on_valc2 (b : Nat) (z : Nat) : decide (((b / 2 ^ z : Nat) : Int) % 2 = 1) = b.testBit z := by
  rw [Nat.testBit_eq_decide_div_mod_eq]
  congr 1
  apply propext
  omega
theorem hold_dvd {n b m : Nat} (hd : n ∣ m) (d : Int) : hold n b (d % (m : Int)) = hold n b d := by
  unfold hold
  rw [Int.emod_emod_of_dvd _ (Int.natCast_dvd_natCast.mpr hd)]
theorem hold_str {n b m : Nat} (hm : 1 ≤ m) (hd : n ∣ m) (d : Int) : hold m (bitsOf m (hold n b)) d = hold n b d := hold_mod hm (fun d => hold_dvd hd d) d
theorem tb_bitsOf (n : Nat) (f : Int → Bool) (i : Nat) : (bitsOf n f).testBit i = (decide (i < n) && f i) := tb_ofB _ _ _
theorem both_bits (m : Nat) (f g : Int → Bool) : bitsOf m f &&& bitsOf m g = bitsOf m (fun d => f d && g d) := by
  apply Nat.eq_of_testBit_eq; intro i
  simp only [Nat.testBit_and, tb_bitsOf]
  cases decide (i < m) <;> simp
theorem either_bits (m : Nat) (f g : Int → Bool) : bitsOf m f ||| bitsOf m g = bitsOf m (fun d => f d || g d) := by
  apply Nat.eq_of_testBit_eq; intro i
  simp only [Nat.testBit_or, tb_bitsOf]
  cases decide (i < m) <;> simp
theorem unlike_bits (m : Nat) (f g : Int → Bool) : bitsOf m f ^^^ bitsOf m g = bitsOf m (fun d => f d != g d) := by
  apply Nat.eq_of_testBit_eq; intro i
  simp only [Nat.testBit_xor, tb_bitsOf]
  cases decide (i < m) <;> simp
theorem without_bits (m : Nat) (f g : Int → Bool) : bitsOf m f ^^^ (bitsOf m f &&& bitsOf m g) = bitsOf m (fun d => f d && !g d) := by
  apply Nat.eq_of_testBit_eq; intro i
  simp only [Nat.testBit_xor, Nat.testBit_and, tb_bitsOf]
  cases decide (i < m) <;> simp
  cases f i <;> cases g i <;> rfl
theorem other_bits {n b : Nat} (hb : b < 2 ^ n) : b ^^^ (2 ^ n - 1) = bitsOf n (fun d => !hold n b d) := by
  apply Nat.eq_of_testBit_eq; intro i
  rw [Nat.testBit_xor, Nat.testBit_two_pow_sub_one, tb_bitsOf]
  by_cases h : i < n
  · rw [decide_eq_true h, hold_nat h]; cases b.testBit i <;> rfl
  · rw [decide_eq_false h, Nat.testBit_lt_two_pow (Nat.lt_of_lt_of_le hb (Nat.pow_le_pow_right (by decide) (by omega)))]; rfl
/-- ((b << s) | (b >> (n - s))) & mask(n), s the remainder of the number -/
theorem later_bits {n b : Nat} (hn : 1 ≤ n) (hb : b < 2 ^ n) (k : Int) :
    ((b * 2 ^ (k % (n : Int)).toNat) ||| (b / 2 ^ ((n : Int) - k % (n : Int)).toNat)) % 2 ^ n = bitsOf n (fun d => hold n b (d - k)) := by
  obtain ⟨h1, h2⟩ := mod_lt' hn k
  have ed := Int.emod_add_mul_ediv k (n : Int)
  generalize hs : (k % (n : Int)).toNat = s at *
  have e2 : ((n : Int) - k % (n : Int)).toNat = n - s := by omega
  rw [e2]
  apply Nat.eq_of_testBit_eq; intro i
  rw [Nat.testBit_mod_two_pow, Nat.testBit_or, Nat.testBit_mul_two_pow, Nat.testBit_div_two_pow, tb_bitsOf]
  by_cases h : i < n
  · rw [decide_eq_true h, Bool.true_and, Bool.true_and]
    by_cases h3 : s ≤ i
    · have e : ((i : Int) - k) % (n : Int) = ((i - s : Nat) : Int) % (n : Int) := by
        have : (i : Int) - k = ((i - s : Nat) : Int) - n * (k / n) := by omega
        rw [this, Int.sub_mul_emod_self_left]
      rw [decide_eq_true h3, hold_eq e, hold_nat (by omega), Nat.testBit_lt_two_pow (x := b) (i := i + (n - s)) (Nat.lt_of_lt_of_le hb (Nat.pow_le_pow_right (by decide) (by omega)))]
      simp
    · have e : ((i : Int) - k) % (n : Int) = ((i + (n - s) : Nat) : Int) % (n : Int) := by
        have : (i : Int) - k = ((i + (n - s) : Nat) : Int) - n * (k / n + 1) := by rw [Int.mul_add]; omega
        rw [this, Int.sub_mul_emod_self_left]
      rw [decide_eq_false h3, hold_eq e, hold_nat (by omega)]
      simp
  · rw [decide_eq_false h]; rfl
theorem lcm_c {n m : Nat} (hn : 1 ≤ n) : lcmI (n : Int) (m : Int) = ((Nat.lcm n m : Nat) : Int) := by
  have h1 := lcm_mul_gcd (a := (n : Int)) (b := (m : Int)) (by omega)
  have hg := gcd_pos (a := (n : Int)) (b := (m : Int)) (by omega)
  have h2 := Nat.gcd_mul_lcm n m
  have e : ((Int.gcd (n : Int) (m : Int) : Nat) : Int) = ((Nat.gcd n m : Nat) : Int) := by rw [Int.gcd_natCast_natCast]
  rw [e] at h1 hg
  have h3 : ((Nat.lcm n m : Nat) : Int) * ((Nat.gcd n m : Nat) : Int) = (n : Int) * m := by
    rw [← Int.natCast_mul, ← Int.natCast_mul, Nat.mul_comm, h2]
  exact Int.eq_of_mul_eq_mul_right (by omega) (h1.trans h3.symm)
theorem lcm1 {n m : Nat} (hn : 1 ≤ n) (hm : 1 ≤ m) : 1 ≤ Nat.lcm n m := Nat.lcm_pos hn hm
/-! ### drawn rounds -/
theorem pow_pos_c (k : Nat) : (0 : Int) < ((2 ^ k : Nat) : Int) := by have := Nat.two_pow_pos k; omega
theorem natmod (i : Int) (n : Nat) : ∃ x : Nat, i % ((2 ^ (n : Int).toNat : Nat) : Int) = (x : Int) ∧ x < 2 ^ n := by
  rw [Int.toNat_natCast]
  have hp := Nat.two_pow_pos n
  have h1 := Int.emod_nonneg i (show ((2 ^ n : Nat) : Int) ≠ 0 by omega)
  have h2 := Int.emod_lt_of_pos i (show (0 : Int) < ((2 ^ n : Nat) : Int) by omega)
  exact ⟨(i % ((2 ^ n : Nat) : Int)).toNat, by omega, by omega⟩
theorem mask_nat (n : Nat) : ((2 ^ (n : Int).toNat : Nat) : Int) - 1 = ((2 ^ n - 1 : Nat) : Int) := by
  rw [Int.toNat_natCast]
  have hp := Nat.two_pow_pos n
  omega
theorem one_lt {n : Nat} (hn : 1 ≤ n) (z : Int) : 2 ^ (z % (n : Int)).toNat < 2 ^ n := Nat.pow_lt_pow_right (by decide) (mod_lt' hn z).1
theorem pow_le {n : Nat} : 2 ^ n - 1 < 2 ^ n := by have := Nat.two_pow_pos n; omega
/-- what a law asks of a told round: from 0 on and below 1 << size -/
theorem told_bits {n b : Nat} (h : b < 2 ^ n) : ((b : Nat) : Int) < ((2 ^ (n : Int).toNat : Nat) : Int) := by rw [Int.toNat_natCast]; exact Int.ofNat_lt.mpr h
def sp_round (K : PySem.W.Frag) (S : Nat) : Sp := fun vs H Q _ => ∃ (x y : Int), vs = [.int x, .int y] ∧ Sm 1048576 x ∧ Sm 1048576 y ∧
  ∀ (p : Addr) (H' : Hp) (n b : Nat), Same H H' → RT K H' p n b → n ≤ S → Q (.ref p) H'
theorem k_round {K : PySem.W.Frag} {S : Nat} {H : Hp} {Q : VK} {E : XK} {x y : Int} (h1 : Sm 1048576 x) (h2 : Sm 1048576 y)
    (q : ∀ (p : Addr) (H' : Hp) (n b : Nat), Same H H' → RT K H' p n b → n ≤ S → Q (.ref p) H') : sp_round K S [.int x, .int y] H Q E := ⟨x, y, rfl, h1, h2, q⟩
/-! ### folded -/
/-- the days of a round by a divisor of its size -/
def foldB (s b : Nat) : Nat → Nat
  | 0 => 0
  | k + 1 => (b % 2 ^ s) ||| foldB s (b / 2 ^ s) k
theorem tb_fold (s : Nat) : ∀ (k b i : Nat), (foldB s b k).testBit i = true ↔ (i < s ∧ ∃ j, j < k ∧ b.testBit (i + j * s) = true)
  | 0, b, i => by simp [foldB]
  | k + 1, b, i => by
    have ih := tb_fold s k (b / 2 ^ s) i
    unfold foldB
    rw [Nat.testBit_or, Bool.or_eq_true, ih, Nat.testBit_mod_two_pow, Bool.and_eq_true, decide_eq_true_eq]
    constructor
    · rintro (⟨h1, h2⟩ | ⟨h1, j, h2, h3⟩)
      · exact ⟨h1, 0, by omega, by simpa using h2⟩
      · refine ⟨h1, j + 1, by omega, ?_⟩
        rw [Nat.testBit_div_two_pow] at h3
        rw [Nat.add_mul, Nat.one_mul, ← Nat.add_assoc]; exact h3
    · rintro ⟨h1, j, h2, h3⟩
      cases j with
      | zero => exact .inl ⟨h1, by simpa using h3⟩
      | succ j =>
        refine .inr ⟨h1, j, by omega, ?_⟩
        rw [Nat.testBit_div_two_pow]
        rw [Nat.add_mul, Nat.one_mul, ← Nat.add_assoc] at h3; exact h3
theorem fold_lt (s b k : Nat) : foldB s b k < 2 ^ s := by
  apply Nat.lt_pow_two_of_testBit
  intro i hi
  cases h : (foldB s b k).testBit i with
  | false => rfl
  | true =>
    have := (tb_fold s k b i).mp h
    omega
theorem fold_zero (s : Nat) : ∀ k, foldB s 0 k = 0
  | 0 => rfl
  | k + 1 => by unfold foldB; rw [Nat.zero_div, fold_zero s k]; simp
/-- it holds where the round holds on some day that is alike -/
theorem fold_hold {n s b : Nat} (hn : 1 ≤ n) (hs : 1 ≤ s) (hd : s ∣ n) (hb : b < 2 ^ n) (d : Int) : hold s (foldB s b (n / s)) d = true ↔ ∃ e : Int, hold n b e = true ∧ (e - d) % (s : Int) = 0 := by
  obtain ⟨c, rfl⟩ := hd
  have hc : s * c / s = c := Nat.mul_div_cancel_left c (by omega)
  rw [hc]
  obtain ⟨h1, h2⟩ := mod_lt' hs d
  unfold hold
  rw [tb_fold]
  constructor
  · rintro ⟨_, j, hj, hjb⟩
    refine ⟨((((d % (s : Int)).toNat + j * s : Nat)) : Int), ?_, ?_⟩
    · have hlt : (d % (s : Int)).toNat + j * s < s * c := by
        have : (j + 1) * s ≤ c * s := Nat.mul_le_mul_right _ hj
        rw [Nat.add_mul, Nat.one_mul, Nat.mul_comm c s] at this
        omega
      rw [Int.emod_eq_of_lt (by omega) (by omega), Int.toNat_natCast]
      exact hjb
    · rw [Int.natCast_add, h2, Int.natCast_mul]
      have e := Int.emod_add_mul_ediv d (s : Int)
      have : d % (s : Int) + (j : Int) * (s : Int) - d = (s : Int) * (j - d / s) := by rw [Int.mul_sub, Int.mul_comm (s : Int) j]; omega
      rw [this, Int.mul_emod_right]
  · rintro ⟨e, he, hed⟩
    have hsc : (1 : Nat) ≤ s * c := hn
    obtain ⟨g1, g2⟩ := mod_lt' hsc e
    refine ⟨h1, (e % ((s * c : Nat) : Int)).toNat / s, ?_, ?_⟩
    · exact Nat.div_lt_of_lt_mul g1
    · have hm : (e % ((s * c : Nat) : Int)).toNat % s = (d % (s : Int)).toNat := by
        have a1 : (((e % ((s * c : Nat) : Int)).toNat % s : Nat) : Int) = d % (s : Int) := by
          rw [Int.natCast_emod, g2, Int.emod_emod_of_dvd _ (by exact ⟨(c : Int), by rw [Int.natCast_mul]⟩)]
          have := Int.emod_emod_of_dvd e (Int.dvd_refl (s : Int))
          have h3 := Int.dvd_of_emod_eq_zero hed
          obtain ⟨z, hz⟩ := h3
          have : e = d + s * z := by omega
          rw [this, Int.add_mul_emod_self_left]
        omega
      have e2 := Nat.mod_add_div (e % ((s * c : Nat) : Int)).toNat s
      rw [← hm, Nat.mul_comm _ s, e2]; exact he

/-! ### how many bits are 1 -/
def cnt (f : Nat → Bool) : Nat → Nat
  | 0 => 0
  | k + 1 => cnt f k + if f k then 1 else 0
theorem cnt_ext {f g : Nat → Bool} : ∀ {n : Nat}, (∀ i, i < n → f i = g i) → cnt f n = cnt g n
  | 0, _ => rfl
  | n + 1, h => by
    unfold cnt
    rw [cnt_ext (n := n) (fun i hi => h i (by omega)), h n (by omega)]
theorem cnt_add (f : Nat → Bool) (m : Nat) : ∀ n, cnt f (m + n) = cnt f m + cnt (fun i => f (m + i)) n
  | 0 => rfl
  | n + 1 => by
    show cnt f (m + n) + (if f (m + n) then 1 else 0) = cnt f m + (cnt (fun i => f (m + i)) n + if f (m + n) then 1 else 0)
    rw [cnt_add f m n, Nat.add_assoc]
theorem cnt_le (f : Nat → Bool) : ∀ n, cnt f n ≤ n
  | 0 => Nat.le_refl 0
  | n + 1 => by
    have := cnt_le f n
    unfold cnt; split <;> omega
theorem cnt_mono (f : Nat → Bool) {m n : Nat} (h : m ≤ n) : cnt f m ≤ cnt f n := by
  obtain ⟨k, rfl⟩ := Nat.exists_eq_add_of_le h
  rw [cnt_add]; omega
theorem cnt_zero {f : Nat → Bool} : ∀ {n : Nat}, (∀ i, i < n → f i = false) → cnt f n = 0
  | 0, _ => rfl
  | n + 1, h => by
    unfold cnt
    rw [cnt_zero (n := n) (fun i hi => h i (by omega)), h n (by omega)]; rfl
theorem cnt_pos {f : Nat → Bool} {n i : Nat} (hi : i < n) (h : f i = true) : 0 < cnt f n := by
  have : cnt f (i + 1) ≤ cnt f n := cnt_mono f (by omega)
  have e : cnt f (i + 1) = cnt f i + if f i then 1 else 0 := rfl
  rw [e, if_pos h] at this
  omega
def pop (x : Nat) : Nat := if x = 0 then 0 else x % 2 + pop (x / 2)
termination_by x
decreasing_by omega
theorem pop_zero : pop 0 = 0 := by unfold pop; simp
theorem pop_step (x : Nat) : pop x = x % 2 + pop (x / 2) := by
  by_cases h : x = 0
  · subst h; simp [pop_zero]
  · rw [pop]; simp [h]
theorem pop_pos {x : Nat} (h : 0 < x) : 0 < pop x := by
  induction x using Nat.strongRecOn with
  | _ x ih =>
    rw [pop_step]
    by_cases h2 : x % 2 = 1
    · omega
    · have := ih (x / 2) (by omega) (by omega); omega
theorem pop_clear {x : Nat} (h : 0 < x) : pop (x &&& (x - 1)) + 1 = pop x := by
  induction x using Nat.strongRecOn with
  | _ x ih =>
    by_cases h2 : x % 2 = 1
    · have e : x &&& (x - 1) = 2 * (x / 2) := by
        apply Nat.eq_of_testBit_eq
        intro i
        rw [Nat.testBit_and]
        cases i with
        | zero =>
          rw [Nat.testBit_zero, Nat.testBit_zero, Nat.testBit_zero, decide_eq_false (show ¬ (x - 1) % 2 = 1 by omega), decide_eq_false (show ¬ 2 * (x / 2) % 2 = 1 by omega), Bool.and_false]
        | succ i =>
          rw [Nat.testBit_succ, Nat.testBit_succ, Nat.testBit_succ, show (x - 1) / 2 = x / 2 by omega, show 2 * (x / 2) / 2 = x / 2 by omega, Bool.and_self]
      rw [e, pop_step (2 * (x / 2)), pop_step x, show 2 * (x / 2) / 2 = x / 2 by omega]
      omega
    · have e : x &&& (x - 1) = 2 * ((x / 2) &&& (x / 2 - 1)) := by
        apply Nat.eq_of_testBit_eq
        intro i
        rw [Nat.testBit_and]
        cases i with
        | zero =>
          rw [Nat.testBit_zero, Nat.testBit_zero, Nat.testBit_zero, decide_eq_false (show ¬ x % 2 = 1 by omega), decide_eq_false (show ¬ 2 * (x / 2 &&& (x / 2 - 1)) % 2 = 1 by omega), Bool.false_and]
        | succ i =>
          rw [Nat.testBit_succ, Nat.testBit_succ, Nat.testBit_succ, show (x - 1) / 2 = x / 2 - 1 by omega, show 2 * (x / 2 &&& (x / 2 - 1)) / 2 = x / 2 &&& (x / 2 - 1) by omega, Nat.testBit_and]
      have := ih (x / 2) (by omega) (by omega)
      rw [e, pop_step (2 * _), show 2 * (x / 2 &&& (x / 2 - 1)) / 2 = x / 2 &&& (x / 2 - 1) by omega, pop_step x]
      omega
theorem pop_split (x : Nat) : ∀ k, pop (x % 2 ^ k) + pop (x / 2 ^ k) = pop x
  | 0 => by simp [Nat.mod_one, pop_zero]
  | k + 1 => by
    have h1 := pop_split x k
    have h2 := pop_step (x / 2 ^ k)
    have e1 : x / 2 ^ k / 2 = x / 2 ^ (k + 1) := by rw [Nat.div_div_eq_div_mul, Nat.pow_succ]
    have e2 : pop (x % 2 ^ (k + 1)) = pop (x % 2 ^ k) + x / 2 ^ k % 2 := by
      have e3 : x % 2 ^ (k + 1) = x % 2 ^ k + 2 ^ k * (x / 2 ^ k % 2) := by rw [Nat.pow_succ, Nat.mod_mul]
      rcases Nat.mod_two_eq_zero_or_one (x / 2 ^ k) with h | h
      · rw [e3, h]; simp
      · rw [e3, h, Nat.mul_one]
        exact pop_top (Nat.mod_lt _ (Nat.two_pow_pos k))
    rw [e1] at h2
    omega
where
  pop_top : ∀ {k y : Nat}, y < 2 ^ k → pop (y + 2 ^ k) = pop y + 1
    | 0, y, h => by
      have : y = 0 := by simpa using h
      subst this
      rw [pop_step]; simp [pop_zero]
    | k + 1, y, h => by
      rw [Nat.pow_succ] at h
      have ih := pop_top (k := k) (y := y / 2) (by omega)
      rw [pop_step, pop_step y, Nat.pow_succ, show (y + 2 ^ k * 2) / 2 = y / 2 + 2 ^ k by omega, ih]
      omega
theorem pop_cnt {x : Nat} : ∀ n, pop (x % 2 ^ n) = cnt x.testBit n
  | 0 => by simp [Nat.mod_one, pop_zero, cnt]
  | k + 1 => by
    have ih := pop_cnt (x := x) k
    have e3 : x % 2 ^ (k + 1) = x % 2 ^ k + 2 ^ k * (x / 2 ^ k % 2) := by rw [Nat.pow_succ, Nat.mod_mul]
    unfold cnt
    rcases Nat.mod_two_eq_zero_or_one (x / 2 ^ k) with h | h
    · rw [e3, h, Nat.mul_zero, Nat.add_zero, ih, Nat.testBit_eq_decide_div_mod_eq, decide_eq_false (by omega)]; rfl
    · rw [e3, h, Nat.mul_one, pop_split.pop_top (Nat.mod_lt _ (Nat.two_pow_pos k)), ih, Nat.testBit_eq_decide_div_mod_eq, decide_eq_true h]; rfl
theorem pop_eq {x n : Nat} (h : x < 2 ^ n) : pop x = cnt x.testBit n := by
  rw [← pop_cnt, Nat.mod_eq_of_lt h]
theorem pop_le {x n : Nat} (h : x < 2 ^ n) : pop x ≤ n := by rw [pop_eq h]; exact cnt_le _ _
theorem and_pred {x : Nat} (h : 0 < x) : Builtin.bitAnd (x : Int) ((x : Int) - 1) = ((x &&& (x - 1) : Nat) : Int) := by
  have : (x : Int) - 1 = ((x - 1 : Nat) : Int) := by omega
  rw [this, and_c]
theorem and_pred_lt {x : Nat} (h : 0 < x) : x &&& (x - 1) < x := Nat.lt_of_le_of_lt Nat.and_le_right (by omega)
/-! ### the lowest bit -/
theorem low_bit {x : Nat} (h : 0 < x) : ∃ k, x - (x &&& (x - 1)) = 2 ^ k ∧ x.testBit k = true ∧ ∀ i, i < k → x.testBit i = false := by
  induction x using Nat.strongRecOn with
  | _ x ih =>
    by_cases h2 : x % 2 = 1
    · refine ⟨0, ?_, by rw [Nat.testBit_zero, decide_eq_true h2], fun i hi => by omega⟩
      have e : x &&& (x - 1) = 2 * (x / 2) := by
        apply Nat.eq_of_testBit_eq
        intro i
        rw [Nat.testBit_and]
        cases i with
        | zero =>
          rw [Nat.testBit_zero, Nat.testBit_zero, Nat.testBit_zero, decide_eq_false (show ¬ (x - 1) % 2 = 1 by omega), decide_eq_false (show ¬ 2 * (x / 2) % 2 = 1 by omega), Bool.and_false]
        | succ i =>
          rw [Nat.testBit_succ, Nat.testBit_succ, Nat.testBit_succ, show (x - 1) / 2 = x / 2 by omega, show 2 * (x / 2) / 2 = x / 2 by omega, Bool.and_self]
      rw [e]; omega
    · obtain ⟨k, h3, h4, h5⟩ := ih (x / 2) (by omega) (by omega)
      have e : x &&& (x - 1) = 2 * ((x / 2) &&& (x / 2 - 1)) := by
        apply Nat.eq_of_testBit_eq
        intro i
        rw [Nat.testBit_and]
        cases i with
        | zero =>
          rw [Nat.testBit_zero, Nat.testBit_zero, Nat.testBit_zero, decide_eq_false (show ¬ x % 2 = 1 by omega), decide_eq_false (show ¬ 2 * (x / 2 &&& (x / 2 - 1)) % 2 = 1 by omega), Bool.false_and]
        | succ i =>
          rw [Nat.testBit_succ, Nat.testBit_succ, Nat.testBit_succ, show (x - 1) / 2 = x / 2 - 1 by omega, show 2 * (x / 2 &&& (x / 2 - 1)) / 2 = x / 2 &&& (x / 2 - 1) by omega, Nat.testBit_and]
      refine ⟨k + 1, ?_, by rw [Nat.testBit_succ]; exact h4, fun i hi => ?_⟩
      · have h6 : x / 2 &&& (x / 2 - 1) ≤ x / 2 := Nat.and_le_left
        rw [e, Nat.pow_succ]; omega
      · cases i with
        | zero => rw [Nat.testBit_zero, decide_eq_false h2]
        | succ i => rw [Nat.testBit_succ]; exact h5 i (by omega)
theorem and_neg {x : Nat} (h : 0 < x) : Builtin.bitAnd (x : Int) (-(x : Int)) = ((x - (x &&& (x - 1)) : Nat) : Int) := by
  have e : Builtin.bitNot (-(x : Int)) = ((x - 1 : Nat) : Int) := by
    show -(-(x : Int)) - 1 = _
    omega
  have h6 : x &&& (x - 1) ≤ x := Nat.and_le_left
  rw [bitAnd_pn (by omega) (by omega), e, Int.toNat_natCast, Int.toNat_natCast]
  omega
theorem bits_pow (k : Nat) : Builtin.Int.intBits ((2 ^ k : Nat) : Int) = k + 1 := by
  unfold Builtin.Int.intBits
  have hp := Nat.two_pow_pos k
  rw [if_neg (show ¬ (((2 ^ k : Nat) : Int) == 0) = true by simpa using (show ((2 ^ k : Nat) : Int) ≠ 0 by omega)), Int.natAbs_natCast, Nat.log2_two_pow]
theorem bits_nat {x : Nat} (h : 0 < x) : Builtin.Int.intBits (x : Int) = x.log2 + 1 := by
  unfold Builtin.Int.intBits
  rw [if_neg (show ¬ ((x : Int) == 0) = true by simpa using (show (x : Int) ≠ 0 by omega)), Int.natAbs_natCast]
/-- the lowest bit's place, as the program finds it -/
theorem low_place {x : Nat} (h : 0 < x) : ∃ k, Builtin.Int.intBits (Builtin.bitAnd (x : Int) (-(x : Int))) = k + 1 ∧ x.testBit k = true ∧ ∀ i, i < k → x.testBit i = false := by
  obtain ⟨k, h1, h2, h3⟩ := low_bit h
  exact ⟨k, by rw [and_neg h, h1, bits_pow], h2, h3⟩
theorem high_place {x : Nat} (h : 0 < x) : ∃ k, Builtin.Int.intBits (x : Int) = k + 1 ∧ x.testBit k = true ∧ ∀ i, k < i → x.testBit i = false := by
  refine ⟨x.log2, bits_nat h, Nat.testBit_log2 (by omega), fun i hi => ?_⟩
  exact Nat.testBit_lt_two_pow (Nat.lt_of_lt_of_le (Nat.lt_log2_self) (Nat.pow_le_pow_right (by decide) (by omega)))
/-! ### how many days -/
/-- the days of a round from day 0 on and ahead of a day -/
def rankI (n b : Nat) (d : Int) : Int := d / (n : Int) * (pop b : Nat) + (pop (b % 2 ^ (d % (n : Int)).toNat) : Nat)
theorem rank_step {n b : Nat} (hn : 1 ≤ n) (hb : b < 2 ^ n) (d : Int) : rankI n b (d + 1) = rankI n b d + if hold n b d then 1 else 0 := by
  obtain ⟨h1, h2⟩ := mod_lt' hn d
  have e := Int.emod_add_mul_ediv d (n : Int)
  unfold rankI
  have hc : ∀ k, pop (b % 2 ^ k) = cnt b.testBit k := fun k => pop_cnt k
  have hh : hold n b d = b.testBit (d % (n : Int)).toNat := rfl
  rw [hh]
  generalize hk : (d % (n : Int)).toNat = k at *
  generalize hq : d / (n : Int) = q at *
  by_cases hlast : k + 1 < n
  · have e1 : (d + 1) % (n : Int) = ((k + 1 : Nat) : Int) := by
      have : d + 1 = ((k + 1 : Nat) : Int) + n * q := by omega
      rw [this, Int.add_mul_emod_self_left, Int.emod_eq_of_lt (by omega) (by omega)]
    have e2 : (d + 1) / (n : Int) = q := by
      have : d + 1 = ((k + 1 : Nat) : Int) + n * q := by omega
      rw [this, Int.add_mul_ediv_left _ _ (by omega), Int.ediv_eq_zero_of_lt (by omega) (by omega)]
      omega
    rw [e1, e2, Int.toNat_natCast, hc, hc]
    show q * (pop b : Nat) + ((cnt b.testBit k + if b.testBit k then 1 else 0 : Nat) : Int) = _
    split <;> omega
  · have e0 : k + 1 = n := by omega
    have e1 : (d + 1) % (n : Int) = 0 := by
      have : d + 1 = n * (q + 1) := by rw [Int.mul_add]; omega
      rw [this, Int.mul_emod_right]
    have e2 : (d + 1) / (n : Int) = q + 1 := by
      have : d + 1 = n * (q + 1) := by rw [Int.mul_add]; omega
      rw [this, Int.mul_ediv_cancel_left _ (by omega)]
    rw [e1, e2, hc, hc]
    have e3 : pop b = cnt b.testBit k + if b.testBit k then 1 else 0 := by
      rw [pop_eq hb, ← e0]; rfl
    have e4 : cnt b.testBit (0 : Int).toNat = 0 := rfl
    rw [e4, Int.add_mul, e3]
    split <;> omega
theorem rank_add {n b : Nat} (hn : 1 ≤ n) (hb : b < 2 ^ n) (d : Int) : ∀ k : Nat, rankI n b (d + k) = rankI n b d + (cnt (fun i => hold n b (d + i)) k : Nat)
  | 0 => by simp [cnt]
  | k + 1 => by
    have ih := rank_add hn hb d k
    have e : d + ((k + 1 : Nat) : Int) = (d + k) + 1 := by omega
    rw [e, rank_step hn hb, ih]
    show _ = _ + ((cnt (fun i => hold n b (d + i)) k + if hold n b (d + k) then 1 else 0 : Nat) : Int)
    split <;> omega
theorem rank_round {n b : Nat} (hn : 1 ≤ n) (d : Int) : rankI n b (d + n) = rankI n b d + (pop b : Nat) := by
  unfold rankI
  have e1 : (d + n) % (n : Int) = d % n := by rw [Int.add_emod_right]
  have e2 : (d + n) / (n : Int) = d / n + 1 := by
    have := Int.add_mul_ediv_left d 1 (show (n : Int) ≠ 0 by omega)
    rw [Int.mul_one] at this; exact this
  rw [e1, e2, Int.add_mul]; omega
theorem rank_mono {n b : Nat} (hn : 1 ≤ n) (hb : b < 2 ^ n) {d e : Int} (h : d ≤ e) : rankI n b d ≤ rankI n b e := by
  obtain ⟨k, hk⟩ := Int.eq_ofNat_of_zero_le (show 0 ≤ e - d by omega)
  have : e = d + k := by omega
  rw [this, rank_add hn hb]; omega
theorem rank_sm {n b : Nat} (hn : 1 ≤ n) (hn2 : n ≤ 150000) (hb : b < 2 ^ n) {d : Int} {s : Nat} (h : Sm s d) : Sm (s + 40) (rankI n b d) := by
  have h1 := pop_le hb
  have h2 : pop (b % 2 ^ (d % (n : Int)).toNat) ≤ n := pop_le (Nat.lt_of_le_of_lt (Nat.mod_le _ _) hb)
  have h3 : (d / (n : Int)).natAbs ≤ d.natAbs := Int.natAbs_ediv_le_natAbs d n
  have h4 := h.h
  refine ⟨?_⟩
  unfold rankI
  have h5 : (d / (n : Int) * (pop b : Nat)).natAbs ≤ d.natAbs * 150000 := by
    rw [Int.natAbs_mul, Int.natAbs_natCast]
    exact Nat.mul_le_mul h3 (by omega)
  have h6 : 2 ^ (s + 40) = 2 ^ s * 1099511627776 := by rw [Nat.pow_add]
  have h7 := Nat.two_pow_pos s
  rw [h6]
  generalize (2 : Nat) ^ s = X at *
  omega

/-! ### a list that is written: all else stays -/
def Mut (p : Addr) (H H' : Hp) : Prop := ∀ a o, a ≠ p → H a = some o → H' a = some o
theorem Mut.of {p : Addr} {H H' : Hp} (s : Same H H') : Mut p H H' := fun a o _ h => s a o h
theorem Mut.trans {p : Addr} {H H' H2 : Hp} (m : Mut p H H') (m2 : Mut p H' H2) : Mut p H H2 := fun a o n h => m2 a o n (m a o n h)
theorem Mut.same {p : Addr} {H0 H H' : Hp} (s : Same H0 H) (m : Mut p H H') (h : H0 p = none) : Same H0 H' := fun a o e => m a o (fun e2 => by subst e2; rw [h] at e; exact nomatch e) (s a o e)
theorem mut_upd {p : Addr} {H : Hp} {o : HO} : Mut p H (upd H p o) := fun a x n h => by rw [upd_ne n]; exact h
theorem mut_t {K : PySem.W.Frag} {H H' : Hp} {p a : Addr} {xs ys : List V} (m : Mut p H H') (hp : H p = some (.lst xs)) (h : SqT K H a ys) : SqT K H' a ys := by
  rcases h with (h | ⟨o, h⟩) | h
  · exact .inl (.inl (m _ _ (fun e => by subst e; rw [hp] at h; exact nomatch h) h))
  · exact .inl (.inr ⟨o, m _ _ (fun e => by subst e; rw [hp] at h; exact nomatch h) h⟩)
  · exact .inr h
theorem mut_l {K : PySem.W.Frag} {H H' : Hp} {p a : Addr} {ys : List V} (m : Mut p H H') (n : a ≠ p) (h : SqL K H a ys) : SqL K H' a ys := by
  rcases h with (h | ⟨o, h⟩) | h
  · exact .inl (.inl (m _ _ n h))
  · exact .inl (.inr ⟨o, m _ _ n h⟩)
  · exact .inr h
theorem RT.mut {K : PySem.W.Frag} {H H' : Hp} {p a : Addr} {xs : List V} {n b : Nat} (m : Mut p H H') (hp : H p = some (.lst xs)) (r : RT K H a n b) : RT K H' a n b := ⟨mut_t m hp r.t, r.n1, r.n2, r.lt⟩
section
variable {K : PySem.W.Frag} {H : Hp} {Q : VK} {σ : L2.St} {l p : Addr} {xs : List V} {y : V}
def App (l : Addr) (ys : List V) (H : Hp) (Q : VK) : Prop := rAppend (.ref l) ys H Q
def BmR (K : PySem.W.Frag) (T : String) (r : V → List V → Hp → VK → Prop) (t : TA) (σ : L2.St) (x : V) (H : Hp) (Q : VK) : Prop := tyV K T x H ∧ t σ H fun xs H2 => r x xs H2 Q
theorem k_bm {T : String} {r : V → List V → Hp → VK → Prop} {to : TE} {t : TA} (h : to σ H fun x H1 => BmR K T r t σ x H1 Q) : tBM K T r to t σ H Q := h
theorem k_bmA {t : TA} (hl : SqL K H l xs) (h : t σ H fun ys H2 => App l ys H2 Q) : BmR K "list" rAppend t σ (.ref l) H Q := ⟨.inl ⟨rfl, xs, hl⟩, h⟩
theorem k_app (h : H l = some (.lst xs)) (hz : xs.length ≤ 1000000) (q : ∀ H', Mut l H H' → H' l = some (.lst (xs ++ [y])) → Q .non H') : App l [y] H Q :=
  ⟨l, xs, y, rfl, rfl, h, Nat.lt_of_le_of_lt hz (by decide), q _ mut_upd upd_same⟩
/-! ### slices -/
def SlV (K : PySem.W.Frag) (x : V) (lo hi : Option Int) (H : Hp) (Q : VK) : Prop := rSlL K x lo hi H Q
theorem k_sl {te : TE} {tl th : TO} (h : te σ H fun x H1 => tl σ H1 fun lo H2 => th σ H2 fun hi H3 => SlV K x lo hi H3 Q) : L2.tSl (rSlL K) te tl th σ H Q := h
theorem k_slV {lo hi : Option Int} (h : SqL K H p xs) (q : ∀ a H2, H a = none → Same H H2 → H2 a = some (.lst (cutV xs lo hi)) → Q (.ref a) H2) : SlV K (.ref p) lo hi H Q :=
  ⟨p, xs, rfl, h, fun a ha => q a _ ha (same_new ha) upd_same⟩
theorem cutV_ints (ns : List Int) (lo hi : Option Int) : ∃ ms : List Int, cutV (ns.map V.int) lo hi = ms.map V.int ∧ (∀ z ∈ ms, z ∈ ns) ∧ ms.length ≤ ns.length := by
  refine ⟨(ns.drop (HT.sIx (ns.map V.int).length 0 lo)).take (HT.sIx (ns.map V.int).length (ns.map V.int).length hi - HT.sIx (ns.map V.int).length 0 lo), ?_, fun z hz => List.mem_of_mem_drop (List.mem_of_mem_take hz), ?_⟩
  · unfold cutV; rw [List.map_take, List.map_drop]
  · rw [List.length_take, List.length_drop]; omega
theorem cutV_to (xs : List V) (k : Nat) : (cutV xs none (some (k : Int))).length ≤ k := by
  unfold cutV
  rw [List.length_take, HT.sIx_nat]
  omega
/-! ### list(a list), a[i] = y -/
def LofV (K : PySem.W.Frag) (xs : List V) (H : Hp) (Q : VK) : Prop := ∃ p ys, xs = [.ref p] ∧ (SqL K H p ys ∨ SqT K H p ys) ∧ ∀ l, H l = none → Q (.ref l) (upd H l (.lst ys))
def rLof (K : PySem.W.Frag) : List V → Hp → VK → Prop := fun xs H Q => LofV K xs H Q
theorem kb_lof {X : Cx} (K : PySem.W.Frag) (hk : X.K = K) : CallR X (.type "list") (rLof K) := by subst hk; exact call_list_of
theorem k_lofL {ys : List V} (h : SqL K H p ys) (q : ∀ a H2, H a = none → Same H H2 → H2 a = some (.lst ys) → Q (.ref a) H2) : rLof K [.ref p] H Q := ⟨p, ys, rfl, .inl h, fun a ha => q a _ ha (same_new ha) upd_same⟩
def SetV (o i v : V) (H : Hp) (Q : Hp → Prop) : Prop := rSetL o i v H Q
theorem k_gsub {to ti : TE} {v : V} {Q : L2.St → Hp → Prop} (h : to σ H fun o H1 => ti σ H1 fun i H2 => SetV o i v H2 fun H3 => Q σ H3) : gSub to ti rSetL v σ H Q := h
theorem k_setV {i : Int} {j : Nat} {v : V} {Q : Hp → Prop} (h : H p = some (.lst xs)) (hj : ixN xs.length i = some j) (q : ∀ H', Mut p H H' → H' p = some (.lst (xs.set j v)) → Q H') : SetV (.ref p) (.int i) v H Q :=
  ⟨p, xs, i, j, rfl, rfl, h, hj, q _ mut_upd upd_same⟩
end
theorem k_eqE {K : PySem.W.Frag} {H : Hp} {Q : VK} {p q : Addr} {l : List Int} (h1 : SqL K H p (l.map V.int)) (h2 : SqL K H q []) (r : Q (.bl (decide (l = []))) H) : rEqA K (.ref p) (.ref q) H Q := k_eqL (m := []) h1 h2 r
theorem k_neE {K : PySem.W.Frag} {H : Hp} {Q : VK} {p q : Addr} {l : List Int} (h1 : SqL K H p (l.map V.int)) (h2 : SqL K H q []) (r : Q (.bl (!decide (l = []))) H) : rNeA K (.ref p) (.ref q) H Q := k_neL (m := []) h1 h2 r
theorem atI_last {l : List Int} (h : l ≠ []) : ∃ z, z ∈ l ∧ atI (l.map V.int) (-1) = some (.int z) := by
  have hp : 0 < l.length := List.length_pos_iff.mpr h
  refine ⟨l[l.length - 1], List.getElem_mem _, ?_⟩
  unfold atI ixN
  rw [if_neg (by decide), if_pos (by rw [List.length_map]; omega), List.length_map, show ((-1 : Int) + (l.length : Int)).toNat = l.length - 1 by omega]
  show (l.map V.int)[l.length - 1]? = _
  rw [List.getElem?_map, List.getElem?_eq_getElem (by omega)]
  rfl
/-- days of a round, as a list -/
structure DL (K : PySem.W.Frag) (H : Hp) (L : Addr) (n : Nat) (l : List Int) : Prop where
  h : SqL K H L (l.map V.int)
  b : ∀ x ∈ l, 0 ≤ x ∧ x < n
  z : l.length ≤ 4000
theorem DL.mono {K : PySem.W.Frag} {H H' : Hp} {L : Addr} {n : Nat} {l : List Int} (r : DL K H L n l) (s : Same H H') : DL K H' L n l := ⟨same_l s r.h, r.b, r.z⟩
theorem tb_put {x d : Nat} {l : List Int} (hx : ∀ j, x.testBit j = true ↔ (j : Int) ∈ l) (j : Nat) : (x ||| 2 ^ d).testBit j = true ↔ (j : Int) ∈ l ++ [(d : Int)] := by
  rw [Nat.testBit_or, Nat.testBit_two_pow, Bool.or_eq_true, hx, List.mem_append, List.mem_singleton, decide_eq_true_iff]
  constructor <;> (rintro (h | h); exact .inl h; right; omega)
theorem tb_add {x e : Nat} (h : x.testBit e = false) (j : Nat) : (2 ^ e + x).testBit j = (decide (e = j) || x.testBit j) := by
  rcases Nat.lt_trichotomy j e with hj | hj | hj
  · rw [Nat.testBit_two_pow_add_gt hj, decide_eq_false (by omega), Bool.false_or]
  · subst hj; rw [Nat.testBit_two_pow_add_eq, h]; simp
  · obtain ⟨k, rfl⟩ := Nat.exists_eq_add_of_lt hj
    rw [decide_eq_false (by omega), Bool.false_or]
    have e1 : ∀ y : Nat, y.testBit (e + k + 1) = (y / 2 ^ e / 2).testBit k := fun y => by
      rw [Nat.div_div_eq_div_mul, ← Nat.pow_succ, Nat.testBit_div_two_pow]; congr 1; omega
    rw [e1, e1, Nat.add_div_left _ (Nat.two_pow_pos e)]
    rw [Nat.testBit_eq_decide_div_mod_eq] at h
    have := of_decide_eq_false h
    congr 1
    omega
theorem sum_bits {n : Nat} : ∀ {l : List Int}, l.Nodup → (∀ x ∈ l, 0 ≤ x ∧ x < (n : Int)) →
    ∃ x : Nat, (l.map fun e => ((2 ^ e.toNat : Nat) : Int)).sum = (x : Int) ∧ x < 2 ^ n ∧ ∀ j : Nat, x.testBit j = true ↔ (j : Int) ∈ l
  | [], _, _ => ⟨0, rfl, Nat.two_pow_pos n, fun j => by simp⟩
  | e :: r, hd, hb => by
    obtain ⟨x, h1, h2, h3⟩ := sum_bits (n := n) (List.nodup_cons.mp hd).2 (fun y hy => hb y (List.mem_cons_of_mem _ hy))
    obtain ⟨b0, b1⟩ := hb e List.mem_cons_self
    obtain ⟨k, rfl⟩ := Int.eq_ofNat_of_zero_le b0
    have hk : x.testBit k = false := by
      cases hx : x.testBit k with
      | false => rfl
      | true => exact absurd ((h3 k).mp hx) (List.nodup_cons.mp hd).1
    have ht := tb_add hk
    refine ⟨2 ^ k + x, ?_, ?_, fun j => ?_⟩
    · rw [List.map_cons, List.sum_cons, h1, Int.toNat_natCast, Int.natCast_add]
    · refine Nat.lt_pow_two_of_testBit _ fun i hi => ?_
      rw [ht, decide_eq_false (by omega), Bool.false_or]
      exact Nat.testBit_lt_two_pow (Nat.lt_of_lt_of_le h2 (Nat.pow_le_pow_right (by decide) hi))
    · rw [ht, Bool.or_eq_true, decide_eq_true_iff, h3, List.mem_cons]
      constructor
      · rintro (h | h)
        · left; omega
        · exact .inr h
      · rintro (h | h)
        · left; omega
        · exact .inr h

/-- a carry into a place of a sum -/
def car (a b i : Nat) : Bool := decide (2 ^ i ≤ a % 2 ^ i + b % 2 ^ i)
theorem mod_succ (a i : Nat) : a % 2 ^ (i + 1) = a % 2 ^ i + (if a.testBit i then 2 ^ i else 0) := by
  rw [Nat.mod_pow_succ, Nat.testBit_eq_decide_div_mod_eq]
  rcases Nat.mod_two_eq_zero_or_one (a / 2 ^ i) with h | h <;> simp [h]
theorem car_zero (a b : Nat) : car a b 0 = false := by simp [car, Nat.mod_one]
theorem car_succ (a b i : Nat) : car a b (i + 1) = ((a.testBit i && b.testBit i) || (car a b i && (a.testBit i || b.testBit i))) := by
  unfold car
  rw [mod_succ, mod_succ, Nat.pow_succ]
  have h1 := Nat.mod_lt a (Nat.two_pow_pos i)
  have h2 := Nat.mod_lt b (Nat.two_pow_pos i)
  generalize 2 ^ i = X at *
  generalize a % X = y at *
  generalize b % X = z at *
  cases ha : a.testBit i <;> cases hb : b.testBit i <;> simp <;> omega
theorem add_bit (a b i : Nat) : (a + b).testBit i = ((a.testBit i ^^ b.testBit i) ^^ car a b i) := by
  have e : (a + b).testBit i = decide ((a + b) / 2 ^ i % 2 = 1) := Nat.testBit_eq_decide_div_mod_eq
  have ea : a.testBit i = decide (a / 2 ^ i % 2 = 1) := Nat.testBit_eq_decide_div_mod_eq
  have eb : b.testBit i = decide (b / 2 ^ i % 2 = 1) := Nat.testBit_eq_decide_div_mod_eq
  have h1 := Nat.mod_lt a (Nat.two_pow_pos i)
  have h2 := Nat.mod_lt b (Nat.two_pow_pos i)
  have hd := Nat.add_div (a := a) (b := b) (Nat.two_pow_pos i)
  rw [e, ea, eb, hd]
  unfold car
  generalize a / 2 ^ i = u at *
  generalize b / 2 ^ i = v at *
  by_cases hc : 2 ^ i ≤ a % 2 ^ i + b % 2 ^ i
  · rw [if_pos hc, decide_eq_true hc]
    by_cases h3 : u % 2 = 1 <;> by_cases h4 : v % 2 = 1 <;> simp [h3, h4] <;> omega
  · rw [if_neg hc, decide_eq_false hc]
    by_cases h3 : u % 2 = 1 <;> by_cases h4 : v % 2 = 1 <;> simp [h3, h4] <;> omega
/-- where what is added lies within the number: a carry comes from a place below, over ones -/
theorem car_run {f x : Nat} (h : ∀ i, x.testBit i = true → f.testBit i = true) : ∀ i, car f x i = true ↔ ∃ p, p < i ∧ x.testBit p = true ∧ ∀ j, p ≤ j → j < i → f.testBit j = true
  | 0 => by rw [car_zero]; simp
  | i + 1 => by
    rw [car_succ]
    have ih := car_run h i
    constructor
    · intro hc
      cases hx : x.testBit i with
      | true => exact ⟨i, by omega, hx, fun j h1 h2 => by rw [show j = i by omega]; exact h i hx⟩
      | false =>
        rw [hx] at hc
        simp only [Bool.and_false, Bool.or_false, Bool.false_or, Bool.and_eq_true] at hc
        obtain ⟨p, h1, h2, h3⟩ := ih.mp hc.1
        exact ⟨p, by omega, h2, fun j h4 h5 => by
          by_cases e : j = i
          · subst e; exact hc.2
          · exact h3 j h4 (by omega)⟩
    · rintro ⟨p, h1, h2, h3⟩
      have hf := h3 i (by omega) (by omega)
      rw [hf]
      by_cases e : p = i
      · subst e; rw [h2]; rfl
      · have := ih.mpr ⟨p, by omega, h2, fun j h4 h5 => h3 j h4 (by omega)⟩
        rw [this]; simp
def PerF (m : Nat) (r : Int → Bool) : Prop := ∀ d : Int, r (d + m) = r d
theorem PerF.mul {m : Nat} {r : Int → Bool} (h : PerF m r) (d : Int) : ∀ k : Nat, r (d + k * m) = r d
  | 0 => by simp
  | k + 1 => by
    have := PerF.mul h d k
    rw [← this, ← h (d + k * m)]
    congr 1
    rw [Int.natCast_add, Int.add_mul]; omega
theorem PerF.mod {m : Nat} {r : Int → Bool} (h : PerF m r) (d : Int) : r (d % (m : Int)) = r d := by
  have e := Int.emod_add_mul_ediv d (m : Int)
  by_cases hq : 0 ≤ d / (m : Int)
  · obtain ⟨k, hk⟩ := Int.eq_ofNat_of_zero_le hq
    have := h.mul (d % (m : Int)) k
    rw [hk, Int.mul_comm] at e
    rw [← this, e]
  · obtain ⟨k, hk⟩ := Int.eq_ofNat_of_zero_le (show 0 ≤ - (d / (m : Int)) by omega)
    have := h.mul d k
    have e2 : d / (m : Int) = - (k : Int) := by omega
    rw [e2, Int.mul_neg, Int.mul_comm] at e
    rw [← this]; congr 1; omega
/-- the first R day from an S day on -/
def uponP (r s : Int → Bool) (d : Int) : Prop := r d = true ∧ ∃ k : Nat, s (d - k) = true ∧ ∀ j : Nat, 1 ≤ j → j ≤ k → r (d - j) = false
theorem upon_bits {m A B : Nat} {r s : Int → Bool} (hm : 1 ≤ m) (hr : PerF m r)
    (hA : ∀ i : Nat, A.testBit i = (decide (i < m + m) && r i)) (hB : ∀ i : Nat, B.testBit i = (decide (i < m + m) && s i)) {F : Nat}
    (hF : ∀ i : Nat, F.testBit i = (decide (i < m + m) && !r i)) (i : Nat) (hi : i < m) :
    ((A &&& (B ||| (F + (F &&& B)))) / 2 ^ m).testBit i = true ↔ uponP r s (i + m) := by
  have hx : ∀ j, (F &&& B).testBit j = true → F.testBit j = true := fun j h => by
    rw [Nat.testBit_and, Bool.and_eq_true] at h; exact h.1
  rw [Nat.testBit_div_two_pow, Nat.testBit_and, Nat.testBit_or, Bool.and_eq_true, Bool.or_eq_true, hA, hB, add_bit, Nat.testBit_and, hF, hB]
  have h2 : decide (i + m < m + m) = true := decide_eq_true (by omega)
  rw [h2]
  simp only [Bool.true_and, Int.natCast_add]
  unfold uponP
  constructor
  · rintro ⟨h1, h3⟩
    refine ⟨h1, ?_⟩
    by_cases hs : s (i + m) = true
    · exact ⟨0, by simpa using hs, fun j h4 h5 => by omega⟩
    · rw [h1] at h3
      have h4 := h3.resolve_left hs
      simp only [Bool.not_true, Bool.false_and, Bool.false_xor] at h4
      obtain ⟨p, h5, h6, h7⟩ := (car_run hx _).mp h4
      rw [Nat.testBit_and, hB, Bool.and_eq_true, Bool.and_eq_true] at h6
      refine ⟨i + m - p, ?_, fun j h8 h9 => ?_⟩
      · rw [show (i : Int) + m - ((i + m - p : Nat) : Int) = p by omega]; exact h6.2.2
      · have := h7 (i + m - j) (by omega) (by omega)
        rw [hF, Bool.and_eq_true] at this
        have h10 := this.2
        rw [show ((i + m - j : Nat) : Int) = i + m - j by omega] at h10
        simpa using h10
  · rintro ⟨h1, k, h3, h4⟩
    refine ⟨h1, ?_⟩
    rw [h1]
    have hk : k < m := by
      by_cases h : k < m
      · exact h
      · have := h4 m (by omega) (by omega)
        have h5 := hr ((i : Int) + m - m)
        rw [this, show (i : Int) + m - m + m = i + m by omega, h1] at h5
        exact absurd h5 (by decide)
    by_cases hs : s (i + m) = true
    · exact .inl hs
    · right
      simp only [Bool.not_true, Bool.false_and, Bool.false_xor]
      refine (car_run hx _).mpr ⟨i + m - k, ?_, ?_, fun j h8 h9 => ?_⟩
      · have : k ≠ 0 := fun e => by subst e; exact hs (by simpa using h3)
        omega
      · have e : ((i + m - k : Nat) : Int) = i + m - k := by omega
        rw [Nat.testBit_and, hF, hB, e, h3, decide_eq_true (show i + m - k < m + m by omega)]
        have : k ≠ 0 := fun e => by subst e; exact hs (by simpa using h3)
        have := h4 k (by omega) (by omega)
        rw [this]; rfl
      · have := h4 (i + m - j) (by omega) (by omega)
        rw [show (i : Int) + m - ((i + m - j : Nat) : Int) = j by omega] at this
        rw [hF, this, decide_eq_true (show j < m + m by omega)]; rfl
/-- from an R day on up to ahead of the next S day behind it -/
def tillP (r s : Int → Bool) (d : Int) : Prop := (r d = true ∧ s d = true) ∨ (s d = false ∧ ∃ k : Nat, (r (d - k) = true ∨ (r (d - k - 1) = true ∧ s (d - k - 1) = true)) ∧ ∀ j : Nat, j ≤ k → s (d - j) = false)
theorem till_bits {m A B : Nat} {r s : Int → Bool} (hm : 1 ≤ m) (hr : PerF m r) (hs : PerF m s)
    (hA : ∀ i : Nat, A.testBit i = (decide (i < m + m) && r i)) (hB : ∀ i : Nat, B.testBit i = (decide (i < m + m) && s i)) {F M : Nat}
    (hF : ∀ i : Nat, F.testBit i = (decide (i < m + m) && !s i)) (hM : ∀ i : Nat, M.testBit i = decide (i < m + m)) (i : Nat) (hi : i < m)
    {G : Nat} (hG : G = F &&& (A ||| ((A &&& B) * 2 ^ 1))) :
    (((F ^^^ ((F &&& (F + G)) &&& (G ^^^ M))) ||| (A &&& B)) / 2 ^ m).testBit i = true ↔ tillP r s (i + m) := by
  have hx : ∀ j, G.testBit j = true → F.testBit j = true := fun j h => by
    rw [hG, Nat.testBit_and, Bool.and_eq_true] at h; exact h.1
  have gb : ∀ p, p < m + m → (G.testBit p = true ↔ s p = false ∧ (r p = true ∨ (1 ≤ p ∧ r (p - 1) = true ∧ s (p - 1) = true))) := fun p hp => by
    rw [hG, Nat.testBit_and, Nat.testBit_or, Nat.testBit_mul_two_pow, Nat.testBit_and, hF, hA, hA, hB, decide_eq_true hp, decide_eq_true (show p - 1 < m + m by omega)]
    by_cases h1 : 1 ≤ p
    · rw [decide_eq_true (show p ≥ 1 by omega), show ((p - 1 : Nat) : Int) = p - 1 by omega]
      simp [h1]
    · rw [decide_eq_false (show ¬ p ≥ 1 by omega)]
      simp [h1]
  have hcc := add_bit F G (i + m)
  rw [Nat.testBit_div_two_pow]
  have him : i + m < m + m := by omega
  have e1 : F.testBit (i + m) = !s (i + m : Nat) := by rw [hF, decide_eq_true him, Bool.true_and]
  simp only [Nat.testBit_or, Nat.testBit_xor, Nat.testBit_and, hM, hA, hB, e1, decide_eq_true him, Bool.true_and] at hcc ⊢
  have main : s ((i + m : Nat) : Int) = false → (((!s ((i + m : Nat) : Int)) ^^ (((!s ((i + m : Nat) : Int)) && (F + G).testBit (i + m)) && (G.testBit (i + m) ^^ true))) = true ↔ ∃ p, p ≤ i + m ∧ G.testBit p = true ∧ ∀ j, p ≤ j → j < i + m → F.testBit j = true) := fun h0 => by
    rw [h0] at hcc
    rw [h0]
    cases hg : G.testBit (i + m) with
    | true =>
      simp only [Bool.not_false, Bool.true_and, Bool.xor_self, Bool.and_false, Bool.xor_false, true_iff]
      exact ⟨i + m, Nat.le_refl _, hg, fun j h1 h2 => by omega⟩
    | false =>
      rw [hg] at hcc
      constructor
      · intro h1
        have h2 : (F + G).testBit (i + m) = false := by
          cases h : (F + G).testBit (i + m) with
          | false => rfl
          | true => rw [h] at h1; exact absurd h1 (by decide)
        rw [h2] at hcc
        have h3 : car F G (i + m) = true := by simpa using hcc
        obtain ⟨p, h4, h5, h6⟩ := (car_run hx _).mp h3
        exact ⟨p, by omega, h5, h6⟩
      · rintro ⟨p, h4, h5, h6⟩
        have hp : p < i + m := by
          by_cases e : p = i + m
          · subst e; rw [hg] at h5; exact absurd h5 (by decide)
          · omega
        rw [(car_run hx _).mpr ⟨p, hp, h5, h6⟩] at hcc
        rw [hcc]; rfl
  rw [Bool.or_eq_true, Bool.and_eq_true]
  unfold tillP
  have ec : ((i : Int) + m) = ((i + m : Nat) : Int) := by omega
  rw [ec]
  cases hs0 : s ((i + m : Nat) : Int) with
  | true => rw [hs0] at main; simp
  | false =>
    rw [hs0] at main
    rw [main rfl]
    simp only [Bool.false_eq_true, and_false, or_false, false_or, true_and]
    constructor
    · rintro ⟨p, h1, h2, h3⟩
      obtain ⟨h4, h5⟩ := (gb p (by omega)).mp h2
      refine ⟨i + m - p, ?_, fun j hj => ?_⟩
      · rw [show ((i + m : Nat) : Int) - ((i + m - p : Nat) : Int) = p by omega]
        rcases h5 with h5 | h5
        · exact .inl h5
        · exact .inr ⟨h5.2.1, h5.2.2⟩
      · by_cases hj0 : j = 0
        · subst hj0; simpa using hs0
        have := h3 (i + m - j) (by omega) (by omega)
        rw [hF, Bool.and_eq_true] at this
        have h10 := this.2
        rw [show ((i + m - j : Nat) : Int) = ((i + m : Nat) : Int) - j by omega] at h10
        simpa using h10
    · rintro ⟨k, h1, h2⟩
      -- a k below i + m can be chosen
      have key : ∃ k : Nat, k < i + m ∧ (r (((i + m : Nat) : Int) - k) = true ∨ (r (((i + m : Nat) : Int) - k - 1) = true ∧ s (((i + m : Nat) : Int) - k - 1) = true)) ∧ ∀ j : Nat, j ≤ k → s (((i + m : Nat) : Int) - j) = false := by
        by_cases hk : k < i + m
        · exact ⟨k, hk, h1, h2⟩
        · have hall : ∀ e : Int, s e = false := fun e => by
            have h5 := hs.mod (((i + m : Nat) : Int) - e)
            have h6 := Int.emod_nonneg (((i + m : Nat) : Int) - e) (show (m : Int) ≠ 0 by omega)
            have h7 := Int.emod_lt_of_pos (((i + m : Nat) : Int) - e) (show (0 : Int) < m by omega)
            have h8 := h2 ((((i + m : Nat) : Int) - e) % (m : Int)).toNat (by omega)
            have h9 : (((((((i + m : Nat) : Int) - e) % (m : Int)).toNat : Nat)) : Int) = (((i + m : Nat) : Int) - e) % (m : Int) := by omega
            rw [h9] at h8
            have h10 := Int.emod_add_mul_ediv (((i + m : Nat) : Int) - e) (m : Int)
            have h11 : (((i + m : Nat) : Int) - (((i + m : Nat) : Int) - e) % (m : Int)) % (m : Int) = e % (m : Int) := by
              rw [Int.sub_emod_emod, show ((i + m : Nat) : Int) - (((i + m : Nat) : Int) - e) = e by omega]
            have h12 := hs.mod (((i + m : Nat) : Int) - (((i + m : Nat) : Int) - e) % (m : Int))
            rw [h11, hs.mod, h8] at h12
            exact h12
          have hrr : ∃ e : Int, r e = true := by
            rcases h1 with h | h
            · exact ⟨_, h⟩
            · exact ⟨_, h.1⟩
          obtain ⟨e, he⟩ := hrr
          have h6 := Int.emod_nonneg (((i + m : Nat) : Int) - e) (show (m : Int) ≠ 0 by omega)
          have h7 := Int.emod_lt_of_pos (((i + m : Nat) : Int) - e) (show (0 : Int) < m by omega)
          refine ⟨((((i + m : Nat) : Int) - e) % (m : Int)).toNat, by omega, .inl ?_, fun j _ => hall _⟩
          have h9 : (((((((i + m : Nat) : Int) - e) % (m : Int)).toNat : Nat)) : Int) = (((i + m : Nat) : Int) - e) % (m : Int) := by omega
          rw [h9]
          have h11 : (((i + m : Nat) : Int) - (((i + m : Nat) : Int) - e) % (m : Int)) % (m : Int) = e % (m : Int) := by
            rw [Int.sub_emod_emod, show ((i + m : Nat) : Int) - (((i + m : Nat) : Int) - e) = e by omega]
          rw [← hr.mod, h11, hr.mod, he]
      obtain ⟨k, hk, h1, h2⟩ := key
      refine ⟨i + m - k, by omega, (gb _ (by omega)).mpr ⟨?_, ?_⟩, fun j h8 h9 => ?_⟩
      · have := h2 k (Nat.le_refl _)
        rw [show ((i + m - k : Nat) : Int) = ((i + m : Nat) : Int) - k by omega]; exact this
      · rw [show ((i + m - k : Nat) : Int) = ((i + m : Nat) : Int) - k by omega]
        rcases h1 with h | h
        · exact .inl h
        · exact .inr ⟨by omega, h⟩
      · have := h2 (i + m - j) (by omega)
        rw [show ((i + m : Nat) : Int) - ((i + m - j : Nat) : Int) = j by omega] at this
        rw [hF, this, decide_eq_true (show j < m + m by omega)]; rfl
/-- the last R day up to an S day -/
def untilP (r s : Int → Bool) (d : Int) : Prop := r d = true ∧ ∃ k : Nat, s (d + k) = true ∧ ∀ j : Nat, 1 ≤ j → j ≤ k → r (d + j) = false
theorem until_neg {r s r' s' : Int → Bool} (hr : ∀ d, r' d = r (-d)) (hs : ∀ d, s' d = s (-d)) (d : Int) : uponP r' s' (-d) ↔ untilP r s d := by
  have e : ∀ k : Nat, -(-d - (k : Int)) = d + k := fun k => by omega
  unfold uponP untilP
  simp only [hr, hs, e, Int.neg_neg]
theorem PerF.cong {m : Nat} {r : Int → Bool} (h : PerF m r) {d e : Int} (hde : d % (m : Int) = e % (m : Int)) (x : Int) : r (d + x) = r (e + x) := by
  rw [← h.mod (d + x), ← h.mod (e + x), Int.add_emod, hde, ← Int.add_emod]
theorem PerF.congS {m : Nat} {r : Int → Bool} (h : PerF m r) {d e : Int} (hde : d % (m : Int) = e % (m : Int)) (x : Int) : r (d - x) = r (e - x) := h.cong hde (-x)
theorem PerF.cong0 {m : Nat} {r : Int → Bool} (h : PerF m r) {d e : Int} (hde : d % (m : Int) = e % (m : Int)) : r d = r e := by
  rw [← h.mod d, hde, h.mod]
theorem upon_cong {m : Nat} {r s : Int → Bool} (hr : PerF m r) (hs : PerF m s) {d e : Int} (h : d % (m : Int) = e % (m : Int)) : uponP r s d ↔ uponP r s e := by
  unfold uponP; simp only [hr.cong0 h, hr.congS h, hs.congS h]
theorem till_cong {m : Nat} {r s : Int → Bool} (hr : PerF m r) (hs : PerF m s) {d e : Int} (h : d % (m : Int) = e % (m : Int)) : tillP r s d ↔ tillP r s e := by
  have e1 : ∀ k : Int, d - k - 1 = d - (k + 1) := fun k => by omega
  have e2 : ∀ k : Int, e - k - 1 = e - (k + 1) := fun k => by omega
  unfold tillP; simp only [e1, e2, hr.cong0 h, hs.cong0 h, hr.congS h, hs.congS h]
theorem hold_iff {m x : Nat} {P : Int → Prop} (hm : 1 ≤ m) (hx : ∀ i : Nat, i < m → (x.testBit i = true ↔ P i)) (hp : ∀ d : Int, P (d % (m : Int)) ↔ P d) (d : Int) : hold m x d = true ↔ P d := by
  obtain ⟨h1, h2⟩ := mod_lt' hm d
  show x.testBit (d % (m : Int)).toNat = true ↔ P d
  rw [hx _ h1, h2, hp]
theorem mod_mod' (d : Int) (m : Nat) : d % (m : Int) % (m : Int) = d % (m : Int) := Int.emod_emod_of_dvd _ (Int.dvd_refl _)
theorem hold_Per {n b m : Nat} (hd : n ∣ m) : PerF m (hold n b) := fun d => by
  rw [← hold_dvd hd (d + m), Int.add_emod_right, hold_dvd hd]
theorem two_bits {m : Nat} {f : Int → Bool} (i : Nat) : (bitsOf (m + m) f).testBit i = (decide (i < m + m) && f i) := tb_bitsOf _ _ _
theorem two_not {m : Nat} {f : Int → Bool} (i : Nat) : (bitsOf (m + m) f ^^^ (2 ^ (m + m) - 1)).testBit i = (decide (i < m + m) && !f i) := by
  rw [Nat.testBit_xor, Nat.testBit_two_pow_sub_one, two_bits]
  by_cases h : i < m + m <;> simp [h]
theorem two_mask {m : Nat} (i : Nat) : (2 ^ (m + m) - 1).testBit i = decide (i < m + m) := Nat.testBit_two_pow_sub_one ..
theorem div_two {x m : Nat} (h : x < 2 ^ (m + m)) : x / 2 ^ m < 2 ^ m := Nat.div_lt_of_lt_mul (by rw [← Nat.pow_add]; exact h)

/-! ### the places of the bits that are 1, rising -/
structure Row (l : List Int) (f : Int → Bool) (n : Nat) : Prop where
  up : l.Pairwise (· < ·)
  mem : ∀ z, z ∈ l ↔ 0 ≤ z ∧ z < n ∧ f z = true
theorem row_len : ∀ (l : List Int) (lo n : Int), lo ≤ n → l.Pairwise (· < ·) → (∀ z ∈ l, lo ≤ z ∧ z < n) → (l.length : Int) ≤ n - lo
  | [], lo, n, h0, _, _ => by simp; omega
  | a :: r, lo, n, h0, hp, hb => by
    have h1 := List.pairwise_cons.mp hp
    have h2 := hb a List.mem_cons_self
    have := row_len r (a + 1) n (by omega) h1.2 (fun z hz => ⟨by have := h1.1 z hz; omega, (hb z (List.mem_cons_of_mem _ hz)).2⟩)
    rw [List.length_cons]; omega
theorem Row.len {l : List Int} {f : Int → Bool} {n : Nat} (h : Row l f n) : l.length ≤ n := by
  have := row_len l 0 n (by omega) h.up (fun z hz => ⟨((h.mem z).mp hz).1, ((h.mem z).mp hz).2.1⟩)
  omega
theorem up_lt {l : List Int} (h : l.Pairwise (· < ·)) {i j : Nat} (hij : i < j) (hj : j < l.length) : l.getD i 0 < l.getD j 0 := by
  rw [List.getD_eq_getElem?_getD, List.getD_eq_getElem?_getD, List.getElem?_eq_getElem (by omega), List.getElem?_eq_getElem hj]
  exact List.pairwise_iff_getElem.mp h i j (by omega) hj hij
theorem getD_mem {l : List Int} {i : Nat} (h : i < l.length) : l.getD i 0 ∈ l := by
  rw [List.getD_eq_getElem?_getD, List.getElem?_eq_getElem h]; exact List.getElem_mem _
theorem mem_getD {l : List Int} {z : Int} (h : z ∈ l) : ∃ i, i < l.length ∧ l.getD i 0 = z := by
  obtain ⟨i, hi, e⟩ := List.mem_iff_getElem.mp h
  exact ⟨i, hi, by rw [List.getD_eq_getElem?_getD, List.getElem?_eq_getElem hi]; exact e⟩
/-- one stretch of days and the first one behind it -/
structure Arnd (m : Nat) (f : Int → Bool) (l : List Int) : Prop where
  two : l ≠ [] → 2 ≤ l.length
  len : l.length ≤ m + 1
  step : ∀ k, k + 1 < l.length → (0 ≤ l.getD k 0 ∧ l.getD k 0 < m ∧ l.getD k 0 < l.getD (k + 1) 0 ∧ l.getD (k + 1) 0 ≤ l.getD k 0 + m) ∧ f (l.getD k 0) = true ∧ f (l.getD (k + 1) 0) = true ∧ ∀ e, l.getD k 0 < e → e < l.getD (k + 1) 0 → f e = false
  cov : ∀ d : Int, 0 ≤ d → d < m → f d = true → ∃ k, k + 1 < l.length ∧ l.getD k 0 = d
  cov2 : ∀ d : Int, 0 ≤ d → d < m → f d = true → ∃ k, k + 1 < l.length ∧ (l.getD (k + 1) 0 = d ∨ l.getD (k + 1) 0 = d + m)
theorem arnd_nil {m : Nat} {f : Int → Bool} (h : Row [] f m) : Arnd m f [] := by
  have hc : ∀ d : Int, 0 ≤ d → d < m → f d = true → False := fun d h1 h2 h3 => by have := (h.mem d).mpr ⟨h1, h2, h3⟩; simp at this
  exact ⟨fun h => absurd rfl h, by simp, fun k hk => by simp at hk, fun d h1 h2 h3 => (hc d h1 h2 h3).elim, fun d h1 h2 h3 => (hc d h1 h2 h3).elim⟩
theorem arnd_of {m : Nat} {f : Int → Bool} {l : List Int} (hf : PerF m f) (hm : 1 ≤ m) (h : Row l f m) (h0 : l ≠ []) : Arnd m f (l ++ [l.getD 0 0 + m]) := by
  have hp : 0 < l.length := List.length_pos_iff.mpr h0
  have hl := h.len
  have g1 : ∀ k, k < l.length → (l ++ [l.getD 0 0 + (m : Int)]).getD k 0 = l.getD k 0 := fun k hk => by
    rw [List.getD_eq_getElem?_getD, List.getElem?_append_left hk, ← List.getD_eq_getElem?_getD]
  have g2 : (l ++ [l.getD 0 0 + (m : Int)]).getD l.length 0 = l.getD 0 0 + m := by
    rw [List.getD_eq_getElem?_getD, List.getElem?_append_right (Nat.le_refl _), Nat.sub_self]; rfl
  have hb : ∀ k, k < l.length → 0 ≤ l.getD k 0 ∧ l.getD k 0 < m ∧ f (l.getD k 0) = true := fun k hk => (h.mem _).mp (getD_mem hk)
  have hz := hb 0 hp
  have hmin : ∀ d : Int, 0 ≤ d → d < m → f d = true → l.getD 0 0 ≤ d := fun d h1 h2 h3 => by
    obtain ⟨i, hi, rfl⟩ := mem_getD ((h.mem d).mpr ⟨h1, h2, h3⟩)
    by_cases e : i = 0
    · subst e; omega
    · have := up_lt h.up (show 0 < i by omega) hi; omega
  refine ⟨fun _ => by rw [List.length_append, List.length_singleton]; omega, by rw [List.length_append, List.length_singleton]; omega, fun k hk => ?_, fun d h1 h2 h3 => ?_, fun d h1 h2 h3 => ?_⟩
  · rw [List.length_append, List.length_singleton] at hk
    have hk1 : k < l.length := by omega
    rw [g1 k hk1]
    have hbk := hb k hk1
    by_cases e : k + 1 < l.length
    · rw [g1 _ e]
      have hbk2 := hb _ e
      have hlt := up_lt h.up (show k < k + 1 by omega) e
      refine ⟨⟨hbk.1, hbk.2.1, hlt, by omega⟩, hbk.2.2, hbk2.2.2, fun x hx1 hx2 => ?_⟩
      cases hfx : f x with
      | false => rfl
      | true =>
        obtain ⟨i, hi, rfl⟩ := mem_getD ((h.mem x).mpr ⟨by omega, by omega, hfx⟩)
        exfalso
        by_cases h1 : i ≤ k
        · by_cases h2 : i = k
          · subst h2; omega
          · have := up_lt h.up (show i < k by omega) hk1; omega
        · by_cases h2 : i = k + 1
          · subst h2; omega
          · have := up_lt h.up (show k + 1 < i by omega) hi; omega
    · have e1 : k + 1 = l.length := by omega
      rw [e1, g2]
      have hk0 : l.getD 0 0 ≤ l.getD k 0 := hmin _ hbk.1 hbk.2.1 hbk.2.2
      refine ⟨⟨hbk.1, hbk.2.1, by omega, by omega⟩, hbk.2.2, by rw [hf]; exact hz.2.2, fun x hx1 hx2 => ?_⟩
      cases hfx : f x with
      | false => rfl
      | true =>
        exfalso
        by_cases hxm : x < m
        · obtain ⟨i, hi, rfl⟩ := mem_getD ((h.mem x).mpr ⟨by omega, hxm, hfx⟩)
          by_cases h2 : i = k
          · subst h2; omega
          · have := up_lt h.up (show i < k by omega) hk1; omega
        · have h4 : f (x - m) = true := by rw [← hf, show x - m + m = x by omega]; exact hfx
          have := hmin (x - m) (by omega) (by omega) h4
          omega
  · obtain ⟨i, hi, rfl⟩ := mem_getD ((h.mem d).mpr ⟨h1, h2, h3⟩)
    exact ⟨i, by rw [List.length_append, List.length_singleton]; omega, g1 i hi⟩
  · obtain ⟨i, hi, rfl⟩ := mem_getD ((h.mem d).mpr ⟨h1, h2, h3⟩)
    by_cases e : i = 0
    · subst e
      exact ⟨l.length - 1, by rw [List.length_append, List.length_singleton]; omega, by rw [show l.length - 1 + 1 = l.length by omega, g2]; exact .inr rfl⟩
    · exact ⟨i - 1, by rw [List.length_append, List.length_singleton]; omega, by rw [show i - 1 + 1 = i by omega, g1 i hi]; exact .inl rfl⟩
theorem ix_getD {l : List Int} {i : Int} {k : Nat} (hi : i = k) (h : k < l.length) : atI (l.map V.int) i = some (.int (l.getD k 0)) := by
  refine at_of hi ?_
  rw [List.getElem?_map, List.getD_eq_getElem?_getD, List.getElem?_eq_getElem h]; rfl
theorem xor_low {x k : Nat} (i : Nat) : (x ^^^ 2 ^ k).testBit i = (x.testBit i ^^ decide (k = i)) := by rw [Nat.testBit_xor, Nat.testBit_two_pow]
/-- the lowest bit taken out -/
theorem place_step {x n k : Nat} (hx : x < 2 ^ n) (hk : x.testBit k = true) (hlow : ∀ i, i < k → x.testBit i = false) : k < n ∧ x ^^^ 2 ^ k < 2 ^ n ∧ ∀ i, (x ^^^ 2 ^ k).testBit i = (x.testBit i && !decide (i = k)) := by
  have hkn : k < n := by
    by_cases h : k < n
    · exact h
    · rw [Nat.testBit_lt_two_pow (Nat.lt_of_lt_of_le hx (Nat.pow_le_pow_right (by decide) (by omega)))] at hk; exact absurd hk (by decide)
  refine ⟨hkn, Nat.xor_lt_two_pow hx (Nat.pow_lt_pow_right (by decide) hkn), fun i => ?_⟩
  rw [xor_low]
  by_cases e : i = k
  · subst e; simp [hk]
  · rw [decide_eq_false (show ¬ k = i by omega), decide_eq_false e]; simp
theorem low_pow {x : Nat} (h : 0 < x) : ∃ k, Builtin.bitAnd (x : Int) (-(x : Int)) = ((2 ^ k : Nat) : Int) ∧ x.testBit k = true ∧ ∀ i, i < k → x.testBit i = false := by
  obtain ⟨k, h1, h2, h3⟩ := low_bit h
  exact ⟨k, by rw [and_neg h, h1], h2, h3⟩
/-! ### near -/
def nearP (r s : Int → Bool) (d : Int) : Prop := r d = true ∧ ((∃ k : Nat, 1 ≤ k ∧ s (d + k) = true ∧ ∀ j : Nat, 1 ≤ j → j < 2 * k → r (d + j) = false) ∨ (∃ k : Nat, s (d - k) = true ∧ ∀ j : Nat, 1 ≤ j → j ≤ 2 * k → r (d - j) = false))
def nearC (s : Int → Bool) (x y : Int) : Prop := ∃ e, x < e ∧ e ≤ y ∧ s e = true
theorem near_bits {m : Nat} {r s : Int → Bool} {l : List Int} (hr : PerF m r) (hs : PerF m s) (hm : 1 ≤ m) (h : Arnd m r l) (j : Nat) (hj : j < m) :
    (∃ k, k + 1 < l.length ∧ ((l.getD k 0 = j ∧ nearC s (l.getD k 0) ((l.getD k 0 + l.getD (k + 1) 0) / 2)) ∨ (l.getD (k + 1) 0 % m = j ∧ nearC s ((l.getD k 0 + l.getD (k + 1) 0) / 2) (l.getD (k + 1) 0)))) ↔ nearP r s j := by
  constructor
  · rintro ⟨k, hk, h1⟩
    obtain ⟨⟨h2, h3, h4, h5⟩, h6, h7, h8⟩ := h.step k hk
    generalize l.getD k 0 = x at *
    generalize l.getD (k + 1) 0 = y at *
    rcases h1 with ⟨rfl, e, e1, e2, e3⟩ | ⟨h9, e, e1, e2, e3⟩
    · refine ⟨h6, .inl ⟨(e - j).toNat, by omega, ?_, fun i hi hi2 => h8 _ (by omega) (by omega)⟩⟩
      rw [show (j : Int) + ((e - j).toNat : Nat) = e by omega]; exact e3
    · have ed := Int.emod_add_mul_ediv y (m : Int)
      have hq : y / (m : Int) = 0 ∨ y / (m : Int) = 1 := by
        by_cases hy : y < m
        · left; exact Int.ediv_eq_zero_of_lt (by omega) hy
        · right
          have e1 : y = (y - m) + m * 1 := by omega
          rw [e1, Int.add_mul_ediv_left _ _ (by omega), Int.ediv_eq_zero_of_lt (by omega) (by omega)]; rfl
      have hper : ∀ {g : Int → Bool}, PerF m g → ∀ z : Int, g ((j : Int) - z) = g (y - z) := fun {g} hg z => by
        rcases hq with hq | hq
        · rw [hq, Int.mul_zero] at ed
          rw [show y = (j : Int) by omega]
        · rw [hq, Int.mul_one] at ed
          rw [show y - z = (j : Int) - z + m by omega, hg]
      have h7' : r j = true := by
        have := hper hr 0
        simp only [Int.sub_zero] at this
        rw [this]; exact h7
      refine ⟨h7', .inr ⟨(y - e).toNat, ?_, fun i hi hi2 => ?_⟩⟩
      · rw [hper hs, show y - ((y - e).toNat : Nat) = e by omega]; exact e3
      · rw [hper hr]; exact h8 _ (by omega) (by omega)
  · rintro ⟨h1, ⟨t, ht, h2, h3⟩ | ⟨t, h2, h3⟩⟩
    · obtain ⟨k, hk, hkd⟩ := h.cov j (by omega) (by omega) h1
      obtain ⟨⟨h4, h5, h6, h7⟩, h8, h9, h10⟩ := h.step k hk
      refine ⟨k, hk, .inl ⟨hkd, (j : Int) + t, by omega, ?_, h2⟩⟩
      rw [hkd]
      have : (j : Int) + 2 * t ≤ l.getD (k + 1) 0 := by
        refine Classical.byContradiction fun hc => ?_
        have := h3 (l.getD (k + 1) 0 - j).toNat (by omega) (by omega)
        rw [show (j : Int) + ((l.getD (k + 1) 0 - j).toNat : Nat) = l.getD (k + 1) 0 by omega, h9] at this
        exact absurd this (by decide)
      omega
    · obtain ⟨k, hk, hkd⟩ := h.cov2 j (by omega) (by omega) h1
      obtain ⟨⟨h4, h5, h6, h7⟩, h8, h9, h10⟩ := h.step k hk
      have hper : ∀ {g : Int → Bool}, PerF m g → ∀ z : Int, g (l.getD (k + 1) 0 - z) = g ((j : Int) - z) := fun {g} hg z => by
        rcases hkd with e | e
        · rw [e]
        · rw [e, show (j : Int) + m - z = (j : Int) - z + m by omega, hg]
      refine ⟨k, hk, .inr ⟨?_, l.getD (k + 1) 0 - t, ?_, by omega, by rw [hper hs]; exact h2⟩⟩
      · rcases hkd with e | e
        · rw [e]; exact Int.emod_eq_of_lt (by omega) (by omega)
        · rw [e, Int.add_emod_right]; exact Int.emod_eq_of_lt (by omega) (by omega)
      · have : l.getD k 0 < l.getD (k + 1) 0 - 2 * t := by
          refine Classical.byContradiction fun hc => ?_
          have := h3 (l.getD (k + 1) 0 - l.getD k 0).toNat (by omega) (by omega)
          rw [← hper hr, show l.getD (k + 1) 0 - ((l.getD (k + 1) 0 - l.getD k 0).toNat : Nat) = l.getD k 0 by omega, h8] at this
          exact absurd this (by decide)
        omega
/-! ### the so-many-th bit -/
theorem cnt_succ (f : Nat → Bool) (c : Nat) : cnt f (c + 1) = cnt f c + if f c then 1 else 0 := rfl
/-- which bit is the so-many-th -/
def chosenP (z : Int) (f : Nat → Bool) (c : Nat) : Prop := f c = true ∧ (cnt f (c + 1) : Int) = z
theorem cnt_clear {f g : Nat → Bool} {k : Nat} (hk : f k = true) (hlow : ∀ i, i < k → f i = false) (hg : ∀ i, g i = (f i && !decide (i = k))) : ∀ c, cnt f c = cnt g c + if k < c then 1 else 0
  | 0 => by simp [cnt]
  | c + 1 => by
    have ih := cnt_clear hk hlow hg c
    rw [cnt_succ, cnt_succ, ih, hg c]
    by_cases e : c = k
    · subst e; simp [hk]
    · by_cases h : k < c
      · rw [if_pos h, if_pos (show k < c + 1 by omega)]
        cases f c <;> simp [e] <;> omega
      · rw [if_neg h, if_neg (show ¬ k < c + 1 by omega), hlow c (by omega)]; simp
theorem chosen_step {f g : Nat → Bool} {k : Nat} {z : Int} (hz : 1 < z) (hk : f k = true) (hlow : ∀ i, i < k → f i = false) (hg : ∀ i, g i = (f i && !decide (i = k))) (c : Nat) : chosenP z f c ↔ chosenP (z - 1) g c := by
  have hc := cnt_clear hk hlow hg (c + 1)
  have h0 : cnt f (k + 1) = 1 := by rw [cnt_succ, cnt_zero hlow, hk]; rfl
  unfold chosenP
  rw [hg c]
  constructor
  · rintro ⟨h1, h2⟩
    have hck : k < c := by
      rcases Nat.lt_trichotomy c k with h | h | h
      · rw [hlow c h] at h1; exact absurd h1 (by decide)
      · subst h; omega
      · exact h
    rw [if_pos (by omega)] at hc
    exact ⟨by rw [h1, decide_eq_false (by omega)]; rfl, by omega⟩
  · rintro ⟨h1, h2⟩
    rw [Bool.and_eq_true] at h1
    have hck : k < c := by
      rcases Nat.lt_trichotomy c k with h | h | h
      · rw [hlow c h] at h1; exact absurd h1.1 (by decide)
      · subst h; simp at h1
      · exact h
    rw [if_pos (by omega)] at hc
    exact ⟨h1.1, by omega⟩
theorem chosen_one {f : Nat → Bool} {k : Nat} (hk : f k = true) (hlow : ∀ i, i < k → f i = false) (c : Nat) : chosenP 1 f c ↔ c = k := by
  have h0 : cnt f (k + 1) = 1 := by rw [cnt_succ, cnt_zero hlow, hk]; rfl
  unfold chosenP
  constructor
  · rintro ⟨h1, h2⟩
    rcases Nat.lt_trichotomy c k with h | h | h
    · rw [hlow c h] at h1; exact absurd h1 (by decide)
    · exact h
    · have := cnt_mono f (show k + 1 ≤ c by omega)
      rw [cnt_succ, h1] at h2; simp at h2; omega
  · rintro rfl; exact ⟨hk, by omega⟩
theorem chosen_none {f : Nat → Bool} {z : Int} {c : Nat} (hz : z < 1) : ¬ chosenP z f c := fun ⟨h1, h2⟩ => by
  rw [cnt_succ, h1] at h2; simp at h2; omega
theorem chosen_far {f : Nat → Bool} {z : Int} {c n : Nat} (hn : ∀ i, n ≤ i → f i = false) (hz : n < z) : ¬ chosenP z f c := fun ⟨h1, h2⟩ => by
  have hc : c < n := by
    by_cases h : c < n
    · exact h
    · rw [hn c (by omega)] at h1; exact absurd h1 (by decide)
  have := cnt_le f (c + 1)
  omega
theorem chosen_nil {f : Nat → Bool} {z : Int} {c : Nat} (hf : ∀ i, f i = false) : ¬ chosenP z f c := fun ⟨h1, h2⟩ => by
  rw [hf] at h1; exact absurd h1 (by decide)
/-! ### kth -/
def kthP (z : Int) (r s : Int → Bool) (d : Int) : Prop := r d = true ∧
  if 0 < z then ∃ k : Nat, s (d - k) = true ∧ (∀ j : Nat, j < k → s (d - j) = false) ∧ (cnt (fun i => r (d - k + i)) (k + 1) : Int) = z
  else ∃ k : Nat, 1 ≤ k ∧ s (d + k) = true ∧ (∀ j : Nat, 1 ≤ j → j < k → s (d + j) = false) ∧ (cnt (fun i => r (d + i)) k : Int) = -z
/-- of one span from x to ahead of y: which of its days is told -/
theorem kth_span {z : Int} {r s : Int → Bool} {x y : Int} (hz : z ≠ 0) (hxy : x < y) (hsx : s x = true) (hsy : s y = true) (hno : ∀ e, x < e → e < y → s e = false) (c : Nat) (hc : x + c < y) :
    chosenP (if z < 0 then (cnt (fun i => r (x + i)) (y - x).toNat : Int) + z + 1 else z) (fun i => decide (x + i < y) && r (x + i)) c ↔ kthP z r s (x + c) := by
  have hext : cnt (fun i => decide (x + (i : Int) < y) && r (x + i)) (c + 1) = cnt (fun i => r (x + i)) (c + 1) := cnt_ext fun i hi => by
    rw [decide_eq_true (by omega)]; rfl
  unfold chosenP kthP
  rw [hext]
  show (decide (x + (c : Int) < y) && r (x + c)) = true ∧ _ ↔ _
  rw [decide_eq_true hc, Bool.true_and]
  refine and_congr_right fun h1 => ?_
  by_cases h0 : 0 < z
  · rw [if_pos h0, if_neg (by omega)]
    constructor
    · intro h2
      refine ⟨c, by rw [show x + (c : Int) - c = x by omega]; exact hsx, fun j hj => hno _ (by omega) (by omega), ?_⟩
      rw [show x + (c : Int) - c = x by omega]; exact h2
    · rintro ⟨k, h2, h3, h4⟩
      have : k = c := by
        rcases Nat.lt_trichotomy k c with h | h | h
        · have := hno (x + c - k) (by omega) (by omega)
          rw [this] at h2; exact absurd h2 (by decide)
        · exact h
        · have := h3 c h
          rw [show x + (c : Int) - c = x by omega, hsx] at this; exact absurd this (by decide)
      subst this
      rw [show x + (k : Int) - k = x by omega] at h4; exact h4
  · rw [if_neg h0, if_pos (by omega)]
    have hsplit : cnt (fun i => r (x + i)) (y - x).toNat = cnt (fun i => r (x + i)) c + cnt (fun i => r (x + c + i)) ((y - x).toNat - c) := by
      have := cnt_add (fun i => r (x + i)) c ((y - x).toNat - c)
      rw [show c + ((y - x).toNat - c) = (y - x).toNat by omega] at this
      rw [this]; congr 1
      exact cnt_ext fun i _ => by show r _ = r _; congr 1; omega
    have hlast : cnt (fun i => r (x + i)) (c + 1) = cnt (fun i => r (x + i)) c + 1 := by rw [cnt_succ, h1]; rfl
    constructor
    · intro h2
      refine ⟨(y - x).toNat - c, by omega, ?_, fun j hj hj2 => hno _ (by omega) (by omega), ?_⟩
      · rw [show x + (c : Int) + (((y - x).toNat - c : Nat) : Int) = y by omega]; exact hsy
      · omega
    · rintro ⟨k, hk, h2, h3, h4⟩
      have : k = (y - x).toNat - c := by
        rcases Nat.lt_trichotomy k ((y - x).toNat - c) with h | h | h
        · have := hno (x + c + k) (by omega) (by omega)
          rw [this] at h2; exact absurd h2 (by decide)
        · exact h
        · have := h3 ((y - x).toNat - c) (by omega) h
          rw [show x + (c : Int) + (((y - x).toNat - c : Nat) : Int) = y by omega, hsy] at this; exact absurd this (by decide)
      subst this
      omega
theorem kth_per {m : Nat} {z : Int} {r s : Int → Bool} (hr : PerF m r) (hs : PerF m s) (d : Int) : kthP z r s (d + m) ↔ kthP z r s d := by
  have e1 : ∀ k : Nat, s (d + m - k) = s (d - k) := fun k => by rw [show d + (m : Int) - k = d - k + m by omega, hs]
  have e2 : ∀ k : Nat, s (d + m + k) = s (d + k) := fun k => by rw [show d + (m : Int) + k = d + k + m by omega, hs]
  have e3 : ∀ k i : Nat, r (d + m - k + i) = r (d - k + i) := fun k i => by rw [show d + (m : Int) - k + i = d - k + i + m by omega, hr]
  have e4 : ∀ i : Nat, r (d + m + i) = r (d + i) := fun i => by rw [show d + (m : Int) + i = d + i + m by omega, hr]
  unfold kthP
  simp only [e1, e2, e3, e4, hr d]
theorem least_nat {p : Nat → Bool} {n : Nat} (h : p n = true) : ∃ k, k ≤ n ∧ p k = true ∧ ∀ j, j < k → p j = false := by
  induction n using Nat.strongRecOn with
  | _ n ih =>
    by_cases hx : ∃ j, j < n ∧ p j = true
    · obtain ⟨j, h1, h2⟩ := hx
      obtain ⟨k, h3, h4, h5⟩ := ih j h1 h2
      exact ⟨k, by omega, h4, h5⟩
    · exact ⟨n, Nat.le_refl _, h, fun j hj => by
        cases hp : p j with
        | false => rfl
        | true => exact absurd ⟨j, hj, hp⟩ hx⟩
theorem last_ex {m : Nat} {s : Int → Bool} (hs : PerF m s) (hm : 1 ≤ m) {e : Int} (he : s e = true) (d : Int) : ∃ k : Nat, k < m ∧ s (d - k) = true ∧ ∀ j : Nat, j < k → s (d - j) = false := by
  have h1 := Int.emod_nonneg (d - e) (show (m : Int) ≠ 0 by omega)
  have h2 := Int.emod_lt_of_pos (d - e) (show (0 : Int) < m by omega)
  have h3 : s (d - ((d - e) % (m : Int)).toNat) = true := by
    rw [show (((d - e) % (m : Int)).toNat : Int) = (d - e) % (m : Int) by omega, ← hs.mod, Int.sub_emod_emod, show d - (d - e) = e by omega, hs.mod, he]
  obtain ⟨k, h4, h5, h6⟩ := least_nat (p := fun k : Nat => s (d - k)) h3
  exact ⟨k, by omega, h5, h6⟩
theorem next_ex {m : Nat} {s : Int → Bool} (hs : PerF m s) (hm : 1 ≤ m) {e : Int} (he : s e = true) (d : Int) : ∃ k : Nat, k < m ∧ s (d + k) = true ∧ ∀ j : Nat, j < k → s (d + j) = false := by
  have h1 := Int.emod_nonneg (e - d) (show (m : Int) ≠ 0 by omega)
  have h2 := Int.emod_lt_of_pos (e - d) (show (0 : Int) < m by omega)
  have h3 : s (d + ((e - d) % (m : Int)).toNat) = true := by
    rw [show (((e - d) % (m : Int)).toNat : Int) = (e - d) % (m : Int) by omega, ← hs.mod, Int.add_emod_emod, show d + (e - d) = e by omega, hs.mod, he]
  obtain ⟨k, h4, h5, h6⟩ := least_nat (p := fun k : Nat => s (d + k)) h3
  exact ⟨k, by omega, h5, h6⟩
theorem kth_final {m : Nat} {z : Int} {r s : Int → Bool} {l : List Int} (hr : PerF m r) (hs : PerF m s) (hm : 1 ≤ m) (h : Arnd m s l) (j : Nat) (hj : j < m) {B : Nat}
    (hB : ∀ p : Nat, B.testBit p = true ↔ ∃ k, k + 1 < l.length ∧ l.getD k 0 ≤ p ∧ p < l.getD (k + 1) 0 ∧ kthP z r s p) :
    ((B ||| (B / 2 ^ m)) % 2 ^ m).testBit j = true ↔ kthP z r s j := by
  rw [Nat.testBit_mod_two_pow, decide_eq_true hj, Bool.true_and, Nat.testBit_or, Bool.or_eq_true, Nat.testBit_div_two_pow, hB, hB]
  have hper := kth_per (z := z) hr hs (j : Int)
  have ec : ((j + m : Nat) : Int) = (j : Int) + m := by omega
  rw [ec]
  constructor
  · rintro (⟨k, h1, h2, h3, h4⟩ | ⟨k, h1, h2, h3, h4⟩)
    · exact h4
    · exact hper.mp h4
  · intro hk
    have hse : ∃ e, s e = true := by
      have h1 := hk.2
      by_cases h0 : 0 < z
      · rw [if_pos h0] at h1; obtain ⟨k, h2, _⟩ := h1; exact ⟨_, h2⟩
      · rw [if_neg h0] at h1; obtain ⟨k, _, h2, _⟩ := h1; exact ⟨_, h2⟩
    obtain ⟨e, he⟩ := hse
    obtain ⟨t, ht, h1, h2⟩ := last_ex hs hm he (j : Int)
    have g1 := Int.emod_nonneg ((j : Int) - t) (show (m : Int) ≠ 0 by omega)
    have g2 := Int.emod_lt_of_pos ((j : Int) - t) (show (0 : Int) < m by omega)
    obtain ⟨k, hk1, hk2⟩ := h.cov _ g1 g2 (by rw [hs.mod]; exact h1)
    obtain ⟨⟨h4, h5, h6, h7⟩, h8, h9, h10⟩ := h.step k hk1
    have hq : ((j : Int) - t) % (m : Int) = j - t ∨ ((j : Int) - t) % (m : Int) = j - t + m := by
      by_cases hjt : t ≤ j
      · left; exact Int.emod_eq_of_lt (by omega) (by omega)
      · right
        have := Int.add_emod_right (a := (j : Int) - t) (b := m)
        rw [← this]; exact Int.emod_eq_of_lt (by omega) (by omega)
    have hlt : ((j : Int) - t) % (m : Int) + t < l.getD (k + 1) 0 := by
      refine Classical.byContradiction fun hc => ?_
      have a1 : 0 < l.getD (k + 1) 0 - ((j : Int) - t) % (m : Int) := by omega
      have := h2 (t - (l.getD (k + 1) 0 - ((j : Int) - t) % (m : Int)).toNat) (by omega)
      have e1 : s ((j : Int) - ((t - (l.getD (k + 1) 0 - ((j : Int) - t) % (m : Int)).toNat : Nat) : Int)) = s (l.getD (k + 1) 0) := by
        rcases hq with hq | hq
        · rw [hq] at hc a1 ⊢; congr 1; omega
        · rw [hq] at hc a1 ⊢
          rw [← hs]; congr 1; omega
      rw [e1, h9] at this
      exact absurd this (by decide)
    rcases hq with hq | hq
    · left; exact ⟨k, hk1, by rw [hk2, hq]; omega, by rw [hq] at hlt; omega, hk⟩
    · right; exact ⟨k, hk1, by rw [hk2, hq]; omega, by rw [hq] at hlt; omega, hper.mpr hk⟩
/-! ### every -/
theorem row_cnt {l : List Int} {f : Int → Bool} {n : Nat} (h : Row l f n) : ∀ k, k < l.length → cnt (fun i => f i) (l.getD k 0).toNat = k
  | 0, hk => by
    refine cnt_zero fun i hi => ?_
    cases hf : f i with
    | false => rfl
    | true =>
      have h0 := (h.mem _).mp (getD_mem hk)
      obtain ⟨j, hj, e⟩ := mem_getD ((h.mem (i : Int)).mpr ⟨by omega, by omega, hf⟩)
      by_cases ej : j = 0
      · subst ej; omega
      · have := up_lt h.up (show 0 < j by omega) hj; omega
  | k + 1, hk => by
    have ih := row_cnt h k (by omega)
    have hlt := up_lt h.up (show k < k + 1 by omega) hk
    have hb0 := (h.mem _).mp (getD_mem (show k < l.length by omega))
    have hb1 := (h.mem _).mp (getD_mem hk)
    have e : (l.getD (k + 1) 0).toNat = (l.getD k 0).toNat + 1 + ((l.getD (k + 1) 0).toNat - ((l.getD k 0).toNat + 1)) := by omega
    rw [e, cnt_add, cnt_succ, ih, cnt_zero (n := (l.getD (k + 1) 0).toNat - ((l.getD k 0).toNat + 1)), show (((l.getD k 0).toNat : Nat) : Int) = l.getD k 0 by omega, hb0.2.2]
    · rfl
    · intro i hi
      cases hf : f (((l.getD k 0).toNat + 1 + i : Nat)) with
      | false => rfl
      | true =>
        obtain ⟨j, hj, e⟩ := mem_getD ((h.mem _).mpr ⟨by omega, by omega, hf⟩)
        exfalso
        by_cases h1 : j ≤ k
        · by_cases h2 : j = k
          · subst h2; omega
          · have := up_lt h.up (show j < k by omega) (by omega); omega
        · by_cases h2 : j = k + 1
          · subst h2; omega
          · have := up_lt h.up (show k + 1 < j by omega) hj; omega
theorem row_pop {l : List Int} {f : Int → Bool} {n : Nat} (h : Row l f n) : cnt (fun i => f i) n = l.length := by
  by_cases h0 : l.length = 0
  · rw [h0]
    refine cnt_zero fun i hi => ?_
    cases hf : f i with
    | false => rfl
    | true =>
      obtain ⟨j, hj, _⟩ := mem_getD ((h.mem (i : Int)).mpr ⟨by omega, by omega, hf⟩)
      omega
  · have hk : l.length - 1 < l.length := by omega
    have hc := row_cnt h _ hk
    have hb := (h.mem _).mp (getD_mem hk)
    have e : n = (l.getD (l.length - 1) 0).toNat + 1 + (n - ((l.getD (l.length - 1) 0).toNat + 1)) := by omega
    rw [e, cnt_add, cnt_succ, hc, cnt_zero (n := n - ((l.getD (l.length - 1) 0).toNat + 1)), show (((l.getD (l.length - 1) 0).toNat : Nat) : Int) = l.getD (l.length - 1) 0 by omega, hb.2.2]
    · show l.length - 1 + 1 + 0 = _; omega
    · intro i hi
      cases hf : f (((l.getD (l.length - 1) 0).toNat + 1 + i : Nat)) with
      | false => rfl
      | true =>
        obtain ⟨j, hj, e⟩ := mem_getD ((h.mem _).mpr ⟨by omega, by omega, hf⟩)
        exfalso
        by_cases h2 : j = l.length - 1
        · subst h2; omega
        · have := up_lt h.up (show j < l.length - 1 by omega) hk; omega
/-- every so-many-th day of a round, counted from a day -/
def everyP (z n b : Nat) (d e : Int) : Prop := hold n b e = true ∧ (rankI n b e - rankI n b d) % (z : Int) = 0
theorem every_at {n b : Nat} {l : List Int} (hn : 1 ≤ n) (hb : b < 2 ^ n) (h : Row l (hold n b) n) {q : Int} {t : Nat} (ht : t < l.length) :
    hold n b (q * n + l.getD t 0) = true ∧ rankI n b (q * n + l.getD t 0) = q * l.length + t := by
  have hb1 := (h.mem _).mp (getD_mem ht)
  have hc := row_cnt h t ht
  have hp := row_pop h
  have e1 : (q * (n : Int) + l.getD t 0) % (n : Int) = l.getD t 0 := by
    rw [Int.add_comm, Int.add_mul_emod_self_right, Int.emod_eq_of_lt hb1.1 hb1.2.1]
  have e2 : (q * (n : Int) + l.getD t 0) / (n : Int) = q := by
    rw [Int.add_comm, Int.add_mul_ediv_right _ _ (by omega), Int.ediv_eq_zero_of_lt hb1.1 hb1.2.1, Int.zero_add]
  have hcn : ∀ k, k ≤ n → cnt b.testBit k = cnt (fun i => hold n b i) k := fun k hk => cnt_ext fun i hi => (hold_nat (by omega)).symm
  refine ⟨?_, ?_⟩
  · rw [← hold_per, e1]; exact hb1.2.2
  · unfold rankI
    rw [e1, e2, pop_cnt, pop_eq hb, hcn _ (Nat.le_refl n), hp, hcn _ (by omega), hc]
theorem every_from {n b : Nat} {l : List Int} (hn : 1 ≤ n) (h : Row l (hold n b) n) {e : Int} (he : hold n b e = true) : ∃ t : Nat, t < l.length ∧ e = e / (n : Int) * n + l.getD t 0 := by
  have h1 := Int.emod_nonneg e (show (n : Int) ≠ 0 by omega)
  have h2 := Int.emod_lt_of_pos e (show (0 : Int) < n by omega)
  obtain ⟨t, ht, ht2⟩ := mem_getD ((h.mem (e % (n : Int))).mpr ⟨h1, h2, by rw [hold_per]; exact he⟩)
  have h3 := Int.emod_add_mul_ediv e (n : Int)
  exact ⟨t, ht, by rw [ht2, Int.mul_comm]; omega⟩
/-- the place of the at-th day of a round, from day 0 on -/
def atPlace (n : Nat) (l : List Int) (at_ : Int) : Int := at_ / (l.length : Int) * n + l.getD (at_ % (l.length : Int)).toNat 0
theorem at_ok {n b : Nat} {l : List Int} (hn : 1 ≤ n) (hb : b < 2 ^ n) (h : Row l (hold n b) n) (h0 : 0 < l.length) {x : Int} : hold n b (atPlace n l x) = true ∧ rankI n b (atPlace n l x) = x := by
  have h1 := Int.emod_nonneg x (show (l.length : Int) ≠ 0 by omega)
  have h2 := Int.emod_lt_of_pos x (show (0 : Int) < l.length by omega)
  have h3 := Int.emod_add_mul_ediv x (l.length : Int)
  obtain ⟨h4, h5⟩ := every_at (q := x / (l.length : Int)) hn hb h (show (x % (l.length : Int)).toNat < l.length by omega)
  refine ⟨h4, ?_⟩
  unfold atPlace
  rw [h5, Int.mul_comm]; omega
theorem at_rank {n b : Nat} {l : List Int} (hn : 1 ≤ n) (hb : b < 2 ^ n) (h : Row l (hold n b) n) {e : Int} (he : hold n b e = true) : atPlace n l (rankI n b e) = e := by
  obtain ⟨t, ht, ht2⟩ := every_from hn h he
  obtain ⟨_, h5⟩ := every_at (q := e / (n : Int)) hn hb h ht
  rw [← ht2] at h5
  unfold atPlace
  rw [h5, show e / (n : Int) * (l.length : Int) + (t : Int) = (t : Int) + e / (n : Int) * (l.length : Int) from Int.add_comm _ _, Int.add_mul_ediv_right _ _ (by omega), Int.ediv_eq_zero_of_lt (by omega) (by omega), Int.zero_add, Int.add_mul_emod_self_right, Int.emod_eq_of_lt (by omega) (by omega), Int.toNat_natCast]
  exact ht2.symm
theorem at_bound {n b z : Nat} {l : List Int} (hn : 1 ≤ n) (h : Row l (hold n b) n) (h0 : 0 < l.length) {x : Int} (hx0 : 0 ≤ x) (hx : x < (l.length : Int) * z) : 0 ≤ atPlace n l x ∧ atPlace n l x < (n : Int) * z := by
  have h1 := Int.emod_nonneg x (show (l.length : Int) ≠ 0 by omega)
  have h2 := Int.emod_lt_of_pos x (show (0 : Int) < l.length by omega)
  have hq1 : 0 ≤ x / (l.length : Int) := Int.ediv_nonneg hx0 (by omega)
  have hq2 : x / (l.length : Int) < z := Int.ediv_lt_of_lt_mul (by omega) (by rw [Int.mul_comm]; exact hx)
  have hb1 := (h.mem _).mp (getD_mem (show (x % (l.length : Int)).toNat < l.length by omega))
  unfold atPlace
  have h3 : 0 ≤ x / (l.length : Int) * n := Int.mul_nonneg hq1 (by omega)
  have h4 : (x / (l.length : Int) + 1) * n ≤ z * n := Int.mul_le_mul_of_nonneg_right (by omega) (by omega)
  rw [Int.add_mul, Int.one_mul, Int.mul_comm (z : Int)] at h4
  omega
theorem every_bits {n b z : Nat} {l : List Int} {d : Int} (hn : 1 ≤ n) (hz : 1 ≤ z) (hb : b < 2 ^ n) (h : Row l (hold n b) n) {N : Nat} (hN : ∀ i : Nat, i < N ↔ rankI n b d % (z : Int) + i * z < (l.length : Int) * z) (j : Nat) (hj : j < n * z) :
    (∃ i, i < N ∧ atPlace n l (rankI n b d % (z : Int) + (i : Nat) * z) = j) ↔ everyP z n b d j := by
  constructor
  · rintro ⟨i, hi, he⟩
    have h0 : 0 < l.length := by
      have := (hN i).mp hi
      by_cases h : 0 < l.length
      · exact h
      · have e : l.length = 0 := by omega
        rw [e] at this
        have h1 := Int.emod_nonneg (rankI n b d) (show (z : Int) ≠ 0 by omega)
        have h2 : 0 ≤ (i : Int) * z := Int.mul_nonneg (by omega) (by omega)
        simp at this; omega
    obtain ⟨h1, h2⟩ := at_ok hn hb h h0 (x := rankI n b d % (z : Int) + (i : Nat) * z)
    rw [he] at h1 h2
    refine ⟨h1, ?_⟩
    rw [h2, Int.sub_emod, Int.add_mul_emod_self_right, Int.emod_emod_of_dvd _ (Int.dvd_refl _), Int.sub_self, Int.zero_emod]
  · rintro ⟨h1, h2⟩
    have h3 := at_rank hn hb h h1
    obtain ⟨t, ht, ht2⟩ := every_from hn h h1
    obtain ⟨_, h5⟩ := every_at (q := (j : Int) / (n : Int)) hn hb h ht
    rw [← ht2] at h5
    have hq0 : 0 ≤ (j : Int) / (n : Int) := Int.ediv_nonneg (by omega) (by omega)
    have hq1 : (j : Int) / (n : Int) < z := Int.ediv_lt_of_lt_mul (by omega) (by rw [Int.mul_comm, ← Int.natCast_mul]; omega)
    have hr0 : 0 ≤ rankI n b j := by
      rw [h5]
      have := Int.mul_nonneg hq0 (show (0 : Int) ≤ (l.length : Int) by omega)
      omega
    have hr1 : rankI n b j < (l.length : Int) * z := by
      rw [h5]
      have : ((j : Int) / (n : Int) + 1) * (l.length : Int) ≤ z * (l.length : Int) := Int.mul_le_mul_of_nonneg_right (by omega) (by omega)
      rw [Int.add_mul, Int.one_mul, Int.mul_comm (z : Int)] at this
      omega
    have h6 : rankI n b j % (z : Int) = rankI n b d % (z : Int) := Int.emod_eq_emod_iff_emod_sub_eq_zero.mpr h2
    have h7 := Int.emod_add_mul_ediv (rankI n b j) (z : Int)
    have h8 : 0 ≤ rankI n b j / (z : Int) := Int.ediv_nonneg hr0 (by omega)
    obtain ⟨i, hi⟩ := Int.eq_ofNat_of_zero_le h8
    have h9 : rankI n b d % (z : Int) + (i : Nat) * z = rankI n b j := by
      rw [← h6, ← hi, Int.mul_comm]; exact h7
    exact ⟨i, (hN i).mpr (by rw [h9]; exact hr1), by rw [h9]; exact h3⟩
theorem and_pred_bits {x : Nat} (h : 0 < x) : ∃ k, x.testBit k = true ∧ (∀ i, i < k → x.testBit i = false) ∧ ∀ i, (x &&& (x - 1)).testBit i = (x.testBit i && !decide (i = k)) := by
  obtain ⟨k, h1, h2, h3⟩ := low_bit h
  have hy : ∀ i, (x ^^^ 2 ^ k).testBit i = (x.testBit i && !decide (i = k)) := fun i => by
    rw [xor_low]
    by_cases e : i = k
    · subst e; simp [h2]
    · rw [decide_eq_false (show ¬ k = i by omega), decide_eq_false e]; simp
  have h0 : (x ^^^ 2 ^ k).testBit k = false := by rw [hy]; simp
  have e1 : 2 ^ k + (x ^^^ 2 ^ k) = x := by
    apply Nat.eq_of_testBit_eq; intro i
    rw [tb_add h0, hy]
    by_cases e : k = i
    · subst e; simp [h2]
    · rw [decide_eq_false e, decide_eq_false (show ¬ i = k by omega)]; simp
  have h6 : x &&& (x - 1) ≤ x := Nat.and_le_left
  have e2 : x &&& (x - 1) = x ^^^ 2 ^ k := by omega
  exact ⟨k, h2, h3, fun i => by rw [e2]; exact hy i⟩

theorem int_ind {P : Int → Prop} {d : Int} (h0 : P d) (hs : ∀ e, P e ↔ P (e + 1)) (e : Int) : P e := by
  have up : ∀ k : Nat, P (d + k) := fun k => by
    induction k with
    | zero => simpa using h0
    | succ k ih => have := (hs _).mp ih; rw [show d + ((k + 1 : Nat) : Int) = d + k + 1 by omega]; exact this
  have dn : ∀ k : Nat, P (d - k) := fun k => by
    induction k with
    | zero => simpa using h0
    | succ k ih => exact (hs _).mpr (by rw [show d - ((k + 1 : Nat) : Int) + 1 = d - k by omega]; exact ih)
  by_cases h : d ≤ e
  · have := up (e - d).toNat
    rwa [show d + ((e - d).toNat : Nat) = e by omega] at this
  · have := dn (d - e).toNat
    rwa [show d - ((d - e).toNat : Nat) = e by omega] at this
/-! ### days of a list between two days -/
def manyL (l : List Int) (n : Nat) (d e : Int) : Int := (l.map fun r => (e - 1 - r) / (n : Int) - (d - 1 - r) / (n : Int)).sum
theorem div_step {n : Nat} (hn : 1 ≤ n) {r d : Int} (h0 : 0 ≤ r) (h1 : r < n) : (d + 1 - 1 - r) / (n : Int) = (d - 1 - r) / (n : Int) + if d % (n : Int) = r then 1 else 0 := by
  have e1 := Int.emod_add_mul_ediv (d - 1 - r) (n : Int)
  have e2 := Int.emod_nonneg (d - 1 - r) (show (n : Int) ≠ 0 by omega)
  have e3 := Int.emod_lt_of_pos (d - 1 - r) (show (0 : Int) < n by omega)
  generalize (d - 1 - r) % (n : Int) = m at *
  generalize (d - 1 - r) / (n : Int) = q at *
  have hd : d = (m + 1 + r) + n * q := by omega
  by_cases h : m + 1 = n
  · have e4 : (d + 1 - 1 - r) = n * (q + 1) := by rw [Int.mul_add]; omega
    have e5 : d % (n : Int) = r := by
      rw [show d = r + n * (q + 1) by rw [Int.mul_add]; omega, Int.add_mul_emod_self_left, Int.emod_eq_of_lt h0 h1]
    rw [e4, Int.mul_ediv_cancel_left _ (by omega), if_pos e5]
  · have e4 : (d + 1 - 1 - r) = (m + 1) + n * q := by omega
    rw [e4, Int.add_mul_ediv_left _ _ (by omega), Int.ediv_eq_zero_of_lt (by omega) (by omega)]
    rw [if_neg]
    · omega
    · intro e5
      rw [hd, Int.add_mul_emod_self_left] at e5
      by_cases h6 : m + 1 + r < n
      · rw [Int.emod_eq_of_lt (by omega) h6] at e5; omega
      · rw [show m + 1 + r = (m + 1 + r - n) + n * 1 by omega, Int.add_mul_emod_self_left, Int.emod_eq_of_lt (by omega) (by omega)] at e5; omega
theorem many_step {n : Nat} (hn : 1 ≤ n) (d e : Int) : ∀ {l : List Int}, l.Nodup → (∀ x ∈ l, 0 ≤ x ∧ x < (n : Int)) → manyL l n d (e + 1) = manyL l n d e + if e % (n : Int) ∈ l then 1 else 0
  | [], _, _ => by simp [manyL]
  | a :: r, hd, hb => by
    have ih := many_step hn d e (List.nodup_cons.mp hd).2 (fun x hx => hb x (List.mem_cons_of_mem _ hx))
    have ha := hb a List.mem_cons_self
    have hs := div_step hn (d := e) ha.1 ha.2
    unfold manyL at *
    rw [List.map_cons, List.sum_cons, List.map_cons, List.sum_cons, ih, hs]
    by_cases h : e % (n : Int) = a
    · have h2 : e % (n : Int) ∉ r := h ▸ (List.nodup_cons.mp hd).1
      rw [if_pos h, if_neg h2, if_pos (by rw [h]; exact List.mem_cons_self)]; omega
    · rw [if_neg h]
      by_cases h2 : e % (n : Int) ∈ r
      · rw [if_pos h2, if_pos (List.mem_cons_of_mem _ h2)]; omega
      · rw [if_neg h2, if_neg (fun h3 => (List.mem_cons.mp h3).elim h h2)]; omega
theorem many_rank {n b : Nat} {l : List Int} (hn : 1 ≤ n) (hb : b < 2 ^ n) (hd : l.Nodup) (hl : ∀ x ∈ l, 0 ≤ x ∧ x < (n : Int)) (hm : ∀ d, hold n b d = true ↔ d % (n : Int) ∈ l) (d e : Int) : manyL l n d e = rankI n b e - rankI n b d := by
  refine int_ind (P := fun e => manyL l n d e = rankI n b e - rankI n b d) (d := d) ?_ (fun e => ?_) e
  · show manyL l n d d = _
    unfold manyL
    have : (l.map fun r => (d - 1 - r) / (n : Int) - (d - 1 - r) / (n : Int)) = l.map fun _ => (0 : Int) := by
      apply List.map_congr_left; intro x _; omega
    rw [this]
    have hz : ∀ l : List Int, (l.map fun _ => (0 : Int)).sum = 0 := fun l => by
      induction l with
      | nil => rfl
      | cons x t ih => rw [List.map_cons, List.sum_cons, ih]; rfl
    rw [hz]; omega
  · rw [many_step hn d e hd hl, rank_step hn hb]
    by_cases h : hold n b e = true
    · rw [if_pos h, if_pos ((hm e).mp h)]; omega
    · rw [if_neg h, if_neg (fun h2 => h ((hm e).mpr h2))]; omega
/-! ### every of every -/
theorem every_every {n b z m N x : Nat} {d : Int} (hn : 1 ≤ n) (hb : b < 2 ^ n) (hz : 1 ≤ z) (hm : 1 ≤ m) (hN : 1 ≤ N) (hx : x < 2 ^ N) (h : ∀ e, hold N x e = true ↔ everyP z n b d e) (e : Int) :
    everyP m N x d e ↔ everyP (m * z) n b d e := by
  have key : ∀ e, rankI N x e - rankI N x d = (rankI n b e - rankI n b d + z - 1) / (z : Int) := by
    refine int_ind (d := d) ?_ fun e => ?_
    · rw [Int.sub_self, Int.sub_self, Int.ediv_eq_zero_of_lt (by omega) (by omega)]
    · rw [rank_step hN hx, rank_step hn hb]
      generalize hu : rankI n b e - rankI n b d = u
      have e1 := Int.emod_add_mul_ediv (u + z - 1) (z : Int)
      have e2 := Int.emod_nonneg (u + z - 1) (show (z : Int) ≠ 0 by omega)
      have e3 := Int.emod_lt_of_pos (u + z - 1) (show (0 : Int) < z by omega)
      by_cases hbe : hold n b e = true
      · rw [if_pos hbe, show rankI n b e + 1 - rankI n b d + z - 1 = u + z by omega]
        by_cases hr : u % (z : Int) = 0
        · have hxe : hold N x e = true := (h e).mpr ⟨hbe, by rw [hu]; exact hr⟩
          rw [if_pos hxe]
          have e4 := Int.emod_add_mul_ediv u (z : Int)
          have q1 : (u + z - 1) / (z : Int) = u / z := by
            rw [show u + z - 1 = ((z : Int) - 1) + z * (u / z) by omega, Int.add_mul_ediv_left _ _ (by omega), Int.ediv_eq_zero_of_lt (by omega) (by omega), Int.zero_add]
          have q2 : (u + z) / (z : Int) = u / z + 1 := by
            rw [show u + z = u + z * 1 by omega, Int.add_mul_ediv_left _ _ (by omega)]
          rw [q1, q2]; omega
        · have hxe : ¬ hold N x e = true := fun hc => hr (by have := ((h e).mp hc).2; rwa [hu] at this)
          rw [if_neg hxe]
          have e4 := Int.emod_add_mul_ediv u (z : Int)
          have e5 := Int.emod_nonneg u (show (z : Int) ≠ 0 by omega)
          have e6 := Int.emod_lt_of_pos u (show (0 : Int) < z by omega)
          have q1 : (u + z - 1) / (z : Int) = u / z + 1 := by
            rw [show u + z - 1 = (u % z - 1) + z * (u / z + 1) by rw [Int.mul_add]; omega, Int.add_mul_ediv_left _ _ (by omega), Int.ediv_eq_zero_of_lt (by omega) (by omega), Int.zero_add]
          have q2 : (u + z) / (z : Int) = u / z + 1 := by
            rw [show u + z = u + z * 1 by omega, Int.add_mul_ediv_left _ _ (by omega)]
          rw [q1, q2]; omega
      · have hxe : ¬ hold N x e = true := fun hc => hbe ((h e).mp hc).1
        rw [if_neg hbe, if_neg hxe, show rankI n b e + 0 - rankI n b d + z - 1 = u + z - 1 by omega]; omega
  have e1 := key e
  constructor
  · rintro ⟨h1, h2⟩
    obtain ⟨h3, h4⟩ := (h e).mp h1
    refine ⟨h3, ?_⟩
    rw [e1] at h2
    generalize rankI n b e - rankI n b d = u at *
    have e4 := Int.emod_add_mul_ediv u (z : Int)
    have q1 : (u + z - 1) / (z : Int) = u / z := by
      rw [show u + z - 1 = ((z : Int) - 1) + z * (u / z) by omega, Int.add_mul_ediv_left _ _ (by omega), Int.ediv_eq_zero_of_lt (by omega) (by omega), Int.zero_add]
    rw [q1] at h2
    obtain ⟨c, hc⟩ := Int.dvd_of_emod_eq_zero h2
    refine Int.emod_eq_zero_of_dvd ⟨c, ?_⟩
    rw [Int.natCast_mul, Int.mul_comm (m : Int), Int.mul_assoc, ← hc]; omega
  · rintro ⟨h1, h2⟩
    have hdv : (z : Int) ∣ (rankI n b e - rankI n b d) := Int.dvd_trans ⟨(m : Int), by rw [Int.natCast_mul, Int.mul_comm]⟩ (Int.dvd_of_emod_eq_zero h2)
    refine ⟨(h e).mpr ⟨h1, Int.emod_eq_zero_of_dvd hdv⟩, ?_⟩
    rw [e1]
    generalize rankI n b e - rankI n b d = u at *
    obtain ⟨v, rfl⟩ := hdv
    have q1 : ((z : Int) * v + z - 1) / (z : Int) = v := by
      rw [show (z : Int) * v + z - 1 = ((z : Int) - 1) + z * v by omega, Int.add_mul_ediv_left _ _ (by omega), Int.ediv_eq_zero_of_lt (by omega) (by omega), Int.zero_add]
    rw [q1]
    obtain ⟨c, hc⟩ := Int.dvd_of_emod_eq_zero h2
    refine Int.emod_eq_zero_of_dvd ⟨c, ?_⟩
    rw [Int.natCast_mul, Int.mul_comm (m : Int), Int.mul_assoc] at hc
    exact Int.eq_of_mul_eq_mul_left (by omega) hc

theorem rt_eq {N x y : Nat} (hx : x < 2 ^ N) (hy : y < 2 ^ N) (h : ∀ d, hold N x d = true ↔ hold N y d = true) : x = y := by
  rw [← bitsOf_self hx, ← bitsOf_self hy]
  refine bitsOf_ext fun i _ => ?_
  have := h (i : Int)
  cases h1 : hold N x i <;> cases h2 : hold N y i <;> simp_all
/-! ### wheels by their number -/
def wheelN (w z : Int) (n m : Nat) : Nat := if w = 5 then n * z.toNat else Nat.lcm n m
def wheelP (w z : Int) (n b m c : Nat) (day d : Int) : Prop :=
  if w = 0 then uponP (hold n b) (hold m c) d
  else if w = 1 then untilP (hold n b) (hold m c) d
  else if w = 2 then nearP (hold n b) (hold m c) d
  else if w = 3 then tillP (hold n b) (hold m c) d
  else if w = 4 then kthP z (hold n b) (hold m c) d
  else everyP z.toNat n b day d
theorem sub_sub' (d k o : Int) : d - k - o = d - o - k := by omega
theorem add_sub' (d k o : Int) : d + k - o = d - o + k := by omega
theorem wheel_later {w z : Int} {n b b' m c c' : Nat} {day o : Int} (hn : 1 ≤ n) (hb : b < 2 ^ n) (hb' : b' < 2 ^ n) (h1 : ∀ d, hold n b' d = hold n b (d - o)) (h2 : ∀ d, hold m c' d = hold m c (d - o)) (d : Int) :
    wheelP w z n b' m c' (day + o) d ↔ wheelP w z n b m c day (d - o) := by
  have f1 : hold n b' = fun d => hold n b (d - o) := funext h1
  have f2 : hold m c' = fun d => hold m c (d - o) := funext h2
  have hr : ∀ e, rankI n b' e - rankI n b' (day + o) = rankI n b (e - o) - rankI n b day := by
    refine int_ind (d := day + o) ?_ fun e => ?_
    · rw [show day + o - o = day by omega]; omega
    · rw [rank_step hn hb', h1, show e + 1 - o = e - o + 1 by omega, rank_step hn hb]
      omega
  unfold wheelP everyP
  rw [hr, h1]
  unfold uponP untilP nearP tillP kthP
  simp only [f1, f2, sub_sub', add_sub', Int.sub_sub, Int.add_comm, Int.add_left_comm, Int.add_assoc]

/-! ### the sentences of the wheels, by the nearest days -/
structure Last (s : Int → Bool) (d y : Int) : Prop where
  le : y ≤ d
  on : s y = true
  no : ∀ e, y < e → e ≤ d → s e = false
structure Next (s : Int → Bool) (d y : Int) : Prop where
  le : d ≤ y
  on : s y = true
  no : ∀ e, d ≤ e → e < y → s e = false
theorem tf {A : Prop} {x : Bool} (h : x = true) (h2 : x = false) : A := by rw [h] at h2; exact absurd h2 (by decide)
theorem Last.ge {s : Int → Bool} {d y e : Int} (h : Last s d y) (he : s e = true) (hd : e ≤ d) : e ≤ y := by
  by_cases h1 : e ≤ y
  · exact h1
  · exact tf he (h.no e (by omega) hd)
theorem Next.ge {s : Int → Bool} {d y e : Int} (h : Next s d y) (he : s e = true) (hd : d ≤ e) : y ≤ e := by
  by_cases h1 : y ≤ e
  · exact h1
  · exact tf he (h.no e hd (by omega))
theorem says_till {r s : Int → Bool} {d x y : Int} (hx : Last r d x) (hy : Last s d y) : y ≤ x ↔ tillP r s d := by
  have x1 := hx.le
  have y1 := hy.le
  constructor
  · intro hxy
    by_cases hsd : s d = true
    · have hyd := hy.ge hsd (Int.le_refl d)
      have hxd : x = d := by omega
      exact .inl ⟨hxd ▸ hx.on, hsd⟩
    · have hsd' : s d = false := by simpa using hsd
      have hyd : y ≠ d := fun e => tf (e ▸ hy.on) hsd'
      refine .inr ⟨hsd', ?_⟩
      by_cases e : x = y
      · refine ⟨(d - x - 1).toNat, .inr ?_, fun j hj => hy.no _ (by omega) (by omega)⟩
        rw [show d - ((d - x - 1).toNat : Nat) - 1 = x by omega]
        exact ⟨hx.on, e ▸ hy.on⟩
      · refine ⟨(d - x).toNat, .inl ?_, fun j hj => hy.no _ (by omega) (by omega)⟩
        rw [show d - ((d - x).toNat : Nat) = x by omega]; exact hx.on
  · rintro (⟨h1, h2⟩ | ⟨h1, t, h2, h3⟩)
    · have := hx.ge h1 (Int.le_refl d); omega
    · have hyt : y < d - t := by
        by_cases h : y < d - t
        · exact h
        · have := h3 (d - y).toNat (by omega)
          rw [show d - ((d - y).toNat : Nat) = y by omega] at this
          exact tf hy.on this
      rcases h2 with h2 | ⟨h2, h4⟩
      · have := hx.ge h2 (by omega); omega
      · have := hx.ge h2 (by omega); omega
theorem says_till0 {r s : Int → Bool} {d x : Int} (hx : Last r d x) (hs : ∀ e, s e = false) : tillP r s d :=
  .inr ⟨hs d, (d - x).toNat, .inl (by have := hx.le; rw [show d - ((d - x).toNat : Nat) = x by omega]; exact hx.on), fun j _ => hs _⟩
theorem says_till1 {r s : Int → Bool} {d : Int} (hr : ∀ e, r e = false) : ¬ tillP r s d := by
  rintro (⟨h, _⟩ | ⟨_, k, h | ⟨h, _⟩, _⟩)
  · exact tf h (hr _)
  · exact tf h (hr _)
  · exact tf h (hr _)
theorem says_upon {r s : Int → Bool} {d z y : Int} (h1 : r d = true) (hy : Last s d y) (hz : Last r (d - 1) z) : z < y ↔ uponP r s d := by
  have y1 := hy.le
  have z1 := hz.le
  constructor
  · intro hzy
    exact ⟨h1, (d - y).toNat, by rw [show d - ((d - y).toNat : Nat) = y by omega]; exact hy.on, fun j hj hj2 => hz.no _ (by omega) (by omega)⟩
  · rintro ⟨_, t, h2, h3⟩
    by_cases hzy : z < y
    · exact hzy
    · have hyt := hy.ge h2 (by omega)
      have := h3 (d - z).toNat (by omega) (by omega)
      rw [show d - ((d - z).toNat : Nat) = z by omega] at this
      exact tf hz.on this
theorem says_until {r s : Int → Bool} {d z y : Int} (h1 : r d = true) (hy : Next s d y) (hz : Next r (d + 1) z) : y < z ↔ untilP r s d := by
  have y1 := hy.le
  have z1 := hz.le
  constructor
  · intro hzy
    exact ⟨h1, (y - d).toNat, by rw [show d + ((y - d).toNat : Nat) = y by omega]; exact hy.on, fun j hj hj2 => hz.no _ (by omega) (by omega)⟩
  · rintro ⟨_, t, h2, h3⟩
    by_cases hzy : y < z
    · exact hzy
    · have hyt := hy.ge h2 (by omega)
      have := h3 (z - d).toNat (by omega) (by omega)
      rw [show d + ((z - d).toNat : Nat) = z by omega] at this
      exact tf hz.on this
theorem rank_pos {n b : Nat} (hn : 1 ≤ n) (hb : b < 2 ^ n) {x y : Int} (h : x ≤ y) : 0 < rankI n b y - rankI n b x ↔ ∃ e, x ≤ e ∧ e < y ∧ hold n b e = true := by
  have := rank_add hn hb x (y - x).toNat
  rw [show x + ((y - x).toNat : Nat) = y by omega] at this
  rw [this]
  constructor
  · intro h1
    refine Classical.byContradiction fun hc => ?_
    have h0 : cnt (fun i => hold n b (x + i)) (y - x).toNat = 0 := cnt_zero fun i hi => by
      cases hh : hold n b (x + i) with
      | false => rfl
      | true => exact absurd ⟨x + i, by omega, by omega, hh⟩ hc
    omega
  · rintro ⟨e, h1, h2, h3⟩
    have := cnt_pos (f := fun i : Nat => hold n b (x + i)) (n := (y - x).toNat) (i := (e - x).toNat) (by omega) (by rw [show x + ((e - x).toNat : Nat) = e by omega]; exact h3)
    omega
theorem says_near {n b m c : Nat} (hm : 1 ≤ m) (hc : c < 2 ^ m) {d w u : Int} (h1 : hold n b d = true) (hw : Last (hold n b) (d - 1) w) (hu : Next (hold n b) (d + 1) u) :
    0 < rankI m c ((d + u) / 2 + 1) - rankI m c ((w + d) / 2 + 1) ↔ nearP (hold n b) (hold m c) d := by
  have w1 := hw.le
  have u1 := hu.le
  rw [rank_pos hm hc (by omega)]
  constructor
  · rintro ⟨e, e1, e2, e3⟩
    refine ⟨h1, ?_⟩
    by_cases hed : d < e
    · exact .inl ⟨(e - d).toNat, by omega, by rw [show d + ((e - d).toNat : Nat) = e by omega]; exact e3, fun j hj hj2 => hu.no _ (by omega) (by omega)⟩
    · exact .inr ⟨(d - e).toNat, by rw [show d - ((d - e).toNat : Nat) = e by omega]; exact e3, fun j hj hj2 => hw.no _ (by omega) (by omega)⟩
  · rintro ⟨_, ⟨t, ht, h2, h3⟩ | ⟨t, h2, h3⟩⟩
    · refine ⟨d + t, by omega, ?_, h2⟩
      have : d + 2 * (t : Int) ≤ u := by
        by_cases h : d + 2 * (t : Int) ≤ u
        · exact h
        · have := h3 (u - d).toNat (by omega) (by omega)
          rw [show d + ((u - d).toNat : Nat) = u by omega] at this
          exact tf hu.on this
      omega
    · refine ⟨d - t, ?_, by omega, h2⟩
      have : w < d - 2 * (t : Int) := by
        by_cases h : w < d - 2 * (t : Int)
        · exact h
        · have := h3 (d - w).toNat (by omega) (by omega)
          rw [show d - ((d - w).toNat : Nat) = w by omega] at this
          exact tf hw.on this
      omega
theorem says_kth {n b m c : Nat} (hn : 1 ≤ n) (hb : b < 2 ^ n) {z d y : Int} (h0 : 0 < z) (h1 : hold n b d = true) (hy : Last (hold m c) d y) :
    rankI n b (d + 1) - rankI n b y = z ↔ kthP z (hold n b) (hold m c) d := by
  have y1 := hy.le
  have hk := rank_add hn hb y ((d - y).toNat + 1)
  rw [show y + (((d - y).toNat + 1 : Nat) : Int) = d + 1 by omega] at hk
  unfold kthP
  rw [if_pos h0, hk]
  constructor
  · intro h
    refine ⟨h1, (d - y).toNat, by rw [show d - ((d - y).toNat : Nat) = y by omega]; exact hy.on, fun j hj => hy.no _ (by omega) (by omega), ?_⟩
    rw [show d - ((d - y).toNat : Nat) = y by omega]; omega
  · rintro ⟨_, k, h2, h3, h4⟩
    have h5 := hy.ge h2 (by omega)
    have h6 : d - (k : Int) = y := by
      by_cases h : d - (k : Int) = y
      · exact h
      · have := h3 (d - y).toNat (by omega)
        rw [show d - ((d - y).toNat : Nat) = y by omega] at this
        exact tf hy.on this
    rw [h6, show k = (d - y).toNat by omega] at h4
    omega
theorem says_kth2 {n b m c : Nat} (hn : 1 ≤ n) (hb : b < 2 ^ n) {z d u : Int} (h0 : ¬ 0 < z) (h1 : hold n b d = true) (hu : Next (hold m c) (d + 1) u) :
    rankI n b u - rankI n b d = -z ↔ kthP z (hold n b) (hold m c) d := by
  have u1 := hu.le
  have hk := rank_add hn hb d (u - d).toNat
  rw [show d + ((u - d).toNat : Nat) = u by omega] at hk
  unfold kthP
  rw [if_neg h0, hk]
  constructor
  · intro h
    exact ⟨h1, (u - d).toNat, by omega, by rw [show d + ((u - d).toNat : Nat) = u by omega]; exact hu.on, fun j hj hj2 => hu.no _ (by omega) (by omega), by omega⟩
  · rintro ⟨_, k, hk1, h2, h3, h4⟩
    have h5 := hu.ge h2 (by omega)
    have h6 : d + (k : Int) = u := by
      by_cases h : d + (k : Int) = u
      · exact h
      · have := h3 (u - d).toNat (by omega) (by omega)
        rw [show d + ((u - d).toNat : Nat) = u by omega] at this
        exact tf hu.on this
    rw [show k = (u - d).toNat by omega] at h4
    omega
theorem last_of {n b : Nat} {d : Int} {k : Nat} (h1 : hold n b (d - k) = true) (h2 : ∀ j : Nat, j < k → hold n b (d - j) = false) : Last (hold n b) d (d - k) :=
  ⟨by omega, h1, fun e he1 he2 => by rw [show e = d - ((d - e).toNat : Nat) by omega]; exact h2 _ (by omega)⟩
theorem next_of {n b : Nat} {d : Int} {k : Nat} (h1 : hold n b (d + k) = true) (h2 : ∀ j : Nat, j < k → hold n b (d + j) = false) : Next (hold n b) d (d + k) :=
  ⟨by omega, h1, fun e he1 he2 => by rw [show e = d + ((e - d).toNat : Nat) by omega]; exact h2 _ (by omega)⟩
theorem sm_day {d : Int} (h1 : -1000000000000000000000000000000000000000000 ≤ d) (h2 : d ≤ 1000000000000000000000000000000000000000000) : Sm 3000 d := sm_mono (sm41 (by omega) (by omega)) (by decide)

/-! ### the first day of both, by pairs of remainders -/
def BestOk (n b m c : Nat) (d : Int) (v : V) (pr : Int → Int → Prop) : Prop :=
  (v = .non ∧ ∀ e, hold n b e = true → hold m c e = true → ¬ pr (e % (n : Int)) (e % (m : Int))) ∨
  (∃ z, v = .int z ∧ d ≤ z ∧ hold n b z = true ∧ hold m c z = true ∧ ∀ e, d ≤ e → hold n b e = true → hold m c e = true → pr (e % (n : Int)) (e % (m : Int)) → z ≤ e)
theorem best_cong {n b m c : Nat} {d : Int} {v : V} {pr pr' : Int → Int → Prop} (h : BestOk n b m c d v pr) (hp : ∀ x y, pr' x y → pr x y) : BestOk n b m c d v pr' := by
  rcases h with ⟨rfl, h1⟩ | ⟨z, rfl, h1, h2, h3, h4⟩
  · exact .inl ⟨rfl, fun e a1 a2 a3 => h1 e a1 a2 (hp _ _ a3)⟩
  · exact .inr ⟨z, rfl, h1, h2, h3, fun e a1 a2 a3 a4 => h4 e a1 a2 a3 (hp _ _ a4)⟩
theorem best_none {n b m c : Nat} {d h t : Int} {v : V} {pr : Int → Int → Prop} (hb : BestOk n b m c d v pr) (hn : 1 ≤ n) (hm : 1 ≤ m) (hno : (t - h) % ((Int.gcd (n : Int) (m : Int) : Nat) : Int) ≠ 0) : BestOk n b m c d v (fun x y => pr x y ∨ (x = h ∧ y = t)) := by
  have key : ∀ e : Int, ¬ (e % (n : Int) = h ∧ e % (m : Int) = t) := fun e ⟨a1, a2⟩ => by
    apply hno
    have g1 : ((Int.gcd (n : Int) (m : Int) : Nat) : Int) ∣ e - h := Int.dvd_trans (Int.gcd_dvd_left _ _) ⟨e / n, by have := Int.emod_add_mul_ediv e (n : Int); omega⟩
    have g2 : ((Int.gcd (n : Int) (m : Int) : Nat) : Int) ∣ e - t := Int.dvd_trans (Int.gcd_dvd_right _ _) ⟨e / m, by have := Int.emod_add_mul_ediv e (m : Int); omega⟩
    have := Int.dvd_sub g1 g2
    rw [show e - h - (e - t) = t - h by omega] at this
    exact Int.emod_eq_zero_of_dvd this
  rcases hb with ⟨rfl, h1⟩ | ⟨z, rfl, h1, h2, h3, h4⟩
  · exact .inl ⟨rfl, fun e a1 a2 a3 => a3.elim (h1 e a1 a2) (key e)⟩
  · exact .inr ⟨z, rfl, h1, h2, h3, fun e a1 a2 a3 a4 => a4.elim (h4 e a1 a2 a3) (fun h => (key e h).elim)⟩
/-- the day told by a pair -/
structure AtOk (n b m c : Nat) (d h t z : Int) : Prop where
  le : d ≤ z
  on1 : hold n b z = true
  on2 : hold m c z = true
  lo : ∀ e, d ≤ e → e % (n : Int) = h → e % (m : Int) = t → z ≤ e
theorem atk_of {n b m c : Nat} {d h t x : Int} (hn : 1 ≤ n) (hm : 1 ≤ m) (hh : hold n b h = true) (ht : hold m c t = true) (hxn : (n : Int) ∣ x - h) (hxm : (m : Int) ∣ x - t) :
    AtOk n b m c d h t (d + (x - d) % lcmI n m) := by
  have hL := lcm_pos (a := (n : Int)) (b := (m : Int)) (by omega) (by omega)
  have h1 := Int.emod_nonneg (x - d) (show lcmI n m ≠ 0 by omega)
  have hz : (d + (x - d) % lcmI n m - x) % lcmI n m = 0 := by
    rw [show d + (x - d) % lcmI n m - x = (x - d) % lcmI n m - (x - d) by omega, Int.emod_sub_emod, Int.sub_self]; rfl
  obtain ⟨a1, a2⟩ := (alike_both (by omega) (by omega) hxn hxm).mpr hz
  refine ⟨by omega, ?_, ?_, fun e he1 he2 he3 => ?_⟩
  · rw [← hh]; exact hold_eq (Int.emod_eq_emod_iff_emod_sub_eq_zero.mpr a1)
  · rw [← ht]; exact hold_eq (Int.emod_eq_emod_iff_emod_sub_eq_zero.mpr a2)
  · have b1 : (e - h) % (n : Int) = 0 := by rw [← he2, Int.sub_emod_emod, Int.sub_self]; rfl
    have b2 : (e - t) % (m : Int) = 0 := by rw [← he3, Int.sub_emod_emod, Int.sub_self]; rfl
    have b3 := (alike_both (by omega) (by omega) hxn hxm).mp ⟨b1, b2⟩
    have b4 : (x - d) % lcmI n m = (e - d) % lcmI n m := by
      have := Int.emod_eq_emod_iff_emod_sub_eq_zero.mpr b3
      rw [Int.sub_emod, ← this, ← Int.sub_emod]
    rw [b4]
    have b5 := Int.emod_add_mul_ediv (e - d) (lcmI n m)
    have b6 := Int.mul_nonneg (show 0 ≤ lcmI n m by omega) (Int.ediv_nonneg (show 0 ≤ e - d by omega) (show 0 ≤ lcmI n m by omega))
    omega
theorem best_new {n b m c : Nat} {d h t z : Int} {pr : Int → Int → Prop} (hb : BestOk n b m c d .non pr) (ha : AtOk n b m c d h t z) : BestOk n b m c d (.int z) (fun x y => pr x y ∨ (x = h ∧ y = t)) := by
  rcases hb with ⟨_, h1⟩ | ⟨z', h0, _⟩
  · exact .inr ⟨z, rfl, ha.le, ha.on1, ha.on2, fun e a1 a2 a3 a4 => a4.elim (fun h => (h1 e a2 a3 h).elim) (fun h => ha.lo e a1 h.1 h.2)⟩
  · exact nomatch h0
theorem best_less {n b m c : Nat} {d h t z y : Int} {pr : Int → Int → Prop} (hb : BestOk n b m c d (.int y) pr) (ha : AtOk n b m c d h t z) (hz : z < y) : BestOk n b m c d (.int z) (fun x y => pr x y ∨ (x = h ∧ y = t)) := by
  rcases hb with ⟨h0, _⟩ | ⟨y', h0, h1, h2, h3, h4⟩
  · exact nomatch h0
  · cases h0
    exact .inr ⟨z, rfl, ha.le, ha.on1, ha.on2, fun e a1 a2 a3 a4 => a4.elim (fun h => by have := h4 e a1 a2 a3 h; omega) (fun h => ha.lo e a1 h.1 h.2)⟩
theorem best_keep {n b m c : Nat} {d h t z y : Int} {pr : Int → Int → Prop} (hb : BestOk n b m c d (.int y) pr) (ha : AtOk n b m c d h t z) (hz : ¬ z < y) : BestOk n b m c d (.int y) (fun x y => pr x y ∨ (x = h ∧ y = t)) := by
  rcases hb with ⟨h0, _⟩ | ⟨y', h0, h1, h2, h3, h4⟩
  · exact nomatch h0
  · cases h0
    exact .inr ⟨y, rfl, h1, h2, h3, fun e a1 a2 a3 a4 => a4.elim (fun h => h4 e a1 a2 a3 h) (fun h => by have := ha.lo e a1 h.1 h.2; omega)⟩
/-! ### never -/
/-- remainders of both keep them apart -/
def Apart (n b m c : Nat) : Prop := ∀ e f : Int, hold n b e = true → hold m c f = true → (e - f) % ((Nat.gcd n m : Nat) : Int) ≠ 0
theorem apart_fold {n b m c : Nat} (hn : 1 ≤ n) (hm : 1 ≤ m) (hb : b < 2 ^ n) (hc : c < 2 ^ m) {g : Nat} (eg : g = Nat.gcd n m) : foldB g b (n / g) &&& foldB g c (m / g) = 0 ↔ Apart n b m c := by
  have hg : 0 < g := eg ▸ Nat.gcd_pos_of_pos_left _ hn
  have hgn : g ∣ n := eg ▸ Nat.gcd_dvd_left n m
  have hgm : g ∣ m := eg ▸ Nat.gcd_dvd_right n m
  unfold Apart
  rw [← eg]
  constructor
  · intro h e f he hf hz
    have h1 := (fold_hold hn hg hgn hb (f % (g : Int))).mpr ⟨e, he, by rw [Int.sub_emod_emod]; exact hz⟩
    have h2 := (fold_hold hm hg hgm hc (f % (g : Int))).mpr ⟨f, hf, by rw [Int.sub_emod_emod, Int.sub_self]; rfl⟩
    have := congrArg (fun z => Nat.testBit z (f % (g : Int) % (g : Int)).toNat) h
    simp only [Nat.testBit_and, Nat.zero_testBit] at this
    unfold hold at h1 h2
    rw [h1, h2] at this
    exact absurd this (by decide)
  · intro h
    apply Nat.eq_of_testBit_eq; intro i
    rw [Nat.testBit_and, Nat.zero_testBit]
    cases h1 : (foldB g b (n / g)).testBit i with
    | false => rfl
    | true =>
      cases h2 : (foldB g c (m / g)).testBit i with
      | false => rfl
      | true =>
        exfalso
        have hi : i < g := by
          by_cases hi : i < g
          · exact hi
          · rw [Nat.testBit_lt_two_pow (Nat.lt_of_lt_of_le (fold_lt g b _) (Nat.pow_le_pow_right (by decide) (by omega)))] at h1
            exact absurd h1 (by decide)
        rw [← hold_nat (n := g) hi] at h1 h2
        obtain ⟨e, he1, he2⟩ := (fold_hold hn hg hgn hb i).mp h1
        obtain ⟨f, hf1, hf2⟩ := (fold_hold hm hg hgm hc i).mp h2
        apply h e f he1 hf1
        have a1 := Int.dvd_of_emod_eq_zero he2
        have a2 := Int.dvd_of_emod_eq_zero hf2
        have := Int.dvd_sub a1 a2
        rw [show e - (i : Int) - (f - i) = e - f by omega] at this
        exact Int.emod_eq_zero_of_dvd this
theorem bezout_ex (a b : Nat) : ∃ u v : Int, u * a + v * b = ((Nat.gcd a b : Nat) : Int) := by
  induction a, b using Nat.gcd.induction with
  | H0 b => exact ⟨0, 1, by simp⟩
  | H1 a b ha ih =>
    obtain ⟨u, v, h⟩ := ih
    refine ⟨v - u * ((b / a : Nat) : Int), u, ?_⟩
    rw [Nat.gcd_rec, ← h]
    have e : ((b % a : Nat) : Int) = b - a * ((b / a : Nat) : Int) := by
      have := Nat.mod_add_div b a
      have h2 : ((b % a : Nat) : Int) + (a : Int) * ((b / a : Nat) : Int) = b := by rw [← Int.natCast_mul, ← Int.natCast_add, this]
      omega
    rw [e, Int.sub_mul, Int.mul_sub, Int.mul_assoc, Int.mul_comm (((b / a : Nat) : Int)) (a : Int)]
    omega
/-- where they are not kept apart they meet -/
theorem meets_of {n b m c : Nat} (hn : 1 ≤ n) (hm : 1 ≤ m) (h : ¬ Apart n b m c) : ∃ e, hold n b e = true ∧ hold m c e = true := by
  have : ∃ e f : Int, hold n b e = true ∧ hold m c f = true ∧ (e - f) % ((Nat.gcd n m : Nat) : Int) = 0 := by
    refine Classical.byContradiction fun hc => h fun e f he hf hz => hc ⟨e, f, he, hf, hz⟩
  obtain ⟨e, f, he, hf, hz⟩ := this
  obtain ⟨k, hk⟩ := Int.dvd_of_emod_eq_zero hz
  obtain ⟨u, v, huv⟩ := bezout_ex n m
  refine ⟨e - n * (u * k), ?_, ?_⟩
  · rw [← he]; exact hold_eq (by rw [Int.sub_mul_emod_self_left])
  · rw [← hf]
    refine hold_eq ?_
    have : e - n * (u * k) = f + m * (v * k) := by
      rw [← huv, Int.add_mul, Int.mul_comm u n, Int.mul_comm v m, Int.mul_assoc, Int.mul_assoc] at hk
      omega
    rw [this, Int.add_mul_emod_self_left]

/-! ### bits laid end to end -/
theorem rep_step {s : Nat} (hs : 1 ≤ s) (t : Nat) : (2 ^ (s * (t + 1)) - 1) / (2 ^ s - 1) = (2 ^ (s * t) - 1) / (2 ^ s - 1) + 2 ^ (s * t) := by
  have h1 := Nat.two_pow_pos s
  have h2 : 2 ≤ 2 ^ s := Nat.pow_le_pow_right (n := 2) (by decide) hs
  have h3 := Nat.two_pow_pos (s * t)
  have e : 2 ^ (s * (t + 1)) - 1 = (2 ^ (s * t) - 1) + 2 ^ (s * t) * (2 ^ s - 1) := by
    rw [Nat.mul_add, Nat.mul_one, Nat.pow_add]
    have h4 : 2 ^ (s * t) * (2 ^ s - 1) + 2 ^ (s * t) = 2 ^ (s * t) * 2 ^ s := by
      rw [← Nat.mul_succ]; congr 1; omega
    omega
  rw [e, Nat.add_mul_div_right _ _ (by omega)]
theorem laid_bits {b s : Nat} (hb : b < 2 ^ s) (hs : 1 ≤ s) : ∀ t : Nat, b * ((2 ^ (s * t) - 1) / (2 ^ s - 1)) = ofB (fun i => b.testBit (i % s)) (s * t)
  | 0 => by simp [ofB]
  | t + 1 => by
    have ih := laid_bits hb hs t
    rw [rep_step hs, Nat.mul_add, ih]
    apply eq_ofB
    intro i
    rw [Nat.add_comm, Nat.mul_comm b, Nat.testBit_two_pow_mul_add _ (ofB_lt _ _)]
    by_cases h : i < s * t
    · rw [if_pos h, tb_ofB, decide_eq_true h, decide_eq_true (show i < s * (t + 1) by rw [Nat.mul_add]; omega)]
    · rw [if_neg h]
      by_cases h2 : i < s * (t + 1)
      · rw [decide_eq_true h2, Bool.true_and]
        rw [Nat.mul_add, Nat.mul_one] at h2
        congr 1
        have e : i = (i - s * t) + s * t := by omega
        conv => rhs; rw [e]
        rw [Nat.add_mul_mod_self_left, Nat.mod_eq_of_lt (by omega)]
      · rw [decide_eq_false h2, Bool.false_and]
        rw [Nat.mul_add, Nat.mul_one] at h2
        exact Nat.testBit_lt_two_pow (Nat.lt_of_lt_of_le hb (Nat.pow_le_pow_right (by decide) (by omega)))
theorem laid_hold {b s t : Nat} (hs : 1 ≤ s) (ht : 1 ≤ t) (e : Int) : hold (s * t) (ofB (fun i => b.testBit (i % s)) (s * t)) e = b.testBit (e % (s : Int)).toNat := by
  obtain ⟨h1, h2⟩ := mod_lt' (Nat.mul_pos hs ht) e
  obtain ⟨h3, h4⟩ := mod_lt' hs e
  unfold hold
  rw [tb_ofB, decide_eq_true h1, Bool.true_and]
  congr 1
  have : (((e % ((s * t : Nat) : Int)).toNat % s : Nat) : Int) = e % (s : Int) := by
    rw [Int.natCast_emod, h2, Int.emod_emod_of_dvd _ ⟨(t : Int), by rw [Int.natCast_mul]⟩]
  omega
/-- rounds on unlike remainders are kept apart -/
theorem apart_of {m0 s f g x y : Nat} (hs : 1 ≤ s) (hf : 1 ≤ f) (hg : 1 ≤ g) (hm : m0 < 2 ^ s) :
    Apart (s * f) (ofB (fun i => m0.testBit (i % s)) (s * f) &&& x) (s * g) (ofB (fun i => (2 ^ s - 1 - m0).testBit (i % s)) (s * g) &&& y) := by
  intro e1 e2 h1 h2 hz
  have a1 : hold (s * f) (ofB (fun i => m0.testBit (i % s)) (s * f)) e1 = true := by
    unfold hold at h1 ⊢
    rw [Nat.testBit_and, Bool.and_eq_true] at h1; exact h1.1
  have a2 : hold (s * g) (ofB (fun i => (2 ^ s - 1 - m0).testBit (i % s)) (s * g)) e2 = true := by
    unfold hold at h2 ⊢
    rw [Nat.testBit_and, Bool.and_eq_true] at h2; exact h2.1
  rw [laid_hold hs hf] at a1
  rw [laid_hold hs hg] at a2
  have hd : (s : Int) ∣ e1 - e2 := Int.dvd_trans (Int.natCast_dvd_natCast.mpr (Nat.dvd_gcd ⟨f, rfl⟩ ⟨g, rfl⟩)) (Int.dvd_of_emod_eq_zero hz)
  have hm2 : e1 % (s : Int) = e2 % (s : Int) := Int.emod_eq_emod_iff_emod_sub_eq_zero.mpr (Int.emod_eq_zero_of_dvd hd)
  rw [show 2 ^ s - 1 - m0 = 2 ^ s - (m0 + 1) by omega, Nat.testBit_two_pow_sub_succ hm, ← hm2, a1] at a2
  simp at a2
theorem pop_two (k : Nat) : pop (2 ^ k) = 1 := by
  induction k with
  | zero => rw [pop_step]; simp [pop_zero]
  | succ k ih => rw [pop_step, Nat.pow_succ, show 2 ^ k * 2 % 2 = 0 by omega, show 2 ^ k * 2 / 2 = 2 ^ k by omega, ih]
theorem pop_set {x k : Nat} : pop (x ||| 2 ^ k) ≤ pop x + 1 := by
  have hx : x < 2 ^ (x + k + 1) := Nat.lt_of_lt_of_le Nat.lt_two_pow_self (Nat.pow_le_pow_right (by decide) (by omega))
  have hy : x ||| 2 ^ k < 2 ^ (x + k + 1) := Nat.or_lt_two_pow hx (Nat.pow_lt_pow_right (by decide) (by omega))
  rw [pop_eq hx, pop_eq hy]
  have h : ∀ n, cnt (x ||| 2 ^ k).testBit n ≤ cnt x.testBit n + if k < n then 1 else 0 := fun n => by
    induction n with
    | zero => simp [cnt]
    | succ n ih =>
      rw [cnt_succ, cnt_succ, Nat.testBit_or, Nat.testBit_two_pow]
      by_cases e : k = n
      · subst e
        rw [if_neg (Nat.lt_irrefl _)] at ih
        rw [if_pos (Nat.lt_succ_self _)]
        cases x.testBit k <;> simp <;> omega
      · rw [decide_eq_false e, Bool.or_false]
        generalize (if x.testBit n = true then 1 else 0) = z
        by_cases h2 : k < n
        · rw [if_pos h2] at ih; rw [if_pos (by omega)]; omega
        · rw [if_neg h2] at ih; rw [if_neg (by omega)]; omega
  have := h (x + k + 1)
  rw [if_pos (by omega)] at this
  exact this
/-- the remainders of a round's days -/
theorem rests_fold {n b g x : Nat} (hg : 1 ≤ g) (hgn : g ∣ n) (hn : 1 ≤ n) (hb : b < 2 ^ n) (hx : x < 2 ^ g) (h : ∀ j : Nat, x.testBit j = true ↔ ∃ k, k < n ∧ b.testBit k = true ∧ k % g = j) : x = foldB g b (n / g) := by
  refine rt_eq hx (fold_lt _ _ _) fun d => ?_
  rw [fold_hold hn hg hgn hb]
  obtain ⟨h1, h2⟩ := mod_lt' hg d
  show x.testBit (d % (g : Int)).toNat = true ↔ _
  rw [h]
  constructor
  · rintro ⟨k, hk, hkb, hkg⟩
    refine ⟨k, by rw [hold_nat hk]; exact hkb, ?_⟩
    have : ((k % g : Nat) : Int) = d % (g : Int) := by omega
    rw [Int.natCast_emod] at this
    exact Int.emod_eq_emod_iff_emod_sub_eq_zero.mp this
  · rintro ⟨e, he, hed⟩
    obtain ⟨g1, g2⟩ := mod_lt' hn e
    refine ⟨(e % (n : Int)).toNat, g1, he, ?_⟩
    have h3 : e % (g : Int) = d % (g : Int) := Int.emod_eq_emod_iff_emod_sub_eq_zero.mpr hed
    have : (((e % (n : Int)).toNat % g : Nat) : Int) = d % (g : Int) := by
      rw [Int.natCast_emod, g2, Int.emod_emod_of_dvd _ (Int.natCast_dvd_natCast.mpr hgn), h3]
    omega
/-! ### papers as values -/
theorem k_eqv {K : PySem.W.Frag} {H : Hp} {Q : VK} {x y : V} {d e : PyData} {r : Bool} (hd : Dp K H x d) (he : Dp K H y e) (sd : SeqAt.shaped d = true) (se : SeqAt.shaped e = true) (hr : PyData.eqv d e = r) (q : Q (.bl r) H) : rEqA K x y H Q :=
  .inr ⟨d, e, hd, he, sd, se, by rw [hr]; exact q⟩
theorem k_nev {K : PySem.W.Frag} {H : Hp} {Q : VK} {x y : V} {d e : PyData} {r : Bool} (hd : Dp K H x d) (he : Dp K H y e) (sd : SeqAt.shaped d = true) (se : SeqAt.shaped e = true) (hr : PyData.eqv d e = r) (q : Q (.bl (!r)) H) : rNeA K x y H Q :=
  .inr ⟨d, e, hd, he, sd, se, by rw [hr]; exact q⟩
theorem eqv4 {w : Str} {a b c : Int} : PyData.eqv (.tuple [.str w, .int a, .int b, .int c]) (.tuple [.str w, .int a, .int b, .int c]) = true := by
  simp [PyData.eqv, PyData.eqvAll]
theorem shaped4 {w : Str} {a b c : Int} (hw : PyData.strOk w = true) : SeqAt.shaped (.tuple [.str w, .int a, .int b, .int c]) = true := by
  simp [SeqAt.shaped, PyData.canLay0, PyData.canLayAll0, PyData.depth, PyData.depthAll, hw]
/-! ### a slice of a tuple -/
section
variable {K : PySem.W.Frag} {H : Hp} {Q : VK} {σ : L2.St} {p : Addr} {xs : List V}
theorem kb_slT {X : Cx} (K : PySem.W.Frag) (hK : X.K = K := by rfl) : SlR X (rSlT K) := hK ▸ sl_tup
def SlT (K : PySem.W.Frag) (x : V) (lo hi : Option Int) (H : Hp) (Q : VK) : Prop := rSlT K x lo hi H Q
theorem k_slT {te : TE} {tl th : TO} (h : te σ H fun x H1 => tl σ H1 fun lo H2 => th σ H2 fun hi H3 => SlT K x lo hi H3 Q) : L2.tSl (rSlT K) te tl th σ H Q := h
theorem k_slTV {lo hi : Option Int} (h : SqT K H p xs) (hw : ¬ (HT.sIx xs.length 0 lo = 0 ∧ HT.sIx xs.length xs.length hi = xs.length)) (q : ∀ a H2, H a = none → Same H H2 → H2 a = some (.tup (cutV xs lo hi)) → Q (.ref a) H2) : SlT K (.ref p) lo hi H Q :=
  ⟨p, xs, rfl, h, hw, fun a ha => q a _ ha (same_new ha) upd_same⟩
end
theorem apart_of2 {m0 s f g b c : Nat} (h1 : ∀ e : Int, hold (s * f) b e = true → m0.testBit (e % (s : Int)).toNat = true) (h2 : ∀ e : Int, hold (s * g) c e = true → m0.testBit (e % (s : Int)).toNat = false) : Apart (s * f) b (s * g) c := by
  intro e1 e2 a1 a2 hz
  have hd : (s : Int) ∣ e1 - e2 := Int.dvd_trans (Int.natCast_dvd_natCast.mpr (Nat.dvd_gcd ⟨f, rfl⟩ ⟨g, rfl⟩)) (Int.dvd_of_emod_eq_zero hz)
  have hm2 : e1 % (s : Int) = e2 % (s : Int) := Int.emod_eq_emod_iff_emod_sub_eq_zero.mpr (Int.emod_eq_zero_of_dvd hd)
  have := h2 e2 a2
  rw [← hm2, h1 e1 a1] at this
  exact absurd this (by decide)
/-- all the other days -/
def compB (n b : Nat) : Nat := bitsOf n (fun d => !hold n b d)
theorem comp_lt {n b : Nat} : compB n b < 2 ^ n := bitsOf_lt _ _
theorem comp_hold {n b : Nat} (hn : 1 ≤ n) (d : Int) : hold n (compB n b) d = !hold n b d := hold_mod (f := fun d => !hold n b d) hn (fun d => by rw [hold_per]) d
theorem comp_sub {n b : Nat} (hb : b < 2 ^ n) : 2 ^ n - 1 - b = compB n b := by
  apply Nat.eq_of_testBit_eq; intro i
  rw [show 2 ^ n - 1 - b = 2 ^ n - (b + 1) by omega, Nat.testBit_two_pow_sub_succ hb]
  unfold compB
  rw [tb_bitsOf]
  by_cases h : i < n
  · rw [decide_eq_true h, hold_nat h]
  · rw [decide_eq_false h]; rfl

/-! ### a caught exception, handed on to a def -/
/-! a def called in the suite that caught p: p's object is pinned while it runs -/
structure FnP (P : Program) (w : World) (K : PySem.W.Frag) (mg : Str → Option Value) (base : Heap) (CX : CXT) (k : Nat) (f : Addr) (fd : FuncData) (ps : List Str) (sp : Addr × Obj → Sp) : Prop where
  len : ∀ p vs H Q E, sp p vs H Q E → vs.length = ps.length
  run : ∀ (A : Around) (outer : List Env) (s : Shared) (H : Hp) (args : Args) (us : List Value) (vs : List V) (Q : VK) (E : XK) (p : Addr × Obj), L2H.RoomH k A → L2H.PinOk outer H s p → Env0 P w K mg base A outer s H → BindsTo s fd args (ps.zip us) → Vals vs us → sp p vs H Q E →
    codeAny (model P w) A (.call (.ref f) args) (CR CX outer P w H s Q E) s
theorem fn_ofP {CX : CXT} {P : Program} {w : World} {K : PySem.W.Frag} {mg : Str → Option Value} {base : Heap} {k : Nat} {f : Addr} {name qual : Str} {params : Arguments} {body : List Stmt} {scope : Scope} {dV kV doc pm cdv ct oc : Value} {an od : Option Addr}
    {osl : Array (Option Value)} {N ps : List Str} {sp : Addr × Obj → Sp} (lk : K.lookup f = some ⟨oc, od, .func (PySem.W.fnOf name qual params body scope dV kV doc pm an cdv ct), osl⟩) (hcd : PySem.W.codeIn K cdv qual = true) (S : FnScope N ps scope)
    (len : ∀ p vs H Q E, sp p vs H Q E → vs.length = ps.length)
    (hbody : ∀ (A : Around) (outer : List Env) (s : Shared) (H : Hp) (vs : List V) (Q : VK) (E : XK) (p : Addr × Obj), L2H.RoomH k (A.deeper (envOfC qual scope s.heap.objs.size f cdv)) → sp p vs H Q E →
      ∃ t, PSs (L2H.cxH CX P w K mg base N qual scope f cdv A outer s H E p) body t ∧ t { nx := fun _ H' => Q .non H', rt := Q } (L2.start N vs) H) :
    FnP P w K mg base CX (k + 1) f (PySem.W.fnOf name qual params body scope dV kV doc pm an cdv ct) ps sp := by
  refine ⟨len, fun A outer s H args us vs Q E p hr hpin e0 hb r hsp => ?_⟩
  have hl := len _ _ _ _ _ hsp
  have KX : K.In s.heap := e0.mod.kin.keeps fun b o e => (e0.bs b o e).1
  have lim : s.heap.NoLimit := e0.mod.nolimit.keeps fun b o e => (e0.bs b o e).1
  have hkind : ∀ y ∈ ps.zip us, scope.names.lookup y.1 = some .local ∨ (scope.names.lookup y.1 = some .cell ∧ ((cellsFrom (s.heap.objs.size + 1) scope.names []).lookup y.1).isSome = true) := fun ⟨n, v⟩ hy => by
    rcases S.par n (List.of_mem_zip hy).1 with q | q
    · exact .inl q
    · exact .inr ⟨q, PySem.W.cellsFrom_some _ _ _ (.inl q)⟩
  refine codeAny_call_function hr.depth (KX _ _ lk) rfl S.co S.gen rfl (PySem.W.codeRec_of KX hcd) (hb _ _ _ _ ?_)
  refine wpAny_newFunctionEnv_cells S.kind hkind fun env he s1 x => ?_
  subst he
  refine ⟨lim.keeps x.toInCall.keep, codeAny_func ?_⟩
  obtain ⟨t, ht, hq⟩ := hbody A outer s H vs Q E p (hr.deeper _) hsp
  have I : Inv (L2H.cxH CX P w K mg base N qual scope f cdv A outer s H E p) [] (L2.start N vs) H s1 := L2H.inv_startH S hpin e0 hl r x
  refine wpAny_mono (ht.run [] s1 (L2.start N vs) H _ I hq) (fun fl s' hs => ?_) fun e s' hs => hs
  have fin : ∀ {σ' : L2.St} {H' : Hp} {v : V} {u : Value}, Inv (L2H.cxH CX P w K mg base N qual scope f cdv A outer s H E p) [] σ' H' s' → RelV v u → Q v H' → CE outer P w H s Q u s' :=
    fun {σ' H' v u} J rv q => ⟨v, H', J.os, J.bare, J.base, J.hok, rv, q⟩
  cases fl with
  | ret u =>
    obtain ⟨v, σ', H', J, rv, q⟩ := hs
    exact fin J rv q
  | next =>
    obtain ⟨σ', H', J, q⟩ := hs
    exact fin (v := V.non) (u := Value.none) J rfl q
  | brk =>
    obtain ⟨_, _, _, q⟩ := hs
    exact False.elim q
  | cont =>
    obtain ⟨_, _, _, q⟩ := hs
    exact False.elim q
theorem Fun.okP {P : Program} {w : World} {K : PySem.W.Frag} {mg : Str → Option Value} {base : Heap} {x qual : Str} {st : Stmt} {f : Addr} {fd : FuncData} {N ps : List Str} {k : Nat} {sp : Addr × Obj → Sp} (F : Fun K x qual st f fd) (S : FnScope N ps (defScope st)) (len : ∀ p vs H Q E, sp p vs H Q E → vs.length = ps.length)
    (hbody : ∀ (cdv : Value) (A : Around) (outer : List Env) (s : Shared) (H : Hp) (vs : List V) (Q : VK) (E : XK) (p : Addr × Obj), L2H.RoomH k (A.deeper (envOfC qual (defScope st) s.heap.objs.size f cdv)) → sp p vs H Q E →
      ∃ t, PSs (L2H.cxH CX0 P w K mg base N qual (defScope st) f cdv A outer s H E p) (defBody st) t ∧ t { nx := fun _ H' => Q .non H', rt := Q } (L2.start N vs) H) : FnP P w K mg base CX0 (k + 1) f fd ps sp := by
  obtain ⟨oc, od, kV, doc, pm, an, cdv, ct, osl, rfl, lk, hcd⟩ := F.ex
  exact fn_ofP lk hcd S len fun A outer s H vs Q E p hr hsp => hbody cdv A outer s H vs Q E p hr hsp
section
variable {X : Cx} {CX : CXT} {k : Nat} {f a : Addr} {fd : FuncData} {ps : List Str} {sp : Addr × Obj → Sp} {x : Str} {p pos : Pos} {e : Expr} {es : List Expr} {t : TA} {oe : Obj} {pn : List (Addr × Obj)}
/-- f(.., err, ..) in an except suite: the exception is pinned while the callee runs -/
def tCallV (a : Addr) (cls : Value) (d : Option Addr) (sp : Addr × Obj → Sp) (t : TA) : TE := fun σ H Q => t σ H fun vs H1 =>
  ∀ oe : Obj, Zc cls d oe → (∃ u, oe.data = .fields u) → sp (a, oe) vs H1 Q (fun _ _ _ => False)
theorem pe_callV {cls : Value} {d : Option Addr} (hz : Zc cls d oe) (hf : ∃ u, oe.data = .fields u) (F : FnP X.prog X.w X.K X.mg X.base CX k f fd ps sp) (hr : Room k X.A) (hg : Gl X x) (hm : X.mg x = some (.ref f)) (hk : PySem.W.keepIn X.K (.ref f) = true) (hb : Binds X.K fd ps [])
    (hx : ∀ (l : List Env) (H : Hp) (s : Shared) (e : Value) (s' : Shared), ¬ CX l H s (fun _ _ _ => False) e s')
    (ha : PA (X.suite a ((a, oe) :: pn)) (e :: es) t) (hdb : (x == ("__debug__" : Str)) = false := by decide) (he : starEach (e :: es) X.env = (false, eval e X.env) :: starEach es X.env := by rfl) (hpl : (backTo pos (starEach es X.env)).any (·.1) = false := by rfl) :
    PE (X.suite a ((a, oe) :: pn)) (.Call (.Name x p) (e :: es) [] pos) (tCallV a cls d sp t) := by
  refine ⟨fun pins s σ H Q I h => ?_⟩
  refine wpAny_Call_Name_kw (ld_glob I hg hm ?_ hdb)
  refine PySem.W.callWith_K (h₀ := X.base) I.ok.mod.kin hk (thn (ha.run pos pins s σ H _ I h) fun us s1 ⟨vs, H1, I1, r, q⟩ => ⟨I1.kIn, ?_⟩) he hpl
  have q := q oe hz hf
  have P1 := I1.pin (a, oe) (List.mem_append_left _ List.mem_cons_self)
  have hpin : L2H.PinOk X.stack H1 s1 (a, oe) := ⟨P1.1, P1.2.1, fun hm => (List.mem_cons.mp (I1.stkSub a hm)).elim P1.2.2.1 P1.2.2.2.1, P1.2.2.2.2⟩
  have hl : us.length = ps.length := by rw [← r.length]; exact F.len _ _ _ _ _ q
  have b := hb s1 us I1.kIn (by rw [List.append_nil]; exact hl)
  rw [List.append_nil] at b
  refine wpAny_call (codeAny_mono (F.run _ X.stack s1 H1 ⟨us, []⟩ us vs Q (fun _ _ _ => False) (a, oe) ⟨hr.dp, hr.un⟩ hpin I1.env0 b r q) fun r s' hq => ?_)
  cases r with
  | error e => exact absurd hq (hx _ _ _ _ _)
  | ok fl =>
    cases fl with
    | ret u => exact I1.after hq
    | next => exact False.elim hq
    | brk => exact False.elim hq
    | cont => exact False.elim hq
/-- where the dict of the exception stands -/
def DOk (H : Hp) (d : Option Addr) : Prop := d = none ∨ ∃ (dd : Addr) (fs : List (Str × V)), d = some dd ∧ H dd = some (.xd fs)
theorem inst_exc {X : Cx} {pins : List (Addr × Obj)} {σ : L2.St} {H : Hp} {s : Shared} {a D : Addr} {d : Option Addr} {oe : Obj} (I : Inv X pins σ H s) (hget : s.heap.get? a = some oe) (hz : Zc (.ref D) d oe) (hf : ∃ vs, oe.data = .fields vs) (hd : DOk H d) :
    ∃ od, PySem.W.InstAt s.heap a oe D od := by
  obtain ⟨vs, hv⟩ := hf
  have hno : PySem.W.notCls oe = true := by unfold PySem.W.notCls; rw [hv] <;> rfl
  rcases hd with rfl | ⟨dd, fs, rfl, ea⟩
  · exact ⟨none, hget, hz.1, hno, by rw [hz.2]; exact trivial⟩
  · have hx : ObjOk X.prog X.w H s.heap dd (.xd fs) := I.hok dd _ ea
    obtain ⟨mA, hns, _⟩ := hx
    obtain ⟨od, ho, _⟩ := lookIn_ns hns
    exact ⟨some od, hget, hz.1, hno, by rw [hz.2]; exact ho⟩
theorem isinst_exc {X : Cx} {pins : List (Addr × Obj)} {σ : L2.St} {H : Hp} {s : Shared} {a D : Addr} {d : Option Addr} {oe : Obj} {cv : Value} {b : Bool} {Q : VK} (I : Inv X pins σ H s) (hget : s.heap.get? a = some oe) (hz : Zc (.ref D) d oe) (hf : ∃ vs, oe.data = .fields vs) (hd : DOk H d) (C : ExcC X.K D)
    (e : PySem.W.kitOne X.K (.ref D) cv = some b) (q : Q (.bl b) H) : wpAny (model X.prog X.w) X.A (call (.builtin "isinstance") [.ref a, cv]) (EP X pins σ Q) X.xe s := by
  obtain ⟨od, J⟩ := inst_exc I hget hz hf hd
  refine PySem.W.kia_one (PySem.W.kitx_exc ?_ C.hg C.hk C.hs C.ha C.hn C.ht C.hm) I.kIn J e (fun z => nomatch z) fun tk => ⟨.bl b, H, I.kept (t' := tk) fun _ _ z => z, rfl, q⟩
  obtain ⟨cd, hc, _⟩ := PySem.W.any_some C.hd
  rw [hc]; rfl
/-- isinstance(e, c), e the caught exception p, in a def that was called in its suite -/
def rIsV (K : PySem.W.Frag) (p : Addr × Obj) : List V → Hp → VK → Prop := fun xs H Q => ∃ (D : Addr) (d : Option Addr) (c : V) (cv : Value) (b : Bool), xs = [.ref p.1, c] ∧ ExcC K D ∧ Zc (.ref D) d p.2 ∧ DOk H d ∧ (∃ vs, p.2.data = .fields vs) ∧ (∀ u, RelV c u → u = cv) ∧ PySem.W.kitOne K (.ref D) cv = some b ∧ Q (.bl b) H
theorem call_isV {X : Cx} {p : Addr × Obj} (hp : X.pn = [p]) : CallR X (.builtin "isinstance") (rIsV X.K p) := by
  intro pins s σ H xs us Q I r h
  obtain ⟨D, d, c, cv, b, rfl, C, hz, hd, hf, hcv, e, q⟩ := h
  cases r with
  | cons rx rr =>
    cases rr with
    | cons rt rr =>
      cases rr
      cases rx
      have ec := hcv _ rt
      subst ec
      exact isinst_exc I (I.pin p (List.mem_append_left _ (by rw [hp]; exact List.mem_cons_self))).1 hz hf hd C e q
/-- isinstance(e, c) in the suite that caught e -/
def rIsC (K : PySem.W.Frag) (a : Addr) (cls : Value) (d : Option Addr) : List V → Hp → VK → Prop := fun xs H Q => ∃ (D : Addr) (c : V) (cv : Value) (b : Bool), cls = .ref D ∧ xs = [.ref a, c] ∧ ExcC K D ∧ DOk H d ∧ (∀ u, RelV c u → u = cv) ∧ PySem.W.kitOne K (.ref D) cv = some b ∧ Q (.bl b) H
theorem call_isC {X : Cx} {a : Addr} {oe : Obj} {pn : List (Addr × Obj)} {cls : Value} {d : Option Addr} (hz : Zc cls d oe) (hf : ∃ vs, oe.data = .fields vs) : CallR (X.suite a ((a, oe) :: pn)) (.builtin "isinstance") (rIsC X.K a cls d) := by
  intro pins s σ H xs us Q I r h
  obtain ⟨D, c, cv, b, rfl, rfl, C, hd, hcv, e, q⟩ := h
  cases r with
  | cons rx rr =>
    cases rr with
    | cons rt rr =>
      cases rr
      cases rx
      have ec := hcv _ rt
      subst ec
      obtain ⟨hget, _⟩ := I.pin (a, oe) (List.mem_append.mpr (.inl List.mem_cons_self))
      exact isinst_exc I hget hz hf hd C e q
end
/-- an error of the class at D, asked of the class at C: an except clause, isinstance -/
theorem exm_of {K : PySem.W.Frag} {D C : Addr} {b : Bool} (h1 : PySem.W.subIn K (.ref C) (.type "BaseException") = some true) (h2 : PySem.W.isClsIn K C = true) (h3 : PySem.W.typeIn K (.ref C) = some (.type "type")) (h4 : PySem.W.subIn K (.ref D) (.ref C) = some b) :
    PySem.W.exmOne K (.ref D) (.ref C) = some b := by
  have e1 : (PySem.W.subIn K (.ref C) (.type "BaseException") == some true) = true := by rw [h1] <;> rfl
  have e2 : ((PySem.W.clsIn K C).isSome && PySem.W.typeIn K (.ref C) == some (.type "type")) = true := by
    have h2' : (PySem.W.clsIn K C).isSome = true := h2
    rw [h2', h3] <;> rfl
  show (if (PySem.W.subIn K (.ref C) (.type "BaseException") == some true) = true then (if ((PySem.W.clsIn K C).isSome && PySem.W.typeIn K (.ref C) == some (.type "type")) = true then PySem.W.subIn K (.ref D) (.ref C) else none) else none) = some b
  rw [if_pos e1, if_pos e2]
  exact h4
theorem kit_of {K : PySem.W.Frag} {D C : Addr} {b : Bool} (h2 : PySem.W.isClsIn K C = true) (h3 : PySem.W.typeIn K (.ref C) = some (.type "type")) (hs : PySem.W.subIn K (.ref C) (.ref C) = some true) (h4 : PySem.W.subIn K (.ref D) (.ref C) = some b) :
    PySem.W.kitOne K (.ref D) (.ref C) = some b := by
  unfold PySem.W.kitOne
  by_cases e : D = C
  · subst e
    rw [hs] at h4
    rw [if_pos (by simp)]
    exact h4
  · rw [if_neg (by simpa using e)]
    have e2 : ((PySem.W.clsIn K C).isSome && PySem.W.typeIn K (.ref C) == some (.type "type")) = true := by
      have h2' : (PySem.W.clsIn K C).isSome = true := h2
      rw [h2', h3] <;> rfl
    show (if ((PySem.W.clsIn K C).isSome && PySem.W.typeIn K (.ref C) == some (.type "type")) = true then PySem.W.subIn K (.ref D) (.ref C) else none) = some b
    rw [if_pos e2]
    exact h4
theorem kit_ve {K : PySem.W.Frag} {D : Addr} {b : Bool} (h : PySem.W.subIn K (.ref D) (.type "ValueError") = some b) : PySem.W.kitOne K (.ref D) (.type "ValueError") = some b := by
  unfold PySem.W.kitOne
  rw [if_neg (by simp)]
  show (if PySem.W.kitMeta "ValueError" = true then PySem.W.subIn K (.ref D) (.type "ValueError") else none) = some b
  rw [if_pos (by decide +kernel)]
  exact h

/-! ### several except clauses, each with a name -/
def wAsM (K : PySem.W.Frag) (Wout : WX) (D : Ends) : List (Value × Nat × (Addr → Value → Option Addr → TS)) → WX
  | [] => Wout
  | (c, i, ts) :: r => fun cls d σ H => ∃ b, PySem.W.exmOne K cls c = some b ∧ (b = true → ∀ a, H a = none → ts a cls d { nx := fun σ' H' => D.nx (σ'.set i none) H', rt := D.rt, bk := fun σ' H' => D.bk (σ'.set i none) H', ct := fun σ' H' => D.ct (σ'.set i none) H' } (σ.set i (some (.ref a))) H) ∧
      (b = false → wAsM K Wout D r cls d σ H)
inductive HasOk (X : Cx) : List ExceptHandler → List (Value × Nat × (Addr → Value → Option Addr → TS)) → Prop
  | nil : HasOk X [] []
  | cons {x n : Str} {c : Value} {i : Nat} {ts : Addr → Value → Option Addr → TS} {b₀ : Stmt} {suite : List Stmt} {np pos' : Pos} {hds : List ExceptHandler} {l : List (Value × Nat × (Addr → Value → Option Addr → TS))}
      (hN : X.N.Nodup) (hi : X.N[i]? = some n) (hln : X.env.kindOf n = some .local) (hc : Names X x c)
      (hsu : ∀ (a : Addr) (oe : Obj) (cls : Value) (d : Option Addr) (pn : List (Addr × Obj)), Zc cls d oe → (∃ vs, oe.data = .fields vs) → PSs (X.suite a ((a, oe) :: pn)) (b₀ :: suite) (ts a cls d)) (r : HasOk X hds l) :
      HasOk X (.ExceptHandler (some (.Name x np)) (some n) (b₀ :: suite) pos' :: hds) ((c, i, ts) :: l)
section
variable {X : Cx} {body : List Stmt} {h₀ : ExceptHandler} {hds : List ExceptHandler} {l : List (Value × Nat × (Addr → Value → Option Addr → TS))} {pos : Pos} {tb : WX → TS} {Wout : WX}
theorem ps_try_asN (hs : X.stack = X.env :: X.outer) (hf : X.env.frame = some X.env.locals) (tk : Takes X Wout)
    (hb : ∀ (W : WX) (pn : List (Addr × Obj)) (xe : Value → Shared → Prop), Takes (X.tr pn xe) W → PassesOwn (model X.prog X.w) X.A X.env xe → PSs (X.tr pn xe) body (tb W))
    (hh : HasOk X (h₀ :: hds) l) : PS X (.Try body (h₀ :: hds) [] [] pos) (fun D σ H => tb (wAsM X.K Wout D l) D σ H) := by
  refine ⟨fun pins s σ H D I h => ?_⟩
  have ok := I.ok
  have hfr : X.A.frames = some (X.env :: X.outer) := by rw [ok.frames, hs]
  refine wpAny_Try_except ?_
  refine wpAny_mono ((hb (wAsM X.K Wout D l) (X.pn ++ pins) (fun e s₁ => wpAny (model X.prog X.w) X.A (noteFrame e X.env) (fun _ s₂ => wpAny (model X.prog X.w) X.A (setFlight e none) (fun _ s₃ =>
    wpAny (model X.prog X.w) X.A (handleBy e X.env (h₀ :: hds)) (SP X pins D) X.xe s₃) X.xe s₂) X.xe s₁) (fun u s' xx => ?_) PassesOwn.looking).run [] s σ H D (I.toTry _) h) (fun f s1 hsp => ?_) (fun e s1 he => he)
  · -- the catch
    obtain ⟨a, B, sI, pins', σ', H', cls, d, rfl, J', nb, up, sky, na, os, ag, w⟩ := xx
    have J : Inv X pins σ' H' sI := J'.ofTry ok
    have sky' : Sky B (X.env :: X.outer) a (Zc cls d) X.env.locals s'.heap := by rw [← hs]; exact sky
    show wpAny (model X.prog X.w) X.A (noteFrame (.ref a) X.env) _ _ _
    refine Sky.land Zc.steady hfr hf sky' fun h3 fl3 up3 => ?_
    have J3 : Inv X pins σ' H' { s' with heap := h3 } := J.landed nb fl3.1 (up.trans up3) os ag
    obtain ⟨oe3, vs3, he3, hz3, hd3⟩ := fl3.there
    have notFr : ∀ {h : Heap} {o : Obj} {vs : Array Value}, h.FunFrames B (X.env :: X.outer) → h.get? a = some o → o.data = .fields vs → a ∉ frs (X.env :: X.outer) := fun {h o vs} ff e dd hm => by
      obtain ⟨_, o', e', hnf⟩ := ff.mem hm
      rw [e] at e'; cases e'
      exact hnf _ dd
    have nfr := notFr fl3.2.2.1 he3 hd3
    have nL : a ≠ X.env.locals := fun z => nfr (List.mem_filterMap.mpr ⟨X.env, List.mem_cons_self, by rw [hf, z]⟩)
    have nF : a ∉ X.fs := fun hm => by
      obtain ⟨e, he, q⟩ := List.mem_filterMap.mp hm
      exact nfr (List.mem_filterMap.mpr ⟨e, List.mem_cons_of_mem _ he, q⟩)
    have S3 := J3.suite he3 hd3 na nL nF
    have go : ∀ {hds' : List ExceptHandler} {l' : List (Value × Nat × (Addr → Value → Option Addr → TS))}, HasOk X hds' l' → wAsM X.K Wout D l' cls d σ' H' →
        wpAny (model X.prog X.w) X.A (handleBy (.ref a) X.env hds') (SP X pins D) X.xe { s' with heap := h3 } := by
      intro hds' l' hk
      induction hk with
      | nil =>
        intro w
        refine wpAny_handleBy_nil ?_
        obtain ⟨k1, k2, k3, oe, vs, T, oT, ts', he, hz, hd, h1, hr⟩ := id fl3
        unfold PySem.passOn
        refine wpAny_bind (wpAny_field he hd h1 ?_)
        rw [if_neg (show ¬ ((Value.ref T == Value.none) = true) from by simp)]
        have fin : wpAny (model X.prog X.w) X.A (setFlight (.ref a) X.env.frame) (fun _ s4 => wpAny (model X.prog X.w) X.A (throw (.ref a) : Sem Flow) (SP X pins D) X.xe s4) X.xe { s' with heap := h3 } := by
          rw [hf]
          refine HandSPX.setFlight_upZ fl3 fun h4 hh4 up4 => wpAny_throw (tk _ _ ?_)
          exact ⟨a, B, sI, pins, σ', H', cls, d, rfl, J, nb, (up.trans up3).trans up4, .inr (.inr (by rw [hs]; exact hh4)), na, os, ag, w⟩
        first
          | exact wpAny_bind (wpAny_pure (wpAny_bind fin))
          | exact wpAny_bind fin
      | @cons x n c i ts b₀ suite np pos' hds2 l2 hN hi hln hc hsu r ih =>
        intro w
        obtain ⟨b, hb1, hyes, hno⟩ := w
        have hloc : Loc X.env.scope n := .inl hln
        refine wpAny_handleBy_cons (codeAny_handlers_test ?_) (by intro q; cases q)
        have LT : PySem.W.Looks (model X.prog X.w) h3 (typeOf (.ref a)) cls := fun A Q E s k q => wpAny_typeOf_ref (k _ _ he3) (by rw [hz3.1]; exact q)
        have LM := PySem.W.exm_one (M := model X.prog X.w) (J3.kIn) LT hb1
        have test : ∀ {Q : Value → Shared → Prop} {E : Value → Shared → Prop}, Q c { s' with heap := h3 } → wpAny (model X.prog X.w) (X.A.mark (some (.ref a))) (eval (.Name x np) X.env) Q E { s' with heap := h3 } := fun {Q E} q => by
          obtain ⟨hg, hdbg, hm | ⟨hm, hv, hnn⟩⟩ := hc
          · exact ld_glob (X := X.suite a ((a, oe3) :: (X.pn ++ pins))) S3 hg hm q hdbg
          · exact ld_blt (X := X.suite a ((a, oe3) :: (X.pn ++ pins))) S3 hg hm hv q hnn hdbg
        refine test (LM.here ?_)
        cases b with
        | true =>
          refine codeAny_handlers_suite_as ?_
          refine HandSPX.lands_againZ fl3 fun h4 fl4 up4 => ?_
          have J4 : Inv X pins σ' H' { s' with heap := h4 } := J.landed nb fl4.1 ((up.trans up3).trans up4) os ag
          obtain ⟨oe4, vs4, he4, hz4, hd4⟩ := fl4.there
          have S4 := J4.suite he4 hd4 na nL nF
          refine store_ok (X := X.suite a ((a, oe4) :: (X.pn ++ pins))) (v := .ref a) S4 hN hi hloc rfl (fun s5 S5 => ?_) (.inr hln)
          refine wpAny_mono ((hsu a oe4 cls d (X.pn ++ pins) hz4 ⟨_, hd4⟩).run [] s5 _ H' _ S5 (hyes rfl a na)) (fun f s6 hsp => ?_) (fun _ _ z => False.elim z)
          have end_ : ∀ {σ6 : L2.St} {H6 : Hp} {Q : Shared → Prop}, Inv (X.suite a ((a, oe4) :: (X.pn ++ pins))) [] σ6 H6 s6 → (∀ s7, Inv X pins (σ6.set i none) H6 s7 → Q s7) →
              wpAny (model X.prog X.w) X.A (do bindName X.env n .none; unbindBehindTheSuite X.env n pos') (fun _ s7 => Q s7) X.xe s6 := fun {σ6 H6 Q} S6 hq => gone_ok (S6.unsuite ok) hN hi hln hq
          cases f with
          | next =>
            obtain ⟨σ6, H6, S6, q6⟩ := hsp
            exact end_ S6 fun s7 J7 => ⟨_, _, J7, q6⟩
          | brk =>
            obtain ⟨σ6, H6, S6, q6⟩ := hsp
            exact end_ S6 fun s7 J7 => ⟨_, _, J7, q6⟩
          | cont =>
            obtain ⟨σ6, H6, S6, q6⟩ := hsp
            exact end_ S6 fun s7 J7 => ⟨_, _, J7, q6⟩
          | ret u =>
            obtain ⟨v6, σ6, H6, S6, r6, q6⟩ := hsp
            exact end_ S6 fun s7 J7 => ⟨_, _, _, J7, r6, q6⟩
        | false =>
          show wpAny _ X.A (handleBy (.ref a) X.env hds2) _ _ _
          exact ih (hno rfl)
    exact go hh w
  · cases f with
    | next =>
      obtain ⟨σ', H', J', q⟩ := hsp
      exact wpAny_execs_nil ⟨σ', H', J'.ofTry ok, q⟩
    | brk =>
      obtain ⟨σ', H', J', q⟩ := hsp
      exact ⟨σ', H', J'.ofTry ok, q⟩
    | cont =>
      obtain ⟨σ', H', J', q⟩ := hsp
      exact ⟨σ', H', J'.ofTry ok, q⟩
    | ret u =>
      obtain ⟨v, σ', H', J', r, q⟩ := hsp
      exact ⟨v, σ', H', J'.ofTry ok, r, q⟩
end
/-! ### C0.__init__(self, ..), C0 an own class whose __init__ is ValueError's -/
section
variable {X : Cx} {e : Expr} {es : List Expr} {ta : TA} {n : Str} {C0 : Addr} {mc : Value} {p1 p2 pos : Pos}
theorem pe_xinit {pl : Sem Bool} (hg : Gl X n) (hm : X.mg n = some (.ref C0)) (r : ClX.CRead X.K C0 mc) (vV : PySem.W.findCls X.K (.ref C0) mc "__init__" = some (.val (.builtin "ValueError.__init__"))) (ha : PA X (e :: es) ta)
    (hc : eval (.Call (.Attribute (.Name n p1) "__init__" p2) (e :: es) [] pos) X.env = (do
      let ov ← eval (.Name n p1) X.env
      standAt p2.atName
      let (f, first) ← holding [ov] (getMethod ov "__init__" pl)
      callWith pos f first (backTo pos (starEach (e :: es) X.env)) (backToKw pos (keywordEach [] X.env))) := by rfl)
    (hd : (n == ("__debug__" : Str)) = false := by decide)
    (he : starEach (e :: es) X.env = (false, eval e X.env) :: starEach es X.env := by rfl) (hpl : (backTo pos (starEach es X.env)).any (·.1) = false := by rfl) :
    PE X (.Call (.Attribute (.Name n p1) "__init__" p2) (e :: es) [] pos) (tVeI X.K ta) := by
  refine ⟨fun pins s σ H Q I h => ?_⟩
  refine PySem.W.methodCall_KW (ld_glob I hg hm ?_ hd) hc
  refine PySem.W.method_cls I.kIn r.ga ?_
  refine PySem.W.cls_value I.kIn r.rd vV (by decide +kernel) ?_
  show wpAny _ _ (callWith pos (Value.builtin "ValueError.__init__") [] (backTo pos (starEach (e :: es) X.env)) []) _ _ _
  refine PyProof.Rows.callWith_method1 (thn (ha.run pos pins _ σ H _ (I.tok _) h) fun us s1 ⟨vs, H1, I1, r1, a, C, ws, ev, hl, T, ea, q⟩ => ?_) he hpl
  subst ev
  cases r1 with
  | @cons _ u0 _ ur ra rw' =>
    obtain rfl : u0 = Value.ref a := ra
    have hlen : ur.length ≤ sizeLine := by
      rw [← Paired.length rw', sizeLine_eq]
      omega
    exact oinit_ok T I1 ea hlen fun s' J => ⟨.non, H1, J, rfl, q⟩
end
/-! ### readings' heads, and what is told of TooLong -/
theorem k_ifSx {c : TT} {t u : TS} {D : Ends} {σ : L2.St} {H : Hp} (h : c σ H fun b H1 => if b = true then t D σ H1 else u D σ H1) : tIfS c t u D σ H := h
theorem k_callSx {sp : Sp} {E : L2.St → XK} {tr : TA} {σ : L2.St} {H : Hp} {Q : VK} (h : tr σ H fun vs H1 => sp vs H1 Q (E σ)) : tCallS sp E tr σ H Q := h
/-- an error of the class at C may lie in the air, that has needed = m -/
def TL (C : Addr) (E : XK) (H : Hp) (m : Int) : Prop := ∀ (d : Addr) (H' : Hp), Same H H' → H' d = some (.xd [("needed", .int m)]) → E (.ref C) (some d) H'
theorem TL.mono {C : Addr} {E : XK} {H H1 : Hp} {m : Int} (t : TL C E H m) (s : Same H H1) : TL C E H1 m := fun d H' s' e => t d H' (s.trans s') e
theorem k_isX {K : PySem.W.Frag} {H : Hp} {Q : VK} {a D : Addr} {d : Option Addr} {c : V} {cv : Value} {b : Bool} (C : ExcC K D) (hd : DOk H d) (hcv : ∀ u, RelV c u → u = cv) (h : PySem.W.kitOne K (.ref D) cv = some b) (q : Q (.bl b) H) : rIsC K a (.ref D) d [.ref a, c] H Q :=
  ⟨D, c, cv, b, rfl, rfl, C, hd, hcv, h, q⟩
theorem k_xf {a C : Addr} {cls : Value} {d : Option Addr} {f : Str} {te : TE} {σ : L2.St} {H : Hp} {Q : VK} (h : te σ H fun x H1 => x = .ref a ∧ cls = .ref C ∧ ∃ (dd : Addr) (fs : List (Str × V)) (v : V), d = some dd ∧ H1 dd = some (.xd fs) ∧ fs.lookup f = some v ∧ Q v H1) : tXf a cls d C f te σ H Q := h
/-- self of an own error, being made -/
theorem tl_made {C a d : Addr} {E : XK} {H H2 : Hp} {m : Int} (t : TL C E H m) (ha : H a = none) (hd : H d = none) (e : H2 = upd (upd (upd H a (exo a C none)) d (exd d [("needed", .int m)])) a (exo a C (some d))) : E (.ref C) (some d) (upd (del H2 a) d (.xd [("needed", .int m)])) := by
  refine t d _ (fun b o h => ?_) upd_same
  have nb : b ≠ d := ne_of_none h hd
  have na : b ≠ a := ne_of_none h ha
  rw [upd_ne nb, del_ne na, e, upd_ne na, upd_ne nb, upd_ne na]
  exact h
/-- C(self, needed) -/
def spTL (C : Addr) : Sp := fun vs H Q _ => ∃ (a : Addr) (m : Int), vs = [.ref a, .int m] ∧ H a = some (exo a C none) ∧ ∀ dx, H dx = none → dx ≠ a → Q .non (upd (upd H dx (exd dx [("needed", .int m)])) a (exo a C (some dx)))
theorem k_mkTL {C : Addr} {H : Hp} {E : XK} {m : Int} (t : TL C E H m) : ([V.int m] : List V).length ≤ 1000 ∧ ∀ a, H a = none → spTL C (.ref a :: ([V.int m] ++ [])) (upd H a (exo a C none))
    (fun v H2 => v = .non ∧ ∃ (d : Addr) (fs : List (Str × V)), H2 a = some (exo a C (some d)) ∧ H2 d = some (exd d fs) ∧ H d = none ∧ E (.ref C) (some d) (upd (del H2 a) d (.xd fs))) (fun _ _ _ => False) := by
  refine ⟨by show 1 ≤ 1000; decide, fun a ha => ⟨a, m, rfl, upd_same, fun dx hd hda => ⟨rfl, dx, [("needed", .int m)], upd_same, ?_, ?_, ?_⟩⟩⟩
  · rw [upd_ne hda, upd_same]
  · rw [upd_ne hda] at hd; exact hd
  · rw [upd_ne hda] at hd
    exact tl_made t ha hd rfl
theorem k_veI {K : PySem.W.Frag} {ta : TA} {σ : L2.St} {H : Hp} {Q : VK} (h : ta σ H fun vs H1 => ∃ (a C : Addr) (ws : List V), vs = .ref a :: ws ∧ ws.length ≤ 1000 ∧ OexC K C ∧ H1 a = some (exo a C none) ∧ Q .non H1) : tVeI K ta σ H Q := h
theorem k_ost {K : PySem.W.Frag} {f : Str} {to te : TE} {D : Ends} {σ : L2.St} {H : Hp} (h : te σ H fun y H1 => to σ H1 fun x H2 => ∃ a C : Addr, x = .ref a ∧ OexC K C ∧ PySem.W.findIn K (.ref C) f = some none ∧
  ((H2 a = some (exo a C none) ∧ ∀ dx, H2 dx = none → dx ≠ a → D.nx σ (upd (upd H2 dx (exd dx [(f, y)])) a (exo a C (some dx)))) ∨
    ∃ (dx : Addr) (fs : List (Str × V)), H2 a = some (exo a C (some dx)) ∧ H2 dx = some (exd dx fs) ∧ fs.length ≤ 900 ∧ D.nx σ (upd H2 dx (exd dx ((f, y) :: fs))))) : tOst K f to te D σ H := h
theorem k_mkO {C : Addr} {sp : Sp} {dvs : List V} {ta : TA} {σ : L2.St} {H : Hp} {Q : XK} (h : ta σ H fun vs H1 => vs.length ≤ 1000 ∧ ∀ a, H1 a = none → sp (.ref a :: (vs ++ dvs)) (upd H1 a (exo a C none))
  (fun v H2 => v = .non ∧ ∃ (d : Addr) (fs : List (Str × V)), H2 a = some (exo a C (some d)) ∧ H2 d = some (exd d fs) ∧ H1 d = none ∧ Q (.ref C) (some d) (upd (del H2 a) d (.xd fs))) (fun _ _ _ => False)) : tMkO C sp dvs ta σ H Q := h

/-! ### the walker: one step, by the head of the reading -/
local macro_rules | `(tactic| walk_at "hp") => `(tactic| first | assumption | (refine' same_t ?h1 ?h2; (case h1 => assumption); (case h2 => walk_at "hp")) | (refine' same_l ?h1 ?h2; (case h1 => assumption); (case h2 => walk_at "hp")) | (refine' same_at ?h1 ?h2; (case h1 => assumption); (case h2 => walk_at "hp")) | fail)
local macro_rules | `(tactic| walk_at "hl") => `(tactic| first | walk_at "hp" | (refine' SqL.of ?h1; (case h1 => walk_at "hp")) | fail)
local macro_rules | `(tactic| walk_at "ht") => `(tactic| first | walk_at "hp" | (refine' SqT.of ?h1; (case h1 => walk_at "hp")) | fail)
local macro_rules | `(tactic| walk_at "sm") => `(tactic| first | assumption | (refine' sm_lit ?h1; (case h1 => decide +kernel)) | exact sm41 (by omega) (by omega) | walk_at "smx" | (refine' sm_mul ?h1 ?h2; (case h1 => walk_at "sm"); (case h2 => walk_at "sm")) | fail)
local macro_rules | `(tactic| walk_at "sd") => `(tactic| first
  | omega
  | decide +kernel
  | ((with_reducible apply Int.emod_nonneg); omega)
  | ((with_reducible refine sm_divx (b := 200) ?_ ?_ (by decide) (by decide)) <;> first | omega | walk_at "sm")
  | ((with_reducible refine sm_div (b := 200) ?_ ?_ (by decide) (by decide)) <;> first | omega | walk_at "sm")
  | walk_at "sdx"
  | ((with_reducible refine' sm_mulx ?h1 ?h2 ?h3); (case h1 => walk_at "sm"); (case h2 => walk_at "sm"); (case h3 => decide +kernel)) | fail)
local macro_rules | `(tactic| walk_at "st") => `(tactic| first
  | (with_reducible apply k_seqA)
  | (with_reducible apply k_seqD)
  | (with_reducible apply k_seqP)
  | ((with_reducible apply k_var); (· rfl))
  | (with_reducible apply k_c)
  | (with_reducible apply k_op)
  | (with_reducible apply k_add)
  | (with_reducible apply k_I0)
  | (with_reducible apply k_asg)
  | (with_reducible apply k_call)
  | (with_reducible apply k_cb)
  | (with_reducible apply k_cons)
  | (with_reducible apply k_nil)
  | (with_reducible apply k_ret)
  | (with_reducible apply k_test)
  | (with_reducible apply k_eq)
  | (with_reducible apply k_ne)
  | (with_reducible apply k_bl)
  | ((with_reducible apply k_I); (· walk_at "sd"))
  | (with_reducible apply k_U)
  | (with_reducible apply k_un)
  | ((with_reducible apply k_ixT); (· walk_at "ht"); (· rfl))
  | ((with_reducible apply k_ixL); (· walk_at "hl"); (· rfl))
  | (with_reducible apply k_tup)
  | ((with_reducible apply k_newtup); (· exact Nat.le_of_ble_eq_true rfl); intro p H' hn hs ht)
  | (with_reducible apply k_lst)
  | ((with_reducible apply k_newlst); (· exact Nat.le_of_ble_eq_true rfl); intro p H' hn hs ht)
  | (with_reducible apply k_B)
  | (with_reducible apply k_and)
  | (with_reducible apply k_or)
  | (with_reducible apply k_not)
  | ((with_reducible apply k_and2); (· rfl); (· rfl))
  | ((with_reducible apply k_or2); (· rfl); (· rfl))
  | ((with_reducible apply k_andn2); (· rfl); (· rfl))
  | (with_reducible apply k_andV)
  | (with_reducible apply k_orV)
  | (with_reducible apply k_notV)
  | (with_reducible apply k_chain)
  | (with_reducible apply k_eqb)
  | (with_reducible apply k_neb)
  | (with_reducible apply k_eqs)
  | (with_reducible apply k_nes)
  | (with_reducible apply k_drop)
  | (with_reducible apply k_next)
  | (with_reducible apply if_t)
  | (with_reducible apply if_f)
  | (with_reducible apply if_nt)
  | (with_reducible apply if_nf)
  | (with_reducible apply k_isi_ii)
  | (with_reducible apply k_isi_ib)
  | (with_reducible apply k_isi_bb)
  | (with_reducible apply k_isi_it)
  | ((with_reducible apply k_isi_tt); (· walk_at "ht"))
  | (with_reducible apply k_abs)
  | ((with_reducible apply k_max2); intro k hk1 hk2 hk3)
  | ((with_reducible apply k_min2); intro k hk1 hk2 hk3)
  | ((with_reducible apply k_lenT); (· walk_at "ht"))
  | ((with_reducible apply k_lenL); (· walk_at "hl"))
  | (with_reducible apply k_intI)
  | (with_reducible apply k_intB)
  | (with_reducible apply k_par)
  | (with_reducible apply k_par2)
  | (with_reducible apply k_ifx)
  | (with_reducible apply k_gname)
  | (with_reducible apply k_asgG)
  | (with_reducible apply k_retN)
  | (with_reducible apply k_lstrg)
  | ((with_reducible apply k_lstrgV); (· omega); intro p H' hn hs ht)
  | (with_reducible apply k_bits)
  | (with_reducible apply k_bitsV)
  | (with_reducible apply k_isN_n)
  | (with_reducible apply k_isN_i)
  | (with_reducible apply k_isN_r)
  | (with_reducible apply k_notN_n)
  | (with_reducible apply k_notN_i)
  | (with_reducible apply k_notN_r)
  | (with_reducible apply k_lc)
  | (with_reducible apply k_itup)
  | (with_reducible apply k_ilst)
  | ((with_reducible apply k_sqt); (· walk_at "ht"))
  | ((with_reducible apply k_sql); (· walk_at "hl"))
  | (with_reducible apply k_irng1)
  | ((with_reducible apply k_rng1); (· first | decide | omega))
  | (with_reducible apply k_irng2L)
  | (with_reducible apply k_rng2L)
  | (with_reducible apply k_irng2)
  | (with_reducible apply k_irng3)
  | ((with_reducible apply k_rng2); (· first | decide | omega))
  | ((with_reducible apply k_gtup); (· walk_at "ht"); (· rfl))
  | (with_reducible apply k_gcons)
  | (with_reducible apply k_gnil)
  | ((with_reducible apply k_notin2); (· walk_at "hl"))
  | ((with_reducible apply k_in2); (· walk_at "hl"))
  | ((with_reducible apply k_in3); (· walk_at "hl"))
  | ((with_reducible apply k_notinL); (· walk_at "hl"))
  | ((with_reducible apply k_inL'); (· walk_at "hl"))
  | ((with_reducible apply k_divmod); (· walk_at "sd"); intro p H' hn hs ht) | fail)
local macro_rules | `(tactic| walk_at "go") => `(tactic| repeat' walk_at "st")
/-- a branch: both ways, those that cannot be shut by omega -/
local macro_rules | `(tactic| walk_at "br") => `(tactic| (first | with_reducible apply if_dec | with_reducible apply if_ndec | with_reducible apply if_b) <;> intro hbr <;> first | (first | exact absurd (by assumption) hbr | exact absurd hbr (by assumption) | (exfalso; omega) | (exfalso; simp only [List.length_cons, List.length_nil] at hbr; omega)) | skip)
/-- an if statement: its test walked, the ways that can be -/
local macro_rules | `(tactic| walk_at "if") => `(tactic| ((first | with_reducible apply k_seqI | with_reducible apply k_if); walk_at "go"; walk_at "br"))
/-- a branch of which omega shuts one way -/
local macro_rules | `(tactic| walk_at "br1") => `(tactic| first
  | (with_reducible apply if_dec; (· (intro hbr; first | exact absurd (by assumption) hbr | exact absurd hbr (by assumption) | (exfalso; omega) | (exfalso; simp only [List.length_cons, List.length_nil] at hbr; omega))); intro hbr)
  | (with_reducible apply if_dec; rotate_left; (· (intro hbr; first | exact absurd (by assumption) hbr | exact absurd hbr (by assumption) | (exfalso; omega) | (exfalso; simp only [List.length_cons, List.length_nil] at hbr; omega))); intro hbr)
  | (with_reducible apply if_ndec; (· (intro hbr; first | exact absurd (by assumption) hbr | exact absurd hbr (by assumption) | (exfalso; omega) | (exfalso; simp only [List.length_cons, List.length_nil] at hbr; omega))); intro hbr)
  | (with_reducible apply if_ndec; rotate_left; (· (intro hbr; first | exact absurd (by assumption) hbr | exact absurd hbr (by assumption) | (exfalso; omega) | (exfalso; simp only [List.length_cons, List.length_nil] at hbr; omega))); intro hbr) | fail)
local macro_rules | `(tactic| walk_at "run") => `(tactic| repeat' (first | walk_at "st" | walk_at "br1" | with_reducible apply k_seqI | with_reducible apply k_if))
local macro_rules | `(tactic| walk_at "all") => `(tactic| repeat' (first | walk_at "st" | walk_at "br1" | walk_at "br" | with_reducible apply k_seqI | with_reducible apply k_if))
local macro_rules | `(tactic| walk_at "st") => `(tactic| first
  | ((with_reducible apply k_eqP); (· walk_at "ht"); (· walk_at "ht"))
  | ((with_reducible apply k_neP); (· walk_at "ht"); (· walk_at "ht")) | fail)
local macro_rules | `(tactic| walk_at "st") => `(tactic| first
  | ((with_reducible apply if_seq); (· rfl))
  | ((with_reducible apply if_nseq); (· rfl))
  | ((with_reducible apply if_sne); (· decide +kernel))
  | ((with_reducible apply if_nsne); (· decide +kernel)) | fail)

local macro_rules | `(tactic| walk_at "smx") => `(tactic| first | exact sm_ofB (by omega) | exact sm_bitsOf (by omega) | exact sm_mask (by omega) | (refine' sm_modp ?h1; (case h1 => walk_at "sm")) | (refine' sm_divp ?h1; (case h1 => walk_at "sm")) | (refine' sm_shl ?h1 ?h2; (case h1 => walk_at "sm"); (case h2 => omega)) | (refine' sm_or ?h1 ?h2; (case h1 => walk_at "sm"); (case h2 => walk_at "sm")) | (refine' sm_xor ?h1 ?h2; (case h1 => walk_at "sm"); (case h2 => walk_at "sm")) | (refine' sm_and ?h1; (case h1 => walk_at "sm")) | fail)
local macro_rules | `(tactic| walk_at "sdx") => `(tactic| first | (with_reducible exact pow_pos_c _) | ((with_reducible refine' cshl ?h1 ?h2 ?h3 ?h4); (case h1 => walk_at "sm"); (case h2 => omega); (case h3 => omega); (case h4 => decide +kernel)) | fail)
local macro_rules | `(tactic| walk_at "st") => `(tactic| first
  | (with_reducible apply k_andm)
  | (with_reducible apply k_andc)
  | (with_reducible apply k_orc)
  | (with_reducible apply k_xorm)
  | (with_reducible apply k_xorc)
  | ((with_reducible apply k_shl1); (· first | omega | exact modbd (by omega) (by omega)))
  | ((with_reducible apply k_shlc); (· exact cshl (by walk_at "sm") (by omega) (by omega) (by decide +kernel)))
  | ((with_reducible apply k_shrc); (· first | omega | exact Int.emod_nonneg _ (by omega))) | fail)
local macro_rules | `(tactic| walk_at "hr") => `(tactic| first | assumption | (refine' RT.mono ?h1 ?h2; (case h2 => assumption); (case h1 => walk_at "hr")) | fail)
local macro_rules | `(tactic| walk_at "lround") => `(tactic| (walk_at "go"))

local macro_rules | `(tactic| walk_at "st") => `(tactic| first
  | (with_reducible apply k_bm)
  | ((with_reducible apply k_bmA); (· walk_at "hl"))
  | ((with_reducible apply k_app); (· walk_at "hp"); (· first | assumption | decide | omega | (simp; done) | (simp; omega)); intro H' hm hh)
  | (with_reducible apply k_sl)
  | (with_reducible apply k_part)
  | (with_reducible apply k_partV)
  | (with_reducible apply k_nopart)
  | ((with_reducible apply k_slV); (· walk_at "hl"); intro p H' hn hs ht)
  | ((with_reducible apply k_lofL); (· walk_at "hl"); intro p H' hn hs ht)
  | (with_reducible apply k_gsub)
  | ((with_reducible apply k_eqE); (· walk_at "hl"); (· walk_at "hl"))
  | ((with_reducible apply k_neE); (· walk_at "hl"); (· walk_at "hl")) | fail)

local macro_rules | `(tactic| walk_at "st") => `(tactic| first
  | (with_reducible apply k_slT)
  | ((with_reducible apply k_slTV); (· walk_at "ht"); (· decide); intro p H' hn hs ht)
  | fail)

local macro_rules | `(tactic| walk_at "st") => `(tactic| first | (with_reducible apply k_callSx) | fail)

theorem cnt_add1 {f g : Nat → Bool} {d : Nat} (hf : f d = false) (hg : ∀ i, g i = (f i || decide (i = d))) : ∀ n, cnt g n = cnt f n + (if d < n then 1 else 0)
  | 0 => by simp [cnt]
  | n + 1 => by
    have ih := cnt_add1 hf hg n
    have e1 : cnt g (n + 1) = cnt g n + (if g n = true then 1 else 0) := rfl
    have e2 : cnt f (n + 1) = cnt f n + (if f n = true then 1 else 0) := rfl
    rw [e1, e2, ih, hg n]
    by_cases h : n = d
    · subst h
      rw [hf, if_neg (show ¬ n < n by omega), if_pos (show n < n + 1 by omega)]
      simp
    · rw [decide_eq_false h, Bool.or_false]
      by_cases h2 : d < n
      · rw [if_pos h2, if_pos (show d < n + 1 by omega)]; omega
      · rw [if_neg h2, if_neg (show ¬ d < n + 1 by omega)]; omega
theorem pop_or {b d n : Nat} (hb : b < 2 ^ n) (hd : d < n) (h : b.testBit d = false) : pop (b ||| 2 ^ d) = pop b + 1 := by
  have hb2 : b ||| 2 ^ d < 2 ^ n := Nat.or_lt_two_pow hb (Nat.pow_lt_pow_right (by decide) hd)
  rw [pop_eq hb, pop_eq hb2, cnt_add1 (g := (b ||| 2 ^ d).testBit) (f := b.testBit) h (fun i => by rw [Nat.testBit_or, Nat.testBit_two_pow]; congr 1; simp [eq_comm]) n, if_pos hd]
theorem nodup_step {A s : Int} {n m : Nat} (hs : 1 ≤ s) (hn : s * ((m : Int) - 1) < n) : ((List.range m).map fun k : Nat => (A + s * (k : Int)) % (n : Int)).Nodup := by
  by_cases hm : m = 0
  · subst hm; simp
  have hn1 : 0 < (n : Int) := by
    have : 0 ≤ s * ((m : Int) - 1) := Int.mul_nonneg (by omega) (by omega)
    omega
  unfold List.Nodup
  rw [List.pairwise_map]
  have : ∀ i j : Nat, i < j → j < m → (A + s * (i : Int)) % (n : Int) ≠ (A + s * (j : Int)) % (n : Int) := fun i j hij hj e => by
    have h1 := Int.emod_emod_of_dvd
    have hd : (n : Int) ∣ (A + s * (j : Int)) - (A + s * (i : Int)) := Int.dvd_of_emod_eq_zero (Int.emod_eq_emod_iff_emod_sub_eq_zero.mp e.symm)
    have e2 : (A + s * (j : Int)) - (A + s * (i : Int)) = s * ((j : Int) - i) := by rw [Int.mul_sub]; omega
    rw [e2] at hd
    have hp : 0 < s * ((j : Int) - i) := Int.mul_pos (by omega) (by omega)
    have hle := Int.le_of_dvd hp hd
    have : s * ((j : Int) - i) ≤ s * ((m : Int) - 1) := Int.mul_le_mul_of_nonneg_left (by omega) (by omega)
    omega
  refine List.Pairwise.imp_of_mem ?_ List.pairwise_lt_range
  intro i j hi hj hij
  exact this i j hij (by simpa using hj)
/-- some days of both are alike by g just where the rounds meet -/
theorem apart_days {n b m c : Nat} {l k : List Int} (hn : 1 ≤ n) (hm : 1 ≤ m) (hl : ∀ x ∈ l, 0 ≤ x ∧ x < n) (hk : ∀ x ∈ k, 0 ≤ x ∧ x < m) (h1 : ∀ e : Int, hold n b e = true ↔ e % (n : Int) ∈ l) (h2 : ∀ e : Int, hold m c e = true ↔ e % (m : Int) ∈ k) :
    ¬ Apart n b m c ↔ ∃ y ∈ k, y % ((Nat.gcd n m : Nat) : Int) ∈ l.map fun x => x % ((Nat.gcd n m : Nat) : Int) := by
  have hg : 0 < Nat.gcd n m := Nat.gcd_pos_of_pos_left _ hn
  have d1 : ((Nat.gcd n m : Nat) : Int) ∣ (n : Int) := Int.natCast_dvd_natCast.mpr (Nat.gcd_dvd_left n m)
  have d2 : ((Nat.gcd n m : Nat) : Int) ∣ (m : Int) := Int.natCast_dvd_natCast.mpr (Nat.gcd_dvd_right n m)
  constructor
  · intro h
    apply Classical.byContradiction
    intro hno
    refine h fun e f he hf hz => hno ⟨f % (m : Int), (h2 f).mp hf, ?_⟩
    rw [List.mem_map]
    refine ⟨e % (n : Int), (h1 e).mp he, ?_⟩
    rw [Int.emod_emod_of_dvd _ d1, Int.emod_emod_of_dvd _ d2]
    exact Int.emod_eq_emod_iff_emod_sub_eq_zero.mpr hz
  · rintro ⟨y, hy, hx⟩ h
    obtain ⟨x, hxl, e⟩ := List.mem_map.mp hx
    have bx := hl x hxl
    have by' := hk y hy
    refine h x y ((h1 x).mpr (by rw [Int.emod_eq_of_lt bx.1 bx.2]; exact hxl)) ((h2 y).mpr (by rw [Int.emod_eq_of_lt by'.1 by'.2]; exact hy)) (Int.emod_eq_emod_iff_emod_sub_eq_zero.mp e)
theorem comp_comp {n b : Nat} (hb : b < 2 ^ n) : compB n (compB n b) = b := by
  rw [← comp_sub (comp_lt (n := n) (b := b)), ← comp_sub hb]
  omega
theorem k_lenSet {K : PySem.W.Frag} {ta : TE} {σ : L2.St} {H : Hp} {Q : VK} (h : ta σ H fun x H1 => ∃ (l : Addr) (ns : List Int), x = .ref l ∧ SqL K H1 l (ns.map V.int) ∧ ns.Nodup ∧ ns.length ≤ 4000 ∧ Q (.int (ns.length : Nat)) H1) : RZ.tLenSetI K ta σ H Q := h
theorem k_nevS {K : PySem.W.Frag} {H : Hp} {Q : VK} {x y : V} {d : PyData} (hd : Dp K H x d) (he : Dp K H y d) (s : SeqAt.shaped d = true) (q : Q (.bl true) H) : rEqA K x y H Q := k_eqv hd he s s (SeqAt.eqv_refl _ (by unfold SeqAt.shaped at s; rw [Bool.and_eq_true] at s; exact s.1)) q

def topS (i : Nat) : Stmt := PySem.Challenge.pw_feastwheel_k58_too_long_to_meet.main.body.getD i (.Pass ⟨0, 0, 0, 0⟩)
abbrev s_Lsizes : Stmt := topS 35
theorem sc_Lsizes : FnScope ["_law_cell", "_law_small"] ["_law_cell"] (defScope s_Lsizes) := ⟨rfl, rfl, rfl, by decide +kernel, rfl, by decide +kernel, by decide +kernel⟩
abbrev s_Lcounts : Stmt := topS 36
theorem sc_Lcounts : FnScope ["_law_cell"] ["_law_cell"] (defScope s_Lcounts) := ⟨rfl, rfl, rfl, by decide +kernel, rfl, by decide +kernel, by decide +kernel⟩
abbrev s_Ldays : Stmt := topS 33
theorem sc_Ldays : FnScope ["_law_cell", "_law_size", "_law_many", "_law_step", "_law_k"] ["_law_cell", "_law_size", "_law_many"] (defScope s_Ldays) := ⟨rfl, rfl, rfl, by decide +kernel, rfl, by decide +kernel, by decide +kernel⟩
abbrev s_Lround : Stmt := topS 34
theorem sc_Lround : FnScope ["_law_days_here", "_law_size", "_law_bits", "_law_day"] ["_law_days_here", "_law_size"] (defScope s_Lround) := ⟨rfl, rfl, rfl, by decide +kernel, rfl, by decide +kernel, by decide +kernel⟩
abbrev s_sized : Stmt := topS 7
theorem sc_sized : FnScope ["size"] ["size"] (defScope s_sized) := ⟨rfl, rfl, rfl, by decide +kernel, rfl, by decide +kernel, by decide +kernel⟩
abbrev s_divisor : Stmt := topS 5
theorem sc_divisor : FnScope ["one", "other"] ["one", "other"] (defScope s_divisor) := ⟨rfl, rfl, rfl, by decide +kernel, rfl, by decide +kernel, by decide +kernel⟩
abbrev s_common : Stmt := topS 8
theorem sc_common : FnScope ["one", "other"] ["one", "other"] (defScope s_common) := ⟨rfl, rfl, rfl, by decide +kernel, rfl, by decide +kernel, by decide +kernel⟩
abbrev s_Lcell_at : Stmt := topS 32
theorem sc_Lcell_at : FnScope ["_law_script", "_law_k"] ["_law_script", "_law_k"] (defScope s_Lcell_at) := ⟨rfl, rfl, rfl, by decide +kernel, rfl, by decide +kernel, by decide +kernel⟩
abbrev s_TooLong_init : Stmt := inClass (topS 3) 0
theorem sc_TooLong_init : FnScope ["self", "needed"] ["self", "needed"] (defScope s_TooLong_init) := ⟨rfl, rfl, rfl, by decide +kernel, rfl, by decide +kernel, by decide +kernel⟩
abbrev s_mask : Stmt := topS 14
theorem sc_mask : FnScope ["size"] ["size"] (defScope s_mask) := ⟨rfl, rfl, rfl, by decide +kernel, rfl, by decide +kernel, by decide +kernel⟩
abbrev s_folded : Stmt := topS 20
theorem sc_folded : FnScope ["turn", "size", "bits", "rest"] ["turn", "size"] (defScope s_folded) := ⟨rfl, rfl, rfl, by decide +kernel, rfl, by decide +kernel, by decide +kernel⟩
abbrev s_later : Stmt := topS 19
theorem sc_later : FnScope ["turn", "number", "size", "shift"] ["turn", "number"] (defScope s_later) := ⟨rfl, rfl, rfl, by decide +kernel, rfl, by decide +kernel, by decide +kernel⟩
abbrev s_next_day : Stmt := topS 24
theorem sc_next_day : FnScope ["turn", "day", "bits"] ["turn", "day"] (defScope s_next_day) := ⟨rfl, rfl, rfl, by decide +kernel, rfl, by decide +kernel, by decide +kernel⟩
abbrev s_days_of : Stmt := topS 27
theorem sc_days_of : FnScope ["turn", "found", "day"] ["turn"] (defScope s_days_of) := ⟨rfl, rfl, rfl, by decide +kernel, rfl, by decide +kernel, by decide +kernel⟩
abbrev s_equation : Stmt := topS 6
theorem sc_equation : FnScope ["one", "other", "first", "second", "times", "rest", "k"] ["one", "other"] (defScope s_equation) := ⟨rfl, rfl, rfl, by decide +kernel, rfl, by decide +kernel, by decide +kernel⟩
abbrev s_met : Stmt := topS 9
theorem sc_met : FnScope ["rest", "size", "other_rest", "other_size", "by_one", "by_other", "shared", "apart", "whole"] ["rest", "size", "other_rest", "other_size"] (defScope s_met) := ⟨rfl, rfl, rfl, by decide +kernel, rfl, by decide +kernel, by decide +kernel⟩
abbrev s_ahead : Stmt := topS 10
theorem sc_ahead : FnScope ["rest", "size", "day"] ["rest", "size", "day"] (defScope s_ahead) := ⟨rfl, rfl, rfl, by decide +kernel, rfl, by decide +kernel, by decide +kernel⟩
abbrev s_first_by_pairs : Stmt := topS 28
theorem sc_first_by_pairs : FnScope ["one", "other", "day", "best", "others", "here", "there", "found", "at"] ["one", "other", "day"] (defScope s_first_by_pairs) := ⟨rfl, rfl, rfl, by decide +kernel, rfl, by decide +kernel, by decide +kernel⟩
abbrev s_ones : Stmt := topS 23
theorem sc_ones : FnScope ["bits", "many", "part"] ["bits"] (defScope s_ones) := ⟨rfl, rfl, rfl, by decide +kernel, rfl, by decide +kernel, by decide +kernel⟩
abbrev s_allowed : Stmt := topS 13
theorem sc_allowed : FnScope ["size"] ["size"] (defScope s_allowed) := ⟨rfl, rfl, rfl, by decide +kernel, rfl, by decide +kernel, by decide +kernel⟩
abbrev s_common_size : Stmt := topS 16
theorem sc_common_size : FnScope ["one", "other", "size"] ["one", "other"] (defScope s_common_size) := ⟨rfl, rfl, rfl, by decide +kernel, rfl, by decide +kernel, by decide +kernel⟩
abbrev s_stretched : Stmt := topS 15
theorem sc_stretched : FnScope ["turn", "size", "bits", "have", "more"] ["turn", "size"] (defScope s_stretched) := ⟨rfl, rfl, rfl, by decide +kernel, rfl, by decide +kernel, by decide +kernel⟩
abbrev s_both : Stmt := topS 17
theorem sc_both : FnScope ["one", "other", "size"] ["one", "other"] (defScope s_both) := ⟨rfl, rfl, rfl, by decide +kernel, rfl, by decide +kernel, by decide +kernel⟩
abbrev s_meeting : Stmt := topS 29
theorem sc_meeting : FnScope ["one", "other", "day", "shared", "here", "there", "whole"] ["one", "other", "day"] (defScope s_meeting) := ⟨rfl, rfl, rfl, by decide +kernel, rfl, by decide +kernel, by decide +kernel⟩
abbrev s_other_days : Stmt := topS 18
theorem sc_other_days : FnScope ["turn"] ["turn"] (defScope s_other_days) := ⟨rfl, rfl, rfl, by decide +kernel, rfl, by decide +kernel, by decide +kernel⟩
abbrev s_within : Stmt := topS 30
theorem sc_within : FnScope ["one", "other", "day", "found"] ["one", "other", "day"] (defScope s_within) := ⟨rfl, rfl, rfl, by decide +kernel, rfl, by decide +kernel, by decide +kernel⟩
abbrev s_Ltold : Stmt := topS 37
theorem sc_Ltold : FnScope ["_law_inner", "_law_one", "_law_other", "_law_day", "_law_found", "_law_told_here", "e"] ["_law_inner", "_law_one", "_law_other", "_law_day"] (defScope s_Ltold) := ⟨rfl, rfl, rfl, by decide +kernel, rfl, by decide +kernel, by decide +kernel⟩
abbrev s_law : Stmt := topS 38
theorem sc_law : FnScope ["_law_script", "_law_sizes_here", "_law_counts_here", "_law_here", "_law_there", "_law_day", "_law_many", "_law_one", "_law_other", "_law_whole", "_law_shared", "_law_rests", "_law_meets", "_law_due"] ["_law_script"] (defScope s_law) := ⟨rfl, rfl, rfl, by decide +kernel, rfl, by decide +kernel, by decide +kernel⟩
set_option genSizeOf false in
set_option genSizeOfSpec false in
set_option genInjectivity false in
structure Txt (K : PySem.W.Frag) (mg : Str → Option Value) where
  a_Lsizes : Addr
  fd_Lsizes : FuncData
  F_Lsizes : Fun K "_law_sizes" "_law_sizes" s_Lsizes a_Lsizes fd_Lsizes
  g_Lsizes : mg "_law_sizes" = some (.ref a_Lsizes)
  b_Lsizes : Binds K fd_Lsizes ["_law_cell"] []
  a_Lcounts : Addr
  fd_Lcounts : FuncData
  F_Lcounts : Fun K "_law_counts" "_law_counts" s_Lcounts a_Lcounts fd_Lcounts
  g_Lcounts : mg "_law_counts" = some (.ref a_Lcounts)
  b_Lcounts : Binds K fd_Lcounts ["_law_cell"] []
  a_Ldays : Addr
  fd_Ldays : FuncData
  F_Ldays : Fun K "_law_days" "_law_days" s_Ldays a_Ldays fd_Ldays
  g_Ldays : mg "_law_days" = some (.ref a_Ldays)
  b_Ldays : Binds K fd_Ldays ["_law_cell", "_law_size", "_law_many"] []
  a_Lround : Addr
  fd_Lround : FuncData
  F_Lround : Fun K "_law_round" "_law_round" s_Lround a_Lround fd_Lround
  g_Lround : mg "_law_round" = some (.ref a_Lround)
  b_Lround : Binds K fd_Lround ["_law_days_here", "_law_size"] []
  a_sized : Addr
  fd_sized : FuncData
  F_sized : Fun K "sized" "sized" s_sized a_sized fd_sized
  g_sized : mg "sized" = some (.ref a_sized)
  b_sized : Binds K fd_sized ["size"] []
  a_divisor : Addr
  fd_divisor : FuncData
  F_divisor : Fun K "divisor" "divisor" s_divisor a_divisor fd_divisor
  g_divisor : mg "divisor" = some (.ref a_divisor)
  b_divisor : Binds K fd_divisor ["one", "other"] []
  a_common : Addr
  fd_common : FuncData
  F_common : Fun K "common" "common" s_common a_common fd_common
  g_common : mg "common" = some (.ref a_common)
  b_common : Binds K fd_common ["one", "other"] []
  a_Lcell_at : Addr
  fd_Lcell_at : FuncData
  F_Lcell_at : Fun K "_law_cell_at" "_law_cell_at" s_Lcell_at a_Lcell_at fd_Lcell_at
  g_Lcell_at : mg "_law_cell_at" = some (.ref a_Lcell_at)
  b_Lcell_at : Binds K fd_Lcell_at ["_law_script", "_law_k"] []
  a_TooLong_init : Addr
  fd_TooLong_init : FuncData
  F_TooLong_init : Fun K "__init__" "TooLong.__init__" s_TooLong_init a_TooLong_init fd_TooLong_init
  b_TooLong_init : Binds K fd_TooLong_init ["self", "needed"] []
  a_mask : Addr
  fd_mask : FuncData
  F_mask : Fun K "mask" "mask" s_mask a_mask fd_mask
  g_mask : mg "mask" = some (.ref a_mask)
  b_mask : Binds K fd_mask ["size"] []
  a_folded : Addr
  fd_folded : FuncData
  F_folded : Fun K "folded" "folded" s_folded a_folded fd_folded
  g_folded : mg "folded" = some (.ref a_folded)
  b_folded : Binds K fd_folded ["turn", "size"] []
  a_later : Addr
  fd_later : FuncData
  F_later : Fun K "later" "later" s_later a_later fd_later
  g_later : mg "later" = some (.ref a_later)
  b_later : Binds K fd_later ["turn", "number"] []
  a_next_day : Addr
  fd_next_day : FuncData
  F_next_day : Fun K "next_day" "next_day" s_next_day a_next_day fd_next_day
  g_next_day : mg "next_day" = some (.ref a_next_day)
  b_next_day : Binds K fd_next_day ["turn", "day"] []
  a_days_of : Addr
  fd_days_of : FuncData
  F_days_of : Fun K "days_of" "days_of" s_days_of a_days_of fd_days_of
  g_days_of : mg "days_of" = some (.ref a_days_of)
  b_days_of : Binds K fd_days_of ["turn"] []
  a_equation : Addr
  fd_equation : FuncData
  F_equation : Fun K "equation" "equation" s_equation a_equation fd_equation
  g_equation : mg "equation" = some (.ref a_equation)
  b_equation : Binds K fd_equation ["one", "other"] []
  a_met : Addr
  fd_met : FuncData
  F_met : Fun K "met" "met" s_met a_met fd_met
  g_met : mg "met" = some (.ref a_met)
  b_met : Binds K fd_met ["rest", "size", "other_rest", "other_size"] []
  a_ahead : Addr
  fd_ahead : FuncData
  F_ahead : Fun K "ahead" "ahead" s_ahead a_ahead fd_ahead
  g_ahead : mg "ahead" = some (.ref a_ahead)
  b_ahead : Binds K fd_ahead ["rest", "size", "day"] []
  a_first_by_pairs : Addr
  fd_first_by_pairs : FuncData
  F_first_by_pairs : Fun K "first_by_pairs" "first_by_pairs" s_first_by_pairs a_first_by_pairs fd_first_by_pairs
  g_first_by_pairs : mg "first_by_pairs" = some (.ref a_first_by_pairs)
  b_first_by_pairs : Binds K fd_first_by_pairs ["one", "other", "day"] []
  a_ones : Addr
  fd_ones : FuncData
  F_ones : Fun K "ones" "ones" s_ones a_ones fd_ones
  g_ones : mg "ones" = some (.ref a_ones)
  b_ones : Binds K fd_ones ["bits"] []
  a_allowed : Addr
  fd_allowed : FuncData
  F_allowed : Fun K "allowed" "allowed" s_allowed a_allowed fd_allowed
  g_allowed : mg "allowed" = some (.ref a_allowed)
  b_allowed : Binds K fd_allowed ["size"] []
  a_common_size : Addr
  fd_common_size : FuncData
  F_common_size : Fun K "common_size" "common_size" s_common_size a_common_size fd_common_size
  g_common_size : mg "common_size" = some (.ref a_common_size)
  b_common_size : Binds K fd_common_size ["one", "other"] []
  a_stretched : Addr
  fd_stretched : FuncData
  F_stretched : Fun K "stretched" "stretched" s_stretched a_stretched fd_stretched
  g_stretched : mg "stretched" = some (.ref a_stretched)
  b_stretched : Binds K fd_stretched ["turn", "size"] []
  a_both : Addr
  fd_both : FuncData
  F_both : Fun K "both" "both" s_both a_both fd_both
  g_both : mg "both" = some (.ref a_both)
  b_both : Binds K fd_both ["one", "other"] []
  a_meeting : Addr
  fd_meeting : FuncData
  F_meeting : Fun K "meeting" "meeting" s_meeting a_meeting fd_meeting
  g_meeting : mg "meeting" = some (.ref a_meeting)
  b_meeting : Binds K fd_meeting ["one", "other", "day"] []
  a_other_days : Addr
  fd_other_days : FuncData
  F_other_days : Fun K "other_days" "other_days" s_other_days a_other_days fd_other_days
  g_other_days : mg "other_days" = some (.ref a_other_days)
  b_other_days : Binds K fd_other_days ["turn"] []
  a_within : Addr
  fd_within : FuncData
  F_within : Fun K "within" "within" s_within a_within fd_within
  g_within : mg "within" = some (.ref a_within)
  b_within : Binds K fd_within ["one", "other", "day"] []
  a_Ltold : Addr
  fd_Ltold : FuncData
  F_Ltold : Fun K "_law_told" "_law_told" s_Ltold a_Ltold fd_Ltold
  g_Ltold : mg "_law_told" = some (.ref a_Ltold)
  b_Ltold : Binds K fd_Ltold ["_law_inner", "_law_one", "_law_other", "_law_day"] []
  a_law : Addr
  fd_law : FuncData
  F_law : Fun K "law" "law" s_law a_law fd_law
  g_law : mg "law" = some (.ref a_law)
  b_law : Binds K fd_law ["_law_script"] []
  t_CHUNK : Tok
  c_CHUNK : mg "CHUNK" = some (.int 60 t_CHUNK)
  t_LIMIT : Tok
  c_LIMIT : mg "LIMIT" = some (.int 150000 t_LIMIT)
  t_PAIRS : Tok
  c_PAIRS : mg "PAIRS" = some (.int 1000 t_PAIRS)
  n_abs : mg "abs" = none
  n_isinstance : mg "isinstance" = none
  n_len : mg "len" = none
  n_min : mg "min" = none
  n_range : mg "range" = none
  n_set : mg "set" = none
  n_tuple : mg "tuple" = none
  C_FeastError : Addr
  gc_FeastError : mg "FeastError" = some (.ref C_FeastError)
  kc_FeastError : PySem.W.keepIn K (.ref C_FeastError) = true
  bc_FeastError : PySem.W.subIn K (.ref C_FeastError) (.type "BaseException") = some true
  tc_FeastError : PySem.W.typeIn K (.ref C_FeastError) = some (.type "type")
  ic_FeastError : PySem.W.isClsIn K C_FeastError = true
  sc_FeastError : PySem.W.subIn K (.ref C_FeastError) (.ref C_FeastError) = some true
  C_TooLong : Addr
  gc_TooLong : mg "TooLong" = some (.ref C_TooLong)
  kc_TooLong : PySem.W.keepIn K (.ref C_TooLong) = true
  bc_TooLong : PySem.W.subIn K (.ref C_TooLong) (.type "BaseException") = some true
  tc_TooLong : PySem.W.typeIn K (.ref C_TooLong) = some (.type "type")
  ic_TooLong : PySem.W.isClsIn K C_TooLong = true
  sc_TooLong : PySem.W.subIn K (.ref C_TooLong) (.ref C_TooLong) = some true
  sb_TooLong_FeastError : PySem.W.subIn K (.ref C_TooLong) (.ref C_FeastError) = some true
  xc_TooLong : ExcC K C_TooLong
  sv_TooLong : PySem.W.subIn K (.ref C_TooLong) (.type "ValueError") = some true
  in_TooLong_init : PySem.W.findIn K (.ref C_TooLong) "__init__" = some (some (.ref a_TooLong_init))
  ti_TooLong_init : PySem.W.typeIn K (.ref a_TooLong_init) = some (.type "function")
  xf_TooLong : XfC K C_TooLong
  no_TooLong_needed : PySem.W.findIn K (.ref C_TooLong) "needed" = some none
  ox_TooLong : OexC K C_TooLong
  cr_FeastError : ClX.CRead K C_FeastError (.type "type")
  vi_FeastError : PySem.W.findCls K (.ref C_FeastError) (.type "type") "__init__" = some (.val (.builtin "ValueError.__init__"))
section
variable {P : Program} {w : World} {K : PySem.W.Frag} {mg : Str → Option Value} {base : Heap}

/-! ### _law_sizes -/
def sp_Lsizes (K : PySem.W.Frag) : Sp := fun vs H Q _ => ∃ c : Int, vs = [.int c] ∧ Sm 1048576 c ∧ ∀ (p : Addr) (H' : Hp) (n m : Nat), Same H H' → H' p = some (.tup [.int (n : Int), .int (m : Int)]) → 300 ≤ n → n ≤ 1300 → 380 ≤ m → m ≤ 1300 → Q (.ref p) H'
theorem ok_Lsizes (T : Txt K mg) : FnOk P w K mg base CX0 1 T.a_Lsizes T.fd_Lsizes ["_law_cell"] (sp_Lsizes K) := by
  refine T.F_Lsizes.ok sc_Lsizes (fun vs H Q E h => ?_) (fun cdv A outer s H vs Q E hr h => ?_)
  · obtain ⟨_, rfl, _⟩ := h; rfl
  · obtain ⟨c, rfl, sc, q⟩ := h
    have hu := hr.units
    have q : ∀ (p : Addr) (H' : Hp) (n m : Int), Same H H' → H' p = some (.tup [.int n, .int m]) → 300 ≤ n → n ≤ 1300 → 380 ≤ m → m ≤ 1300 → Q (.ref p) H' := fun p H' n m s t h1 h2 h3 h4 => by
      refine q p H' n.toNat m.toNat s ?_ (by omega) (by omega) (by omega) (by omega)
      rw [show ((n.toNat : Nat) : Int) = n by omega, show ((m.toNat : Nat) : Int) = m by omega]
      exact t
    refine ⟨_, (pss_cons (ps_set (i := 1) sc_Lsizes.nd rfl (Or.inl rfl) (pe_op op_addA pe_int (pe_op op_mod (pe_op op_fdivW (pv 0) pe_int) pe_int)))
        (pss_cons (ps_if (pt_cmpR (kb_eq K (hu := hu)) (pe_op op_mod (pv 0) pe_int) pe_int (nomark _)) (pss_one (ps_ret (pe_tup (pa_cons (pe_op op_mulX pe_int (pe_op op_addA pe_int (pe_op op_mod (pe_op op_fdivW (pv 0) pe_int) pe_int))) (pa_cons (pe_op op_mulX pe_int (pe_op op_addA pe_int (pe_op op_mod (pe_op op_fdivW (pv 0) pe_int) pe_int))) pa_nil))))) pss_nil)
        (pss_cons (ps_if (pt_cmpR (kb_eq K (hu := hu)) (pe_op op_mod (pv 0) pe_int) pe_int (nomark _)) (pss_one (ps_ret (pe_tup (pa_cons (pv 1) (pa_cons (pe_op op_mulX (pv 1) (pe_op op_addA pe_int (pe_op op_mod (pe_op op_fdivW (pv 0) pe_int) pe_int))) pa_nil))))) pss_nil)
        (pss_one (ps_ret (pe_tup (pa_cons (pv 1) (pa_cons (pe_op op_addA (pv 1) pe_int) pa_nil)))))))), ?_⟩
    walk_at "go"
    have hb : ∀ k : Int, 1 ≤ k → k ≤ 3 → 380 ≤ (380 + c / 4 % 40) * k ∧ (380 + c / 4 % 40) * k ≤ 1300 := fun k h1 h2 => by
      have := mul_bd (x := 380 + c / 4 % 40) (k := k) (X := 419) (Y := 3) (by omega) (by omega) h1 h2
      have h3 : (380 + c / 4 % 40) * 1 ≤ (380 + c / 4 % 40) * k := Int.mul_le_mul_of_nonneg_left h1 (by omega)
      omega
    have hb2 := hb (1 + c / 120 % 3) (by omega) (by omega)
    generalize hsm : 380 + c / 4 % 40 = sm at *
    with_reducible apply k_seqI
    walk_at "go"
    refine if_dec (fun h => ?_) (fun h => ?_)
    · walk_at "go"
      rename_i p H' hn s t
      exact q p H' _ _ s t (by omega) (by omega) (by omega) (by omega)
    walk_at "go"
    with_reducible apply k_seqI
    walk_at "go"
    refine if_dec (fun h => ?_) (fun h => ?_)
    · walk_at "go"
      rename_i p H' hn s t
      exact q p H' _ _ s t (by omega) (by omega) (by omega) (by omega)
    walk_at "go"
    rename_i p H' hn s t
    exact q p H' _ _ s t (by omega) (by omega) (by omega) (by omega)
theorem k_Lsizes {K : PySem.W.Frag} {H : Hp} {Q : VK} {E : XK} {c : Int} (sc : Sm 1048576 c) (q : ∀ (p : Addr) (H' : Hp) (n m : Nat), Same H H' → H' p = some (.tup [.int (n : Int), .int (m : Int)]) → 300 ≤ n → n ≤ 1300 → 380 ≤ m → m ≤ 1300 → Q (.ref p) H') : sp_Lsizes K [.int c] H Q E := ⟨c, rfl, sc, q⟩

/-! ### _law_counts -/
def sp_Lcounts (K : PySem.W.Frag) : Sp := fun vs H Q _ => ∃ c : Int, vs = [.int c] ∧ Sm 1048576 c ∧ ∀ (p : Addr) (H' : Hp) (n m : Nat), Same H H' → H' p = some (.tup [.int (n : Int), .int (m : Int)]) → n ≤ 11 → m ≤ 126 → Q (.ref p) H'
theorem ok_Lcounts (T : Txt K mg) : FnOk P w K mg base CX0 1 T.a_Lcounts T.fd_Lcounts ["_law_cell"] (sp_Lcounts K) := by
  refine T.F_Lcounts.ok sc_Lcounts (fun vs H Q E h => ?_) (fun cdv A outer s H vs Q E hr h => ?_)
  · obtain ⟨_, rfl, _⟩ := h; rfl
  · obtain ⟨c, rfl, sc, q⟩ := h
    have hu := hr.units
    have q : ∀ (p : Addr) (H' : Hp) (n m : Int), Same H H' → H' p = some (.tup [.int n, .int m]) → 0 ≤ n → n ≤ 11 → 0 ≤ m → m ≤ 126 → Q (.ref p) H' := fun p H' n m s t h1 h2 h3 h4 => by
      refine q p H' n.toNat m.toNat s ?_ (by omega) (by omega)
      rw [show ((n.toNat : Nat) : Int) = n by omega, show ((m.toNat : Nat) : Int) = m by omega]
      exact t
    refine ⟨_, (pss_cons (ps_if (pt_cmpR (kb_eq K (hu := hu)) (pe_op op_mod (pv 0) pe_int) pe_int (nomark _)) (pss_one (ps_ret (pe_tup (pa_cons pe_int (pa_cons pe_int pa_nil))))) pss_nil)
        (pss_cons (ps_if (pt_cmpR (kb_eq K (hu := hu)) (pe_op op_mod (pv 0) pe_int) pe_int (nomark _)) (pss_one (ps_ret (pe_tup (pa_cons pe_int (pa_cons pe_int pa_nil))))) pss_nil)
        (pss_cons (ps_if (pt_cmpR (kb_eq K (hu := hu)) (pe_op op_mod (pv 0) pe_int) pe_int (nomark _)) (pss_one (ps_ret (pe_tup (pa_cons pe_int (pa_cons pe_int pa_nil))))) pss_nil)
        (pss_cons (ps_if (pt_cmpR (kb_eq K (hu := hu)) (pe_op op_mod (pv 0) pe_int) pe_int (nomark _)) (pss_one (ps_ret (pe_tup (pa_cons (pe_op op_addA pe_int (pe_op op_mod (pe_op op_fdivW (pv 0) pe_int) pe_int)) (pa_cons pe_int pa_nil))))) pss_nil)
        (pss_one (ps_ret (pe_tup (pa_cons (pe_op op_mod (pe_op op_fdivW (pv 0) pe_int) pe_int) (pa_cons (pe_op op_mod (pe_op op_fdivW (pv 0) pe_int) pe_int) pa_nil))))))))), ?_⟩
    walk_at "go"
    with_reducible apply k_seqI
    walk_at "go"
    refine if_dec (fun h => ?_) (fun h => ?_)
    · walk_at "go"
      rename_i p H' hn s t
      exact q p H' _ _ s t (by omega) (by omega) (by omega) (by omega)
    walk_at "go"
    with_reducible apply k_seqI
    walk_at "go"
    refine if_dec (fun h => ?_) (fun h => ?_)
    · walk_at "go"
      rename_i p H' hn s t
      exact q p H' _ _ s t (by omega) (by omega) (by omega) (by omega)
    walk_at "go"
    with_reducible apply k_seqI
    walk_at "go"
    refine if_dec (fun h => ?_) (fun h => ?_)
    · walk_at "go"
      rename_i p H' hn s t
      exact q p H' _ _ s t (by omega) (by omega) (by omega) (by omega)
    walk_at "go"
    with_reducible apply k_seqI
    walk_at "go"
    refine if_dec (fun h => ?_) (fun h => ?_)
    · walk_at "go"
      rename_i p H' hn s t
      exact q p H' _ _ s t (by omega) (by omega) (by omega) (by omega)
    walk_at "go"
    rename_i p H' hn s t
    exact q p H' _ _ s t (by omega) (by omega) (by omega) (by omega)
theorem k_Lcounts {K : PySem.W.Frag} {H : Hp} {Q : VK} {E : XK} {c : Int} (sc : Sm 1048576 c) (q : ∀ (p : Addr) (H' : Hp) (n m : Nat), Same H H' → H' p = some (.tup [.int (n : Int), .int (m : Int)]) → n ≤ 11 → m ≤ 126 → Q (.ref p) H') : sp_Lcounts K [.int c] H Q E := ⟨c, rfl, sc, q⟩

/-! ### _law_days -/
def sp_Ldays (K : PySem.W.Frag) : Sp := fun vs H Q _ => ∃ (c : Int) (n m : Nat), vs = [.int c, .int (n : Int), .int (m : Int)] ∧ Sm 1048576 c ∧ 3 * m < n + 3 ∧ 1 ≤ n ∧ n ≤ 150000 ∧ m ≤ 1000 ∧
  ∀ (p : Addr) (H' : Hp) (l : List Int), Same H H' → H p = none → H' p = some (.lst (l.map V.int)) → l.length = m → l.Nodup → (∀ x ∈ l, 0 ≤ x ∧ x < n) → Q (.ref p) H'
theorem ok_Ldays (T : Txt K mg) : FnOk P w K mg base CX0 1 T.a_Ldays T.fd_Ldays ["_law_cell", "_law_size", "_law_many"] (sp_Ldays K) := by
  refine T.F_Ldays.ok sc_Ldays (fun vs H Q E h => ?_) (fun cdv A outer s H vs Q E hr h => ?_)
  · obtain ⟨_, _, _, rfl, _⟩ := h; rfl
  · obtain ⟨c, n, m, rfl, sc, hnm, hn, hn2, hm, q⟩ := h
    have hu := hr.units
    refine ⟨_, (pss_cons (ps_set (i := 3) sc_Ldays.nd rfl (Or.inr rfl) (pe_op op_addA pe_int (pe_op op_mod (pv 0) pe_int)))
        (pss_one (ps_ret (pe_lc (own := [("_law_k", 4)]) (g := gName 4) (tt := tYes) rfl sc_Ldays.nd (pi_range1 (by rfl) T.n_range (pa_cons (pv 2) pa_nil)) (blkOk_by (N := ["_law_cell", "_law_size", "_law_many", "_law_step", "_law_k"]) (sc := defScope s_Ldays) (by decide +kernel)) (fun _ _ _ _ _ => pg_name (i := 4) sc_Ldays.nd rfl (Or.inl rfl)) (fun _ _ _ _ _ => pts_nil) (fun _ _ _ _ _ => (pe_op op_mod (pe_op op_addA (pe_op op_fdivW (pv 0) pe_int) (pe_op op_mulX (pv 3) (pv 4))) (pv 1))))))), ?_⟩
    have s0 := Int.emod_nonneg c (show (3 : Int) ≠ 0 by decide)
    have s1 := Int.emod_lt_of_pos c (show (0 : Int) < 3 by decide)
    walk_at "go"
    rw [Int.toNat_natCast]
    refine k_lcr (((List.range m).map fun k : Nat => (c / 3 + (1 + c % 3) * (k : Int)) % (n : Int)).map V.int) (by simp) (by omega) (fun i v H2 R hv s2 hR => ?_) (fun D H2 hD s2 t2 => ?_)
    · have hi : i < m := by
        have := (List.getElem?_eq_some_iff.mp hv).1
        simpa using this
      rw [List.getElem?_map, List.getElem?_map, List.getElem?_range hi] at hv
      cases hv
      walk_at "go"
      have := hR H2 (Same.refl _)
      rw [show (0 : Int) + (i : Int) = (i : Int) by omega]
      exact this
    · walk_at "go"
      refine q D H2 _ s2 hD t2 (by simp) (nodup_step (by omega) ?_) (fun x hx => ?_)
      · have h1 : (1 + c % 3) * ((m : Int) - 1) ≤ 3 * ((m : Int) - 1) ∨ m = 0 := by
          by_cases z : m = 0
          · exact .inr z
          · exact .inl (Int.mul_le_mul_of_nonneg_right (by omega) (by omega))
        rcases h1 with h1 | h1
        · omega
        · subst h1
          have : (1 + c % 3) * (((0 : Nat) : Int) - 1) = -(1 + c % 3) := by rw [show (((0 : Nat) : Int) - 1) = -1 from rfl, Int.mul_neg, Int.mul_one]
          omega
      · obtain ⟨k, _, rfl⟩ := List.mem_map.mp hx
        exact ⟨Int.emod_nonneg _ (by omega), Int.emod_lt_of_pos _ (by omega)⟩
theorem k_Ldays {K : PySem.W.Frag} {H : Hp} {Q : VK} {E : XK} {c : Int} {n m : Nat} (sc : Sm 1048576 c) (hnm : 3 * m < n + 3) (hn : 1 ≤ n) (hn2 : n ≤ 150000) (hm : m ≤ 1000)
  (q : ∀ (p : Addr) (H' : Hp) (l : List Int), Same H H' → H p = none → H' p = some (.lst (l.map V.int)) → l.length = m → l.Nodup → (∀ x ∈ l, 0 ≤ x ∧ x < n) → Q (.ref p) H') : sp_Ldays K [.int c, .int (n : Int), .int (m : Int)] H Q E := ⟨c, n, m, rfl, sc, hnm, hn, hn2, hm, q⟩

/-! ### _law_round -/
def sp_Lround (K : PySem.W.Frag) : Sp := fun vs H Q _ => ∃ (p : Addr) (l : List Int) (n : Nat), vs = [.ref p, .int (n : Int)] ∧ SqL K H p (l.map V.int) ∧ l.Nodup ∧ (∀ x ∈ l, 0 ≤ x ∧ x < n) ∧ 1 ≤ n ∧ n ≤ 150000 ∧ l.length ≤ 4000 ∧
  ∀ (a : Addr) (H' : Hp) (b : Nat), Same H H' → RT K H' a n b → (∀ e : Int, hold n b e = true ↔ e % (n : Int) ∈ l) → pop b = l.length → Q (.ref a) H'
theorem ok_Lround (T : Txt K mg) : FnOk P w K mg base CX0 1 T.a_Lround T.fd_Lround ["_law_days_here", "_law_size"] (sp_Lround K) := by
  refine T.F_Lround.ok sc_Lround (fun vs H Q E h => ?_) (fun cdv A outer s H vs Q E hr h => ?_)
  · obtain ⟨_, _, _, rfl, _⟩ := h; rfl
  · obtain ⟨p, l, n, rfl, hp, hnd, hl, hn, hn2, hll, q⟩ := h
    have hu := hr.units
    refine ⟨_, (pss_cons (ps_set (i := 2) sc_Lround.nd rfl (Or.inl rfl) pe_int)
        (pss_cons (ps_for PassesOwn.never rfl (pi_list (pv 0)) (pg_name (i := 3) sc_Lround.nd rfl (Or.inl rfl)) (pss_one (ps_set (i := 2) sc_Lround.nd rfl (Or.inl rfl) (pe_op op_or (pv 2) (pe_op op_shlW pe_int (pv 3))))))
        (pss_one (ps_ret (pe_tup (pa_cons (pv 1) (pa_cons (pv 2) pa_nil))))))), ?_⟩
    walk_at "go"
    with_reducible apply k_seqF
    with_reducible apply k_for
    walk_at "go"
    refine for_list (xs := l.map V.int) (fun i σ' H' => ∃ (b : Nat) (v : Option V), σ' = [some (.ref p), some (.int (n : Int)), some (.int (b : Int)), v] ∧ H = H' ∧ b < 2 ^ n ∧ pop b = i ∧ ∀ j : Nat, b.testBit j = true ↔ (j : Int) ∈ l.take i) ⟨0, none, rfl, rfl, Nat.two_pow_pos _, pop_zero, fun j => by simp⟩ (fun i σ' H' _ hW => ?_) (fun i x σ' H' hx hW => ?_) (fun σ' H' hW => ?_)
    · obtain ⟨_, _, _, rfl, _⟩ := hW; exact hp
    · obtain ⟨b, v, rfl, rfl, hb, hpb, hj⟩ := hW
      rw [List.getElem?_map] at hx
      obtain ⟨y, hy, rfl⟩ := Option.map_eq_some_iff.mp hx
      have hyl := hl y (List.mem_of_getElem? hy)
      have hi := (List.getElem?_eq_some_iff.mp hy).1
      have sb : Sm 400000 (b : Int) := sm_mono (sm_nat hb) (by omega)
      walk_at "go"
      have hne : b.testBit y.toNat = false := by
        cases hh : b.testBit y.toNat with
        | false => rfl
        | true =>
          have := (hj y.toNat).mp hh
          rw [show ((y.toNat : Nat) : Int) = y by omega] at this
          obtain ⟨k, hk⟩ := List.mem_iff_getElem?.mp this
          rw [List.getElem?_take] at hk
          by_cases hki : k < i
          · rw [if_pos hki] at hk
            obtain ⟨hkl, ek⟩ := List.getElem?_eq_some_iff.mp hk
            obtain ⟨_, ey⟩ := List.getElem?_eq_some_iff.mp hy
            exact absurd (ek.trans ey.symm) (List.pairwise_iff_getElem.mp hnd k i hkl hi hki)
          · rw [if_neg hki] at hk; cases hk
      refine ⟨b ||| 2 ^ y.toNat, _, rfl, rfl, Nat.or_lt_two_pow hb (Nat.pow_lt_pow_right (by decide) (by omega)), by rw [pop_or hb (by omega) hne, hpb], fun j => ?_⟩
      rw [Nat.testBit_or, Nat.testBit_two_pow, Bool.or_eq_true, hj, decide_eq_true_iff, List.take_succ, hy]
      simp only [Option.toList, List.mem_append, List.mem_singleton]
      constructor
      · rintro (h | h)
        · exact .inl h
        · exact .inr (by omega)
      · rintro (h | h)
        · exact .inl h
        · exact .inr (by omega)
    · obtain ⟨b, v, rfl, rfl, hb, hpb, hj⟩ := hW
      rw [List.length_map] at hpb hj
      rw [List.take_of_length_le (Nat.le_refl _)] at hj
      walk_at "go"
      rename_i p3 H3 hn3 s3 t3
      refine q p3 H3 b s3 ⟨SqT.of t3, hn, hn2, hb⟩ (fun e => ?_) hpb
      obtain ⟨g1, g2⟩ := mod_lt' hn e
      show b.testBit _ = true ↔ _
      rw [hj]
      rw [show (((e % (n : Int)).toNat : Nat) : Int) = e % (n : Int) by omega]
theorem k_Lround {K : PySem.W.Frag} {H : Hp} {Q : VK} {E : XK} {p : Addr} {l : List Int} {n : Nat} (hp : SqL K H p (l.map V.int)) (hnd : l.Nodup) (hl : ∀ x ∈ l, 0 ≤ x ∧ x < n) (hn : 1 ≤ n) (hn2 : n ≤ 150000) (hll : l.length ≤ 4000)
  (q : ∀ (a : Addr) (H' : Hp) (b : Nat), Same H H' → RT K H' a n b → (∀ e : Int, hold n b e = true ↔ e % (n : Int) ∈ l) → pop b = l.length → Q (.ref a) H') : sp_Lround K [.ref p, .int (n : Int)] H Q E := ⟨p, l, n, rfl, hp, hnd, hl, hn, hn2, hll, q⟩

/-! ### sized -/
def sp_sized (K : PySem.W.Frag) : Sp := fun vs H Q _ => ∃ i, vs = [.int i] ∧ 1 ≤ i ∧ Q .non H
theorem ok_sized (T : Txt K mg) : FnOk P w K mg base CX0 1 T.a_sized T.fd_sized ["size"] (sp_sized K) := by
  refine T.F_sized.ok sc_sized (fun vs H Q E h => ?_) (fun cdv A outer s H vs Q E hr h => ?_)
  · obtain ⟨i, rfl, _⟩ := h; rfl
  · obtain ⟨i, rfl, h1, q⟩ := h
    refine ⟨_, (pss_one (ps_if (pt_cmpR op_lt (pv 0) pe_int (nomark _)) (pss_one ps_never) pss_nil)), ?_⟩
    walk_at "if"; walk_at "go"; exact q
theorem k_sized {H : Hp} {Q : VK} {E : XK} {i : Int} (h1 : 1 ≤ i) (q : Q .non H) : sp_sized K [.int i] H Q E := ⟨i, rfl, h1, q⟩
local macro_rules | `(tactic| walk_at "st") => `(tactic| first | ((with_reducible apply k_sized); (· omega)) | fail)

/-! ### divisor -/
def sp_divisor (K : PySem.W.Frag) : Sp := fun vs H Q _ => ∃ i j : Int, vs = [.int i, .int j] ∧ Q (.int (Int.gcd i j : Nat)) H
theorem ok_divisor (T : Txt K mg) : FnOk P w K mg base CX0 1 T.a_divisor T.fd_divisor ["one", "other"] (sp_divisor K) := by
  refine T.F_divisor.ok sc_divisor (fun vs H Q E h => ?_) (fun cdv A outer s H vs Q E hr h => ?_)
  · obtain ⟨_, _, rfl, _⟩ := h; rfl
  · obtain ⟨i, j, rfl, q⟩ := h
    have hu := hr.units
    refine ⟨_, (pss_cons (ps_set (i := 0) sc_divisor.nd rfl (Or.inl rfl) (pe_callB cb_abs (by rfl) T.n_abs (by decide +kernel) (pa_cons (pv 0) pa_nil)))
        (pss_cons (ps_set (i := 1) sc_divisor.nd rfl (Or.inl rfl) (pe_callB cb_abs (by rfl) T.n_abs (by decide +kernel) (pa_cons (pv 1) pa_nil)))
        (pss_cons (ps_while PassesOwn.never (pt_cmpR (kb_ne K (hu := hu)) (pv 1) pe_int (nomark _)) (pss_one (ps_par rfl sc_divisor.nd (i := 0) (j := 1) rfl rfl (by decide) rfl rfl (pa_cons (pv 1) (pa_cons (pe_op op_mod (pv 0) (pv 1)) pa_nil)) (by rfl))))
        (pss_one (ps_ret (pv 0)))))), ?_⟩
    walk_at "go"
    apply k_seqW
    refine k_while (fun m σ' H' => ∃ x y : Int, σ' = [some (.int x), some (.int y)] ∧ H = H' ∧ 0 ≤ x ∧ 0 ≤ y ∧ m = y.toNat ∧ Int.gcd x y = Int.gcd i j) _ ⟨_, _, rfl, rfl, abs_nn _, abs_nn _, rfl, gcd_abs i j⟩ ?_
    rintro m _ _ ⟨x, y, rfl, rfl, hx, hy, rfl, hg⟩
    walk_at "go"
    refine if_ndec (fun hbr => ?_) (fun hbr => ?_)
    · apply k_turn
      walk_at "go"
      have h1 := Int.emod_nonneg x hbr
      have h2 := Int.emod_lt_of_pos x (show 0 < y by omega)
      exact ⟨_, by omega, _, _, rfl, rfl, hy, h1, rfl, by rw [gcd_mod]; exact hg⟩
    · walk_at "go"
      rw [← hg, hbr, gcd_zero x hx] at q
      exact q
theorem k_divisor {H : Hp} {Q : VK} {E : XK} {i j : Int} (q : Q (.int (Int.gcd i j : Nat)) H) : sp_divisor K [.int i, .int j] H Q E := ⟨i, j, rfl, q⟩
local macro_rules | `(tactic| walk_at "st") => `(tactic| first | (with_reducible apply k_divisor) | fail)

/-! ### common -/
def sp_common (K : PySem.W.Frag) : Sp := fun vs H Q _ => ∃ i j : Int, vs = [.int i, .int j] ∧ 1 ≤ i ∧ 1 ≤ j ∧ Sm 300 i ∧ Sm 300 j ∧ Q (.int (lcmI i j)) H
theorem ok_common (T : Txt K mg) : FnOk P w K mg base CX0 2 T.a_common T.fd_common ["one", "other"] (sp_common K) := by
  refine T.F_common.ok sc_common (fun vs H Q E h => ?_) (fun cdv A outer s H vs Q E hr h => ?_)
  · obtain ⟨_, _, rfl, _⟩ := h; rfl
  · obtain ⟨i, j, rfl, h1, h2, s1, s2, q⟩ := h
    have g1 := gcd_pos (b := j) h1
    have g2 := gcd_le (b := j) h1
    have sg : Sm 300 ((Int.gcd i j : Nat) : Int) := ⟨Nat.lt_of_le_of_lt (by omega) s1.h⟩
    have sq : Sm 300 (i / ((Int.gcd i j : Nat) : Int)) := ⟨Nat.lt_of_le_of_lt (by
      have := Int.ediv_le_self ((Int.gcd i j : Nat) : Int) (show 0 ≤ i by omega)
      have := Int.ediv_nonneg (show 0 ≤ i by omega) (show (0 : Int) ≤ ((Int.gcd i j : Nat) : Int) by omega)
      omega) s1.h⟩
    refine ⟨_, (pss_cons (ps_expr (pe_call (ok_sized T) (hr.mono (by decide)) (by rfl) T.g_sized T.F_sized.kp T.b_sized .nil pass0 (pa_cons (pv 0) pa_nil)))
        (pss_cons (ps_expr (pe_call (ok_sized T) (hr.mono (by decide)) (by rfl) T.g_sized T.F_sized.kp T.b_sized .nil pass0 (pa_cons (pv 1) pa_nil)))
        (pss_one (ps_ret (pe_op op_mulX (pe_op op_fdivW (pv 0) (pe_call (ok_divisor T) (hr.mono (by decide)) (by rfl) T.g_divisor T.F_divisor.kp T.b_divisor .nil pass0 (pa_cons (pv 0) (pa_cons (pv 1) pa_nil)))) (pv 1)))))), ?_⟩
    walk_at "go"
    refine k_I (sm_div (by omega) sg (by decide) (by decide)) ?_
    walk_at "go"
    exact q
theorem k_common {H : Hp} {Q : VK} {E : XK} {i j : Int} (h1 : 1 ≤ i) (h2 : 1 ≤ j) (s1 : Sm 300 i) (s2 : Sm 300 j) (q : Q (.int (lcmI i j)) H) : sp_common K [.int i, .int j] H Q E := ⟨i, j, rfl, h1, h2, s1, s2, q⟩
theorem sm300 {i : Int} (h : Sm 200 i) : Sm 300 i := sm_mono h (by decide)
local macro_rules | `(tactic| walk_at "st") => `(tactic| first | ((with_reducible apply k_common); (· omega); (· omega); (· first | assumption | exact sm300 (sm41 (by omega) (by omega))); (· first | assumption | exact sm300 (sm41 (by omega) (by omega)))) | fail)

/-! ### _law_cell_at -/
/-- a cell of the script; nought behind its end -/
def sp_Lcell_at (K : PySem.W.Frag) : Sp := fun vs H Q _ => ∃ (a : Addr) (ns : List Int) (k : Int), vs = [.ref a, .int k] ∧ SqL K H a (ns.map V.int) ∧ 0 ≤ k ∧ Q (.int (ns.getD k.toNat 0)) H
theorem ok_Lcell_at (T : Txt K mg) : FnOk P w K mg base CX0 1 T.a_Lcell_at T.fd_Lcell_at ["_law_script", "_law_k"] (sp_Lcell_at K) := by
  refine T.F_Lcell_at.ok sc_Lcell_at (fun vs H Q E h => ?_) (fun cdv A outer s H vs Q E hr h => ?_)
  · obtain ⟨_, _, _, rfl, _⟩ := h; rfl
  · obtain ⟨a, ns, k, rfl, hS, h0, q⟩ := h
    refine ⟨_, (pss_cons (ps_if (pt_cmpR op_lt (pv 1) (pe_callB (kb_len K) (by rfl) T.n_len (by decide +kernel) (pa_cons (pv 0) pa_nil)) (nomark _)) (pss_one (ps_ret (pe_ix (kb_ix K) (pv 0) (pv 1) (fun _ _ => rfl)))) pss_nil)
        (pss_one (ps_ret pe_int))), ?_⟩
    apply k_seqI; walk_at "go"
    refine if_dec (fun hk => ?_) (fun hk => ?_)
    · walk_at "go"
      rw [List.length_map] at hk
      have e : ((ns.map V.int)[k.toNat]?) = some (V.int (ns.getD k.toNat 0)) := by
        rw [List.getElem?_map, List.getElem?_eq_getElem (show k.toNat < ns.length by omega), List.getD_eq_getElem?_getD, List.getElem?_eq_getElem (show k.toNat < ns.length by omega)]
        rfl
      exact k_ixL hS (at_of (show k = ((k.toNat : Nat) : Int) by omega) e) q
    · walk_at "go"
      rw [List.length_map] at hk
      have e : ns.getD k.toNat 0 = 0 := by
        rw [List.getD_eq_getElem?_getD, List.getElem?_eq_none (by omega)]; rfl
      rw [e] at q
      exact q
theorem sm_getD {ns : List Int} {n : Nat} (hb : ∀ z ∈ ns, Builtin.Int.intBits z ≤ n) (k : Nat) : Sm n (ns.getD k 0) := by
  rw [List.getD_eq_getElem?_getD]
  by_cases h : k < ns.length
  · rw [List.getElem?_eq_getElem h]; exact sm_bits (hb _ (List.getElem_mem h))
  · rw [List.getElem?_eq_none (by omega)]; exact ⟨Nat.pow_pos (by decide)⟩
theorem k_cell {H : Hp} {Q : VK} {E : XK} {a : Addr} {ns : List Int} {k : Int} (hb : ∀ z ∈ ns, Builtin.Int.intBits z ≤ 1048576) (hS : SqL K H a (ns.map V.int)) (h0 : 0 ≤ k)
    (q : ∀ c, c = ns.getD k.toNat 0 → Sm 1048576 c → Q (.int c) H) : sp_Lcell_at K [.ref a, .int k] H Q E := ⟨a, ns, k, rfl, hS, h0, q _ rfl (sm_getD hb _)⟩
local macro_rules | `(tactic| walk_at "st") => `(tactic| first | ((with_reducible apply k_cell); (· assumption); (· walk_at "hp"); (· first | decide | omega); intro c hc hm) | fail)

/-! ### TooLong.__init__ -/
abbrev sp_TooLong_init (K : PySem.W.Frag) (T : Txt K mg) : Sp := spTL T.C_TooLong
theorem ok_TooLong_init (T : Txt K mg) : FnOk P w K mg base CX0 1 T.a_TooLong_init T.fd_TooLong_init ["self", "needed"] (sp_TooLong_init K T) := by
  refine T.F_TooLong_init.ok sc_TooLong_init (fun vs H Q E h => ?_) (fun cdv A outer s H vs Q E hr h => ?_)
  · obtain ⟨_, _, rfl, _⟩ := h; rfl
  · obtain ⟨a, m, rfl, ha, q⟩ := h
    refine ⟨_, (pss_cons (ps_expr (pe_xinit rfl T.gc_FeastError T.cr_FeastError T.vi_FeastError (pa_cons (pv 0) (pa_cons pe_str pa_nil))))
        (pss_one (ps_ost (pv 0) (pv 1)))), ?_⟩
    walk_at "go"
    refine k_veI ?_
    walk_at "go"
    refine ⟨a, _, _, rfl, by show 1 ≤ 1000; decide, T.ox_TooLong, ha, ?_⟩
    walk_at "go"
    with_reducible apply k_ost
    walk_at "go"
    exact ⟨a, _, rfl, T.ox_TooLong, T.no_TooLong_needed, .inl ⟨ha, q⟩⟩

/-! ### mask -/
def sp_mask (K : PySem.W.Frag) : Sp := fun vs H Q _ => ∃ k : Int, vs = [.int k] ∧ 0 ≤ k ∧ k ≤ 10000000 ∧ Q (.int (2 ^ k.toNat - 1)) H
theorem ok_mask (T : Txt K mg) : FnOk P w K mg base CX0 1 T.a_mask T.fd_mask ["size"] (sp_mask K) := by
  refine T.F_mask.ok sc_mask (fun vs H Q E h => ?_) (fun cdv A outer s H vs Q E hr h => ?_)
  · obtain ⟨_, rfl, _⟩ := h; rfl
  · obtain ⟨k, rfl, h0, h1, q⟩ := h
    refine ⟨_, (pss_one (ps_ret (pe_op op_sub (pe_op op_shlW pe_int (pv 0)) pe_int))), ?_⟩
    walk_at "go"
    rw [← pow_c]
    exact q
theorem k_mask {H : Hp} {Q : VK} {E : XK} {k : Int} (h0 : 0 ≤ k) (h1 : k ≤ 10000000) (q : Q (.int (2 ^ k.toNat - 1)) H) : sp_mask K [.int k] H Q E := ⟨k, rfl, h0, h1, q⟩
local macro_rules | `(tactic| walk_at "st") => `(tactic| first | ((with_reducible apply k_mask); (· omega); (· omega)) | fail)

/-! ### folded -/
def sp_folded (K : PySem.W.Frag) : Sp := fun vs H Q _ => ∃ (a : Addr) (n b s : Nat), vs = [.ref a, .int (s : Int)] ∧ RT K H a n b ∧ 1 ≤ s ∧ s ∣ n ∧
  ∀ (p : Addr) (H' : Hp), Same H H' → RT K H' p s (foldB s b (n / s)) → Q (.ref p) H'
theorem ok_folded (T : Txt K mg) : FnOk P w K mg base CX0 2 T.a_folded T.fd_folded ["turn", "size"] (sp_folded K) := by
  refine T.F_folded.ok sc_folded (fun vs H Q E h => ?_) (fun cdv A outer s H vs Q E hr h => ?_)
  · obtain ⟨_, _, _, _, rfl, _⟩ := h; rfl
  · obtain ⟨a, n, b, s, rfl, r, hs, hd, q⟩ := h
    have hu := hr.units
    have hn := r.n1
    have hn2 := r.n2
    have ht := r.t
    have hsm := r.sm
    have hsn : s ≤ n := Nat.le_of_dvd hn hd
    have e0 : (n : Int) % (s : Int) = 0 := Int.emod_eq_zero_of_dvd (Int.natCast_dvd_natCast.mpr hd)
    refine ⟨_, (pss_cons (ps_if (PW.pt (pw_or (pt_cmpR op_lt (pv 1) pe_int (nomark _)) (pw_or1 (pt_cmpR (kb_ne K (hu := hu)) (pe_op op_mod (pe_ix (kb_ix K) (pv 0) pe_int (fun _ _ => rfl)) (pv 1)) pe_int (nomark _))))) (pss_one ps_never) pss_nil)
        (pss_cons (ps_set (i := 2) sc_folded.nd rfl (Or.inl rfl) pe_int)
        (pss_cons (ps_set (i := 3) sc_folded.nd rfl (Or.inl rfl) (pe_ix (kb_ix K) (pv 0) pe_int (fun _ _ => rfl)))
        (pss_cons (ps_while PassesOwn.never (pt_cmpR op_gt (pv 3) pe_int (nomark _)) (pss_cons (ps_set (i := 2) sc_folded.nd rfl (Or.inl rfl) (pe_op op_or (pv 2) (pe_op op_and (pv 3) (pe_call (ok_mask T) (hr.mono (by decide)) (by rfl) T.g_mask T.F_mask.kp T.b_mask .nil pass0 (pa_cons (pv 1) pa_nil)))))
        (pss_one (ps_set (i := 3) sc_folded.nd rfl (Or.inl rfl) (pe_op op_shr (pv 3) (pv 1))))))
        (pss_one (ps_ret (pe_tup (pa_cons (pv 1) (pa_cons (pv 2) pa_nil))))))))), ?_⟩
    walk_at "run"
    apply k_seqW
    refine k_while (fun k σ' H' => ∃ (x c : Nat), σ' = [some (.ref a), some (.int (s : Int)), some (.int (c : Int)), some (.int (x : Int))] ∧ H = H' ∧ x < 2 ^ (k * s) ∧ Sm 400000 (x : Int) ∧ c < 2 ^ s ∧ c ||| foldB s x k = foldB s b (n / s)) (n / s)
      ⟨b, 0, rfl, rfl, by rw [Nat.div_mul_cancel hd]; exact r.lt, hsm, Nat.two_pow_pos s, by simp⟩ ?_
    rintro k _ _ ⟨x, c, rfl, rfl, hx, hxs, hc, hf⟩
    walk_at "go"
    refine if_dec (fun hbr => ?_) (fun hbr => ?_)
    · apply k_turn
      walk_at "go"
      cases k with
      | zero => rw [Nat.zero_mul] at hx; omega
      | succ k =>
        refine ⟨k, by omega, _, _, rfl, rfl, ?_, sm_divp hxs, Nat.or_lt_two_pow hc (Nat.mod_lt _ (Nat.two_pow_pos s)), ?_⟩
        · rw [Int.toNat_natCast]
          rw [Nat.add_mul, Nat.one_mul, Nat.pow_add] at hx
          exact Nat.div_lt_of_lt_mul (by rw [Nat.mul_comm]; exact hx)
        · rw [Int.toNat_natCast, Nat.or_assoc]; exact hf
    · have : x = 0 := by omega
      subst this
      rw [fold_zero, Nat.or_zero] at hf
      walk_at "go"
      rename_i p H' _ s3 t3
      rw [hf] at t3
      exact q p H' s3 ⟨SqT.of t3, hs, by omega, fold_lt _ _ _⟩
theorem k_folded {H : Hp} {Q : VK} {E : XK} {a : Addr} {n b s : Nat} (r : RT K H a n b) (hs : 1 ≤ s) (hd : s ∣ n) (q : ∀ (p : Addr) (H' : Hp), Same H H' → RT K H' p s (foldB s b (n / s)) → Q (.ref p) H') : sp_folded K [.ref a, .int (s : Int)] H Q E := ⟨a, n, b, s, rfl, r, hs, hd, q⟩

/-! ### later -/
def sp_later (K : PySem.W.Frag) : Sp := fun vs H Q _ => ∃ (a : Addr) (n b : Nat) (k : Int), vs = [.ref a, .int k] ∧ RT K H a n b ∧
  ∀ (p : Addr) (H' : Hp), Same H H' → RT K H' p n (bitsOf n (fun d => hold n b (d - k))) → Q (.ref p) H'
theorem ok_later (T : Txt K mg) : FnOk P w K mg base CX0 2 T.a_later T.fd_later ["turn", "number"] (sp_later K) := by
  refine T.F_later.ok sc_later (fun vs H Q E h => ?_) (fun cdv A outer s H vs Q E hr h => ?_)
  · obtain ⟨_, _, _, _, rfl, _⟩ := h; rfl
  · obtain ⟨a, n, b, k, rfl, r, q⟩ := h
    have hu := hr.units
    have ht := r.t
    have hn := r.n1
    have hn2 := r.n2
    have hsm := r.sm
    have h1 := Int.emod_nonneg k (show (n : Int) ≠ 0 by omega)
    have h2 := Int.emod_lt_of_pos k (show (0 : Int) < n by omega)
    refine ⟨_, (pss_cons (ps_set (i := 2) sc_later.nd rfl (Or.inl rfl) (pe_ix (kb_ix K) (pv 0) pe_int (fun _ _ => rfl)))
        (pss_cons (ps_set (i := 3) sc_later.nd rfl (Or.inl rfl) (pe_op op_mod (pv 1) (pv 2)))
        (pss_one (ps_ret (pe_tup (pa_cons (pv 2) (pa_cons (pe_op op_and (pe_op op_or (pe_op op_shlW (pe_ix (kb_ix K) (pv 0) pe_int (fun _ _ => rfl)) (pv 3)) (pe_op op_shr (pe_ix (kb_ix K) (pv 0) pe_int (fun _ _ => rfl)) (pe_op op_sub (pv 2) (pv 3)))) (pe_call (ok_mask T) (hr.mono (by decide)) (by rfl) T.g_mask T.F_mask.kp T.b_mask .nil pass0 (pa_cons (pv 2) pa_nil))) pa_nil))))))), ?_⟩
    walk_at "go"
    rename_i p H' _ s3 t3
    rw [Int.toNat_natCast, later_bits hn r.lt] at t3
    exact q p H' s3 ⟨SqT.of t3, hn, hn2, bitsOf_lt _ _⟩
theorem k_later {H : Hp} {Q : VK} {E : XK} {a : Addr} {n b : Nat} {k : Int} (r : RT K H a n b)
    (q : ∀ (p : Addr) (H' : Hp), Same H H' → RT K H' p n (bitsOf n (fun d => hold n b (d - k))) → Q (.ref p) H') : sp_later K [.ref a, .int k] H Q E := ⟨a, n, b, k, rfl, r, q⟩

/-! ### next_day -/
def sp_next_day (K : PySem.W.Frag) : Sp := fun vs H Q _ => ∃ (a : Addr) (n b : Nat) (d : Int), vs = [.ref a, .int d] ∧ RT K H a n b ∧
  ((∀ e, hold n b e = false) → ∀ H', Same H H' → Q .non H') ∧
  (∀ (k : Nat) (H' : Hp), k < n → hold n b (d + k) = true → (∀ j : Nat, j < k → hold n b (d + j) = false) → Same H H' → Q (.int (d + k)) H')
theorem rot_bits {n b : Nat} (hn : 1 ≤ n) (d : Int) (i : Nat) : (bitsOf n (fun e => hold n b (e - d))).testBit i = (decide (i < n) && hold n b ((i : Int) - d)) := tb_bitsOf _ _ _
theorem rot_zero {n b : Nat} (hn : 1 ≤ n) (d : Int) (h : bitsOf n (fun e => hold n b (e - d)) = 0) (e : Int) : hold n b e = false := by
  obtain ⟨h1, h2⟩ := mod_lt' hn (e + d)
  have h3 := rot_bits (b := b) hn d ((e + d) % (n : Int)).toNat
  rw [h, Nat.zero_testBit, decide_eq_true h1, Bool.true_and, h2] at h3
  rw [h3]
  exact hold_eq (by rw [Int.emod_sub_emod, Int.add_sub_cancel])
theorem ok_next_day (T : Txt K mg) : FnOk P w K mg base CX0 3 T.a_next_day T.fd_next_day ["turn", "day"] (sp_next_day K) := by
  refine T.F_next_day.ok sc_next_day (fun vs H Q E h => ?_) (fun cdv A outer s H vs Q E hr h => ?_)
  · obtain ⟨_, _, _, _, rfl, _⟩ := h; rfl
  · obtain ⟨a, n, b, d, rfl, r, q1, q2⟩ := h
    have hu := hr.units
    have hn := r.n1
    refine ⟨_, (pss_cons (ps_set (i := 2) sc_next_day.nd rfl (Or.inl rfl) (pe_ix (kb_ix K) (pe_call (ok_later T) (hr.mono (by decide)) (by rfl) T.g_later T.F_later.kp T.b_later .nil pass0 (pa_cons (pv 0) (pa_cons (pe_un un_neg (pv 1)) pa_nil))) pe_int (fun _ _ => rfl)))
        (pss_cons (ps_if (pt_cmpR (kb_eq K (hu := hu)) (pv 2) pe_int (nomark _)) (pss_one (ps_ret pe_non)) pss_nil)
        (pss_one (ps_ret (pe_op op_sub (pe_op op_addA (pv 1) (pe_bits (pe_op op_and (pv 2) (pe_un un_neg (pv 2))))) pe_int))))), ?_⟩
    walk_at "go"
    refine k_later r fun p H1 s1 r1 => ?_
    have ht := r1.t
    walk_at "go"
    walk_at "if"
    · rename_i hbr
      walk_at "go"
      exact q1 (rot_zero hn (-d) (by omega)) _ s1
    · rename_i hbr
      walk_at "go"
      obtain ⟨k, e1, e2, e3⟩ := low_place (x := bitsOf n (fun e => hold n b (e - -d))) (by omega)
      rw [e1]
      rw [rot_bits hn] at e2
      have hk : k < n := by
        by_cases h : k < n
        · exact h
        · rw [decide_eq_false h] at e2; simp at e2
      have e4 : d + ((k + 1 : Nat) : Int) - 1 = d + k := by omega
      rw [e4]
      refine q2 k _ hk ?_ (fun j hj => ?_) s1
      · rw [decide_eq_true hk, Bool.true_and] at e2
        rw [← e2]; congr 1; omega
      · have := e3 j hj
        rw [rot_bits hn, decide_eq_true (show j < n by omega), Bool.true_and] at this
        rw [← this]; congr 1; omega
theorem k_next_day {H : Hp} {Q : VK} {E : XK} {a : Addr} {n b : Nat} {d : Int} (r : RT K H a n b) (q1 : (∀ e, hold n b e = false) → ∀ H', Same H H' → Q .non H')
  (q2 : ∀ (k : Nat) (H' : Hp), k < n → hold n b (d + k) = true → (∀ j : Nat, j < k → hold n b (d + j) = false) → Same H H' → Q (.int (d + k)) H') : sp_next_day K [.ref a, .int d] H Q E := ⟨a, n, b, d, rfl, r, q1, q2⟩

/-! ### days_of -/
def sp_days_of (K : PySem.W.Frag) : Sp := fun vs H Q _ => ∃ (a : Addr) (n b : Nat), vs = [.ref a] ∧ RT K H a n b ∧
  ∀ (L : Addr) (H' : Hp) (l : List Int), Same H H' → H' L = some (.lst (l.map V.int)) → Row l (hold n b) n → Q (.ref L) H'
theorem ok_days_of (T : Txt K mg) : FnOk P w K mg base CX0 4 T.a_days_of T.fd_days_of ["turn"] (sp_days_of K) := by
  refine T.F_days_of.ok sc_days_of (fun vs H Q E h => ?_) (fun cdv A outer s H vs Q E hr h => ?_)
  · obtain ⟨_, _, _, rfl, _⟩ := h; rfl
  · obtain ⟨a, n, b, rfl, r, q⟩ := h
    have hu := hr.units
    have hn := r.n1
    have hn2 := r.n2
    refine ⟨_, (pss_cons (ps_set (i := 1) sc_days_of.nd rfl (Or.inl rfl) (pe_lst pa_nil))
        (pss_cons (ps_set (i := 2) sc_days_of.nd rfl (Or.inl rfl) (pe_call (ok_next_day T) (hr.mono (by decide)) (by rfl) T.g_next_day T.F_next_day.kp T.b_next_day .nil pass0 (pa_cons (pv 0) (pa_cons pe_int pa_nil))))
        (pss_cons (ps_while PassesOwn.never (PW.pt (pw_and (pt_cmpR kb_notN (pv 2) pe_non (nomark _)) (pw_and1 (pt_cmpR op_lt (pv 2) (pe_ix (kb_ix K) (pv 0) pe_int (fun _ _ => rfl)) (nomark _))))) (pss_cons (ps_expr (pe_bm PySem.F.plainAttrs_list PySem.F.slot_list_append PySem.F.type_list_append mt_append (pv 1) (pa_cons (pv 2) pa_nil)))
        (pss_one (ps_set (i := 2) sc_days_of.nd rfl (Or.inl rfl) (pe_call (ok_next_day T) (hr.mono (by decide)) (by rfl) T.g_next_day T.F_next_day.kp T.b_next_day .nil pass0 (pa_cons (pv 0) (pa_cons (pe_op op_addA (pv 2) pe_int) pa_nil)))))))
        (pss_one (ps_ret (pv 1)))))), ?_⟩
    walk_at "go"
    rename_i L H1 hL s1 h1
    have r1 := r.mono s1
    refine k_next_day r1 (fun h0 H2 s2 => ?_) (fun k H2 hk g1 g2 s2 => ?_)
    · have r2 := r1.mono s2
      walk_at "go"
      with_reducible apply k_seqW
      refine k_while (fun j σ' H' => σ' = [some (.ref a), some (.ref L), some .non] ∧ H2 = H') 0 ⟨rfl, rfl⟩ ?_
      rintro j _ _ ⟨rfl, rfl⟩
      walk_at "go"
      exact q L H2 [] (s1.trans s2) (s2 _ _ h1) ⟨List.Pairwise.nil, fun z => ⟨fun hz => absurd hz List.not_mem_nil, fun hz => tf hz.2.2 (h0 z)⟩⟩
    · have hN := next_of g1 g2
      walk_at "go"
      with_reducible apply k_seqW
      refine k_while (fun w σ' H' => ∃ (l : List Int) (j : Nat) (y : Int), σ' = [some (.ref a), some (.ref L), some (.int y)] ∧ Same H H' ∧ H' L = some (.lst (l.map V.int)) ∧ l.Pairwise (· < ·) ∧ (∀ z, z ∈ l ↔ 0 ≤ z ∧ z < j ∧ hold n b z = true) ∧ Next (hold n b) j y ∧ j ≤ n ∧ w = n - j) n
        ⟨[], 0, _, rfl, s1.trans s2, s2 _ _ h1, List.Pairwise.nil, fun z => ⟨fun hz => absurd hz List.not_mem_nil, fun hz => by omega⟩, hN, by omega, rfl⟩ ?_
      rintro w _ H3 ⟨l, j, y, rfl, s3, h3, hup, hmem, hy, hj, rfl⟩
      have r3 := r.mono s3
      have ht3 := r3.t
      have y1 := hy.le
      walk_at "go"
      refine if_dec (fun hyn => ?_) (fun hyn => ?_)
      · apply k_turn
        have hln : (l.map V.int).length ≤ 1000000 := by
          have := row_len l 0 j (by omega) hup (fun z hz => ⟨((hmem z).mp hz).1, ((hmem z).mp hz).2.1⟩)
          rw [List.length_map]; omega
        walk_at "go"
        rename_i H4 m4 h4
        have s4 := m4.same s3 hL
        refine k_next_day (r.mono s4) (fun h0 => tf hy.on (h0 _)) fun k2 H5 hk2 g3 g4 s5 => ?_
        walk_at "go"
        obtain ⟨i, hi⟩ := Int.eq_ofNat_of_zero_le (show 0 ≤ y by omega)
        subst hi
        refine ⟨n - (i + 1), by omega, l ++ [(i : Int)], i + 1, _, rfl, s4.trans s5, s5 _ _ (by rw [h4, List.map_append]; rfl), ?_, fun z => ?_, next_of (d := ((i + 1 : Nat) : Int)) g3 g4, by omega, rfl⟩
        · refine List.pairwise_append.mpr ⟨hup, List.pairwise_singleton _ _, fun z hz x hx => ?_⟩
          rw [List.mem_singleton] at hx; subst hx
          have := ((hmem z).mp hz).2.1; omega
        · rw [List.mem_append, List.mem_singleton, hmem]
          constructor
          · rintro (h | h)
            · exact ⟨h.1, by omega, h.2.2⟩
            · subst h; exact ⟨by omega, by omega, hy.on⟩
          · rintro ⟨e1, e2, e3⟩
            by_cases h : z < j
            · exact .inl ⟨e1, h, e3⟩
            · have := hy.ge e3 (by omega)
              exact .inr (by omega)
      · walk_at "go"
        refine q L H3 l s3 h3 ⟨hup, fun z => ?_⟩
        rw [hmem]
        constructor
        · rintro ⟨e1, e2, e3⟩; exact ⟨e1, by omega, e3⟩
        · rintro ⟨e1, e2, e3⟩
          by_cases h : z < j
          · exact ⟨e1, h, e3⟩
          · have := hy.ge e3 (by omega); omega
theorem k_days_of {K : PySem.W.Frag} {H : Hp} {Q : VK} {E : XK} {a : Addr} {n b : Nat} (r : RT K H a n b)
    (q : ∀ (L : Addr) (H' : Hp) (l : List Int), Same H H' → H' L = some (.lst (l.map V.int)) → Row l (hold n b) n → Q (.ref L) H') : sp_days_of K [.ref a] H Q E := ⟨a, n, b, rfl, r, q⟩

/-! ### equation -/
def sp_equation (K : PySem.W.Frag) : Sp := fun vs H Q _ => ∃ i j : Int, vs = [.int i, .int j] ∧ Sm 200 i ∧ Sm 200 j ∧
  ∀ (p : Addr) (H' : Hp) (u v : Int), Same H H' → SqT K H' p [.int u, .int v, .int (Int.gcd i j : Nat)] → u * i + v * j = (Int.gcd i j : Nat) → Sm 1010 u → Sm 1010 v → Q (.ref p) H'
structure EqSt (K : PySem.W.Frag) (H : Hp) (i j : Int) (m : Nat) (σ' : L2.St) (H' : Hp) (p1 p2 : Addr) (u1 v1 r1 u2 v2 r2 : Int) : Prop where
  st : ∃ t r k, σ' = [some (.int i), some (.int j), some (.ref p1), some (.ref p2), t, r, k]
  sm : Same H H'
  t1 : SqT K H' p1 [.int u1, .int v1, .int r1]
  t2 : SqT K H' p2 [.int u2, .int v2, .int r2]
  b1 : u1 * i + v1 * j = r1
  b2 : u2 * i + v2 * j = r2
  gc : Int.gcd r1 r2 = Int.gcd i j
  ms : m = r2.natAbs
  s1 : r1.natAbs ≤ 2 ^ 200
  s2 : r2.natAbs ≤ 2 ^ 200
  ph : (u1 = 1 ∧ v1 = 0 ∧ u2 = 0 ∧ v2 = 1 ∧ r1 = i ∧ r2 = j) ∨ Later (2 ^ 806) u1 v1 r1 u2 v2 r2
theorem EqSt.le {K : PySem.W.Frag} {H H' : Hp} {i j : Int} {m : Nat} {σ' : L2.St} {p1 p2 : Addr} {u1 v1 r1 u2 v2 r2 : Int} (h : EqSt K H i j m σ' H' p1 p2 u1 v1 r1 u2 v2 r2) : Sm 1010 u1 ∧ Sm 1010 v1 ∧ Sm 1010 u2 ∧ Sm 1010 v2 := by
  have e : (2 : Nat) ^ 806 < 2 ^ 1010 := Nat.pow_lt_pow_right (by decide) (by decide)
  have e0 : 1 < (2 : Nat) ^ 1010 := Nat.lt_of_lt_of_le (by decide : 1 < 2 ^ 1) (Nat.pow_le_pow_right (by decide) (by decide))
  rcases h.ph with ⟨rfl, rfl, rfl, rfl, _⟩ | hl
  · exact ⟨⟨e0⟩, ⟨Nat.lt_trans (by decide) e0⟩, ⟨Nat.lt_trans (by decide) e0⟩, ⟨e0⟩⟩
  · have := hl.le
    exact ⟨⟨Nat.lt_of_le_of_lt this.1 e⟩, ⟨Nat.lt_of_le_of_lt this.2.1 e⟩, ⟨Nat.lt_of_le_of_lt this.2.2.1 e⟩, ⟨Nat.lt_of_le_of_lt this.2.2.2 e⟩⟩
theorem ok_equation (T : Txt K mg) : FnOk P w K mg base CX0 1 T.a_equation T.fd_equation ["one", "other"] (sp_equation K) := by
  refine T.F_equation.ok sc_equation (fun vs H Q E h => ?_) (fun cdv A outer s H vs Q E hr h => ?_)
  · obtain ⟨_, _, rfl, _⟩ := h; rfl
  · obtain ⟨i, j, rfl, si, sj, q⟩ := h
    have hu := hr.units
    refine ⟨_, (pss_cons (ps_set (i := 2) sc_equation.nd rfl (Or.inr rfl) (pe_tup (pa_cons pe_int (pa_cons pe_int (pa_cons (pv 0) pa_nil)))))
        (pss_cons (ps_set (i := 3) sc_equation.nd rfl (Or.inr rfl) (pe_tup (pa_cons pe_int (pa_cons pe_int (pa_cons (pv 1) pa_nil)))))
        (pss_cons (ps_while PassesOwn.never (pt_cmpR (kb_ne K (hu := hu)) (pe_ix (kb_ix K) (pv 3) pe_int (fun _ _ => rfl)) pe_int (nomark _)) (pss_cons (ps_set (i := 4) sc_equation.nd rfl (Or.inr rfl) (pe_op op_fdivX (pe_ix (kb_ix K) (pv 2) pe_int (fun _ _ => rfl)) (pe_ix (kb_ix K) (pv 3) pe_int (fun _ _ => rfl))))
        (pss_cons (ps_setLc (i := 5) (own := [("k", 6)]) (g := gName 6) (tt := tYes) rfl sc_equation.nd rfl rfl (sw_true rfl rfl rfl (by decide +kernel)) (pi_range1 (by rfl) T.n_range (pa_cons pe_int pa_nil)) (blkOk_by (N := ["one", "other", "first", "second", "times", "rest", "k"]) (sc := defScope s_equation) (by decide +kernel)) (fun _ _ _ _ _ => pg_name (i := 6) sc_equation.nd rfl (Or.inl rfl)) (fun _ _ _ _ _ => pts_nil) (fun _ _ _ _ _ => (pe_op op_sub (pe_ix (kb_ix K) (pv 2) (pv 6) (fun _ _ => rfl)) (pe_op op_mulX (pv 4) (pe_ix (kb_ix K) (pv 3) (pv 6) (fun _ _ => rfl))))))
        (pss_cons (ps_set (i := 2) sc_equation.nd rfl (Or.inr rfl) (pv 3))
        (pss_one (ps_set (i := 3) sc_equation.nd rfl (Or.inr rfl) (pe_tup (pa_cons (pe_ix (kb_ix K) (pv 5) pe_int (fun _ _ => rfl)) (pa_cons (pe_ix (kb_ix K) (pv 5) pe_int (fun _ _ => rfl)) (pa_cons (pe_ix (kb_ix K) (pv 5) pe_int (fun _ _ => rfl)) pa_nil))))))))))
        (pss_cons (ps_if (pt_cmpR op_lt (pe_ix (kb_ix K) (pv 2) pe_int (fun _ _ => rfl)) pe_int (nomark _)) (pss_one (ps_ret (pe_tup (pa_cons (pe_un un_neg (pe_ix (kb_ix K) (pv 2) pe_int (fun _ _ => rfl))) (pa_cons (pe_un un_neg (pe_ix (kb_ix K) (pv 2) pe_int (fun _ _ => rfl))) (pa_cons (pe_un un_neg (pe_ix (kb_ix K) (pv 2) pe_int (fun _ _ => rfl))) pa_nil)))))) pss_nil)
        (pss_one (ps_ret (pv 2))))))), ?_⟩
    walk_at "go"
    apply k_seqW
    rename_i p1 H1 n1 s1 t1 p2 H2 n2 s2 t2
    refine k_while (fun m σ' H' => ∃ p1 p2 u1 v1 r1 u2 v2 r2, EqSt K H i j m σ' H' p1 p2 u1 v1 r1 u2 v2 r2) _ ⟨p1, p2, 1, 0, i, 0, 1, j, ⟨_, _, _, rfl⟩, s1.trans s2, SqT.of (s2 _ _ t1), SqT.of t2, by omega, by omega, rfl, rfl, Nat.le_of_lt si.h, Nat.le_of_lt sj.h, .inl ⟨rfl, rfl, rfl, rfl, rfl, rfl⟩⟩ ?_
    clear s1 t1 s2 t2 n1 n2 p1 p2
    rintro m _ H3 ⟨p1, p2, u1, v1, r1, u2, v2, r2, hst⟩
    obtain ⟨⟨t, r, k, rfl⟩, sm, t1, t2, b1, b2, gc, rfl, z1, z2, ph⟩ := id hst
    obtain ⟨c1, c2, c3, c4⟩ := hst.le
    walk_at "go"
    refine if_ndec (fun hbr => ?_) (fun hbr => ?_)
    · apply k_turn
      have zq := fdiv_abs_le (r1 := r1) hbr
      have zr := rest_lt (r1 := r1) hbr
      have sr2 : Sm 201 r2 := ⟨Nat.lt_of_le_of_lt z2 (Nat.pow_lt_pow_right (by decide) (by decide))⟩
      have sq : Sm 300 (r1.fdiv r2) := ⟨Nat.lt_of_le_of_lt (Nat.le_trans zq (Nat.add_le_add z1 z2)) (by decide)⟩
      walk_at "go"
      refine k_I (sm_divx hbr sr2 (by decide) (by decide)) ?_
      walk_at "go"
      refine k_lcr [.int (u1 - r1.fdiv r2 * u2), .int (v1 - r1.fdiv r2 * v2), .int (r1 - r1.fdiv r2 * r2)] (by rfl) (by decide) (fun i v H4 R hv s4 hR => ?_) (fun D H4 hD s4 h4 => ?_)
      · match i, hv with
        | 0, hv => cases hv; walk_at "go"; exact hR _ (Same.refl _)
        | 1, hv => cases hv; walk_at "go"; exact hR _ (Same.refl _)
        | 2, hv => cases hv; walk_at "go"; exact hR _ (Same.refl _)
      · walk_at "go"
        rename_i p3 H5 n5 s5 t5
        refine ⟨_, ?_, p2, p3, u2, v2, r2, _, _, _, ⟨_, _, _, rfl⟩, (sm.trans s4).trans s5, same_t (s4.trans s5) t2, SqT.of t5, b2, bez_step b1 b2, (gcd_rest r1 r2 _).trans gc, rfl, z2, by omega, ?_⟩
        · exact zr
        · right
          rcases ph with ⟨rfl, rfl, rfl, rfl, rfl, rfl⟩ | hl
          · exact Later.first (n := 200) z1 z2 hbr
          · exact hl.step hbr
    · subst hbr
      rw [Int.gcd_zero_right] at gc
      walk_at "go"
      with_reducible apply k_seqI
      walk_at "go"
      refine if_dec (fun hneg => ?_) (fun hneg => ?_)
      · walk_at "go"
        rename_i p3 H5 n5 s5 t5
        refine q p3 H5 _ _ (sm.trans s5) (SqT.of (by rw [t5, ← gc, show ((r1.natAbs : Nat) : Int) = -r1 by omega])) ?_ ⟨by rw [Int.natAbs_neg]; exact c1.h⟩ ⟨by rw [Int.natAbs_neg]; exact c2.h⟩
        rw [← gc, show ((r1.natAbs : Nat) : Int) = -r1 by omega, ← b1, Int.neg_mul, Int.neg_mul]; omega
      · walk_at "go"
        refine q p1 H3 _ _ sm (by rw [← gc, show ((r1.natAbs : Nat) : Int) = r1 by omega]; exact t1) ?_ c1 c2
        rw [← gc, show ((r1.natAbs : Nat) : Int) = r1 by omega]; exact b1
theorem k_equation {H : Hp} {Q : VK} {E : XK} {i j : Int} (si : Sm 200 i) (sj : Sm 200 j) (q : ∀ (p : Addr) (H' : Hp) (u v : Int), Same H H' → SqT K H' p [.int u, .int v, .int (Int.gcd i j : Nat)] → u * i + v * j = (Int.gcd i j : Nat) → Sm 1010 u → Sm 1010 v → Q (.ref p) H') : sp_equation K [.int i, .int j] H Q E := ⟨i, j, rfl, si, sj, q⟩
local macro_rules | `(tactic| walk_at "st") => `(tactic| first | ((with_reducible apply k_equation); (· walk_at "sm"); (· walk_at "sm"); intro p H' u v hs ht hb su sv) | fail)

/-! ### met -/
def sp_met (K : PySem.W.Frag) : Sp := fun vs H Q _ => ∃ r n s m : Int, vs = [.int r, .int n, .int s, .int m] ∧ 1 ≤ n ∧ 1 ≤ m ∧ n ≤ 1000000000000000000000000000000000000000000000000000000000000 ∧ m ≤ 1000000000000000000000000000000000000000000000000000000000000 ∧
  Sm 300 r ∧ Sm 300 s ∧ ((s - r) % (Int.gcd n m : Nat) ≠ 0 → ∀ H', Same H H' → Q .non H') ∧
  ((s - r) % (Int.gcd n m : Nat) = 0 → ∀ (p : Addr) (H' : Hp) (x : Int), Same H H' → SqT K H' p [.int x, .int (lcmI n m)] → 0 ≤ x → x < lcmI n m → n ∣ x - r → m ∣ x - s → Q (.ref p) H')
theorem ok_met (T : Txt K mg) : FnOk P w K mg base CX0 3 T.a_met T.fd_met ["rest", "size", "other_rest", "other_size"] (sp_met K) := by
  refine T.F_met.ok sc_met (fun vs H Q E h => ?_) (fun cdv A outer s H vs Q E hr h => ?_)
  · obtain ⟨_, _, _, _, rfl, _⟩ := h; rfl
  · obtain ⟨r, n, s, m, rfl, hn, hm, hn', hm', sr, ss, q1, q2⟩ := h
    have hu := hr.units
    have g1 := gcd_pos (b := m) hn
    have g2 := gcd_le (b := m) hn
    have sn : Sm 200 n := sm41 (by omega) (by omega)
    have l1 := lcm_pos hn hm
    refine ⟨_, (pss_cons (ps_expr (pe_call (ok_sized T) (hr.mono (by decide)) (by rfl) T.g_sized T.F_sized.kp T.b_sized .nil pass0 (pa_cons (pv 1) pa_nil)))
        (pss_cons (ps_expr (pe_call (ok_sized T) (hr.mono (by decide)) (by rfl) T.g_sized T.F_sized.kp T.b_sized .nil pass0 (pa_cons (pv 3) pa_nil)))
        (pss_cons (ps_asg (pe_call (ok_equation T) (hr.mono (by decide)) (by rfl) T.g_equation T.F_equation.kp T.b_equation .nil pass0 (pa_cons (pv 1) (pa_cons (pv 3) pa_nil))) (pg_tup rfl (pgs_cons (pg_name (i := 4) sc_met.nd rfl (Or.inl rfl)) (pgs_cons (pg_name (i := 5) sc_met.nd rfl (Or.inl rfl)) (pgs_cons (pg_name (i := 6) sc_met.nd rfl (Or.inl rfl)) pgs_nil)))))
        (pss_cons (ps_set (i := 7) sc_met.nd rfl (Or.inl rfl) (pe_op op_sub (pv 2) (pv 0)))
        (pss_cons (ps_if (pt_cmpR (kb_ne K (hu := hu)) (pe_op op_mod (pv 7) (pv 6)) pe_int (nomark _)) (pss_one (ps_ret pe_non)) pss_nil)
        (pss_cons (ps_set (i := 8) sc_met.nd rfl (Or.inl rfl) (pe_call (ok_common T) (hr.mono (by decide)) (by rfl) T.g_common T.F_common.kp T.b_common .nil pass0 (pa_cons (pv 1) (pa_cons (pv 3) pa_nil))))
        (pss_one (ps_ret (pe_tup (pa_cons (pe_op op_mod (pe_op op_addA (pv 0) (pe_op op_mulX (pe_op op_mulX (pv 1) (pv 4)) (pe_op op_fdivW (pv 7) (pv 6)))) (pv 8)) (pa_cons (pv 8) pa_nil))))))))))), ?_⟩
    walk_at "go"
    walk_at "if"
    · rename_i hbr
      walk_at "go"; exact q1 hbr _ (by assumption)
    · rename_i p H' u v hs ht hb su sv hbr
      have hsm : Sm 302 ((s - r) / ((Int.gcd n m : Nat) : Int)) := by
        have e : (2 : Nat) ^ 302 = 4 * 2 ^ 300 := by rw [show (302 : Nat) = 2 + 300 from rfl, Nat.pow_add]
        have h1 := sr.h
        have h2 := ss.h
        generalize (2 : Nat) ^ 300 = X at *
        refine ⟨?_⟩
        rw [e]
        have := Int.natAbs_ediv_le_natAbs (s - r) ((Int.gcd n m : Nat) : Int)
        omega
      walk_at "go"
      have hL := lcm_pos hn hm
      have hmet := met_ok hn hm hb hbr
      exact q2 hbr _ _ _ (by rename_i p3 H3 h3 s3 t3; exact hs.trans s3) (SqT.of (by assumption)) (Int.emod_nonneg _ (by omega)) (Int.emod_lt_of_pos _ (by omega)) hmet.1 hmet.2
theorem k_met {H : Hp} {Q : VK} {E : XK} {r n s m : Int} (hn : 1 ≤ n) (hm : 1 ≤ m) (hn' : n ≤ 1000000000000000000000000000000000000000000000000000000000000) (hm' : m ≤ 1000000000000000000000000000000000000000000000000000000000000)
    (sr : Sm 300 r) (ss : Sm 300 s) (q1 : (s - r) % (Int.gcd n m : Nat) ≠ 0 → ∀ H', Same H H' → Q .non H') (q2 : (s - r) % (Int.gcd n m : Nat) = 0 → ∀ (p : Addr) (H' : Hp) (x : Int), Same H H' → SqT K H' p [.int x, .int (lcmI n m)] → 0 ≤ x → x < lcmI n m → n ∣ x - r → m ∣ x - s → Q (.ref p) H') :
    sp_met K [.int r, .int n, .int s, .int m] H Q E := ⟨r, n, s, m, rfl, hn, hm, hn', hm', sr, ss, q1, q2⟩

/-! ### ahead -/
def sp_ahead (K : PySem.W.Frag) : Sp := fun vs H Q _ => ∃ r n d, vs = [.int r, .int n, .int d] ∧ 1 ≤ n ∧ Q (.int (d + (r - d) % n)) H
theorem ok_ahead (T : Txt K mg) : FnOk P w K mg base CX0 2 T.a_ahead T.fd_ahead ["rest", "size", "day"] (sp_ahead K) := by
  refine T.F_ahead.ok sc_ahead (fun vs H Q E h => ?_) (fun cdv A outer s H vs Q E hr h => ?_)
  · obtain ⟨_, _, _, rfl, _⟩ := h; rfl
  · obtain ⟨r, n, d, rfl, h1, q⟩ := h
    refine ⟨_, (pss_cons (ps_expr (pe_call (ok_sized T) (hr.mono (by decide)) (by rfl) T.g_sized T.F_sized.kp T.b_sized .nil pass0 (pa_cons (pv 1) pa_nil)))
        (pss_one (ps_ret (pe_op op_addA (pv 2) (pe_op op_mod (pe_op op_sub (pv 0) (pv 2)) (pv 1)))))), ?_⟩
    walk_at "go"
    exact q
theorem k_ahead {H : Hp} {Q : VK} {E : XK} {r n d : Int} (h1 : 1 ≤ n) (q : Q (.int (d + (r - d) % n)) H) : sp_ahead K [.int r, .int n, .int d] H Q E := ⟨r, n, d, rfl, h1, q⟩
local macro_rules | `(tactic| walk_at "st") => `(tactic| first | ((with_reducible apply k_ahead); (· omega)) | fail)

/-! ### first_by_pairs -/
def sp_first_by_pairs (K : PySem.W.Frag) : Sp := fun vs H Q _ => ∃ (a a2 : Addr) (n b m c : Nat) (d : Int), vs = [.ref a, .ref a2, .int d] ∧ RT K H a n b ∧ RT K H a2 m c ∧ ¬ Apart n b m c ∧
  ∀ (z : Int) (H' : Hp), Same H H' → d ≤ z → hold n b z = true → hold m c z = true → (∀ e, d ≤ e → hold n b e = true → hold m c e = true → z ≤ e) → Q (.int z) H'
theorem ok_first_by_pairs (T : Txt K mg) : FnOk P w K mg base CX0 5 T.a_first_by_pairs T.fd_first_by_pairs ["one", "other", "day"] (sp_first_by_pairs K) := by
  refine T.F_first_by_pairs.ok sc_first_by_pairs (fun vs H Q E h => ?_) (fun cdv A outer s H vs Q E hr h => ?_)
  · obtain ⟨_, _, _, _, _, _, _, rfl, _⟩ := h; rfl
  · obtain ⟨a, a2, n, b, m, c, d, rfl, r, r2, hna, q⟩ := h
    have hu := hr.units
    have hn := r.n1
    have hn2 := r.n2
    have hm := r2.n1
    have hm2 := r2.n2
    refine ⟨_, (pss_cons (ps_set (i := 3) sc_first_by_pairs.nd rfl (Or.inl rfl) pe_non)
        (pss_cons (ps_set (i := 4) sc_first_by_pairs.nd rfl (Or.inl rfl) (pe_call (ok_days_of T) (hr.mono (by decide)) (by rfl) T.g_days_of T.F_days_of.kp T.b_days_of .nil pass0 (pa_cons (pv 1) pa_nil)))
        (pss_cons (ps_for PassesOwn.never rfl (pi_list (pe_call (ok_days_of T) (hr.mono (by decide)) (by rfl) T.g_days_of T.F_days_of.kp T.b_days_of .nil pass0 (pa_cons (pv 0) pa_nil))) (pg_name (i := 5) sc_first_by_pairs.nd rfl (Or.inl rfl)) (pss_one (ps_for PassesOwn.never rfl (pi_list (pv 4)) (pg_name (i := 6) sc_first_by_pairs.nd rfl (Or.inl rfl)) (pss_cons (ps_set (i := 7) sc_first_by_pairs.nd rfl (Or.inl rfl) (pe_call (ok_met T) (hr.mono (by decide)) (by rfl) T.g_met T.F_met.kp T.b_met .nil pass0 (pa_cons (pv 5) (pa_cons (pe_ix (kb_ix K) (pv 0) pe_int (fun _ _ => rfl)) (pa_cons (pv 6) (pa_cons (pe_ix (kb_ix K) (pv 1) pe_int (fun _ _ => rfl)) pa_nil))))))
        (pss_one (ps_if (pt_cmpR kb_notN (pv 7) pe_non (nomark _)) (pss_cons (ps_set (i := 8) sc_first_by_pairs.nd rfl (Or.inl rfl) (pe_call (ok_ahead T) (hr.mono (by decide)) (by rfl) T.g_ahead T.F_ahead.kp T.b_ahead .nil pass0 (pa_cons (pe_ix (kb_ix K) (pv 7) pe_int (fun _ _ => rfl)) (pa_cons (pe_ix (kb_ix K) (pv 7) pe_int (fun _ _ => rfl)) (pa_cons (pv 2) pa_nil)))))
        (pss_one (ps_if (PW.pt (pw_or (pt_cmpR kb_isN (pv 3) pe_non (nomark _)) (pw_or1 (pt_cmpR op_lt (pv 8) (pv 3) (nomark _))))) (pss_one (ps_set (i := 3) sc_first_by_pairs.nd rfl (Or.inl rfl) (pv 8))) pss_nil))) pss_nil))))))
        (pss_one (ps_ret (pv 3)))))), ?_⟩
    walk_at "go"
    refine k_days_of r2 fun M H1 lM s1 h1 row1 => ?_
    walk_at "go"
    with_reducible apply k_seqF
    with_reducible apply k_for
    walk_at "go"
    refine k_days_of (r.mono s1) fun L H2 lL s2 h2 row2 => ?_
    walk_at "go"
    have hM2 : SqL K H2 M (lM.map V.int) := same_l s2 (SqL.of h1)
    have r22 := (r.mono s1).mono s2
    have rr22 := (r2.mono s1).mono s2
    refine for_list (xs := lL.map V.int) (fun i σ' H' => ∃ (v : V) (u1 u2 u3 u4 : Option V), σ' = [some (.ref a), some (.ref a2), some (.int d), some v, some (.ref M), u1, u2, u3, u4] ∧ Same H2 H' ∧ BestOk n b m c d v (fun x y => (∃ k, k < i ∧ lL[k]? = some x) ∧ y ∈ lM))
      ⟨.non, none, none, none, none, rfl, Same.refl _, .inl ⟨rfl, fun e _ _ h => by obtain ⟨⟨k, hk, _⟩, _⟩ := h; omega⟩⟩ (fun i σ' H' _ hW => ?_) (fun i o σ' H3 hx hW => ?_) (fun σ' H3 hW => ?_)
    · obtain ⟨_, _, _, _, _, _, s, _⟩ := hW
      exact same_l s (SqL.of h2)
    · obtain ⟨v, u1, u2, u3, u4, rfl, s3, hB⟩ := hW
      rw [List.getElem?_map] at hx
      obtain ⟨h, hh, rfl⟩ := Option.map_eq_some_iff.mp hx
      have hhm := (row2.mem h).mp (List.mem_of_getElem? hh)
      walk_at "go"
      with_reducible apply k_for
      walk_at "go"
      refine for_list (xs := lM.map V.int) (fun j σ' H' => ∃ (v : V) (u2 u3 u4 : Option V), σ' = [some (.ref a), some (.ref a2), some (.int d), some v, some (.ref M), some (.int h), u2, u3, u4] ∧ Same H3 H' ∧ BestOk n b m c d v (fun x y => ((∃ k, k < i ∧ lL[k]? = some x) ∧ y ∈ lM) ∨ (x = h ∧ ∃ k, k < j ∧ lM[k]? = some y)))
        ⟨v, u2, u3, u4, rfl, Same.refl _, best_cong hB fun x y hp => hp.elim id (fun h => by obtain ⟨_, k, hk, _⟩ := h; omega)⟩ (fun j σ' H' _ hW => ?_) (fun j o σ' H4 hx2 hW => ?_) (fun σ' H4 hW => ?_)
      · obtain ⟨_, _, _, _, _, s, _⟩ := hW
        exact same_l s (same_l s3 hM2)
      · obtain ⟨v, u2, u3, u4, rfl, s4, hB⟩ := hW
        rw [List.getElem?_map] at hx2
        obtain ⟨t, ht, rfl⟩ := Option.map_eq_some_iff.mp hx2
        have htm := (row1.mem t).mp (List.mem_of_getElem? ht)
        have s24 := s3.trans s4
        have r4 := (r22.mono s24).t
        have rr4 := (rr22.mono s24).t
        have hcong : ∀ (v : V), BestOk n b m c d v (fun x y => (((∃ k, k < i ∧ lL[k]? = some x) ∧ y ∈ lM) ∨ (x = h ∧ ∃ k, k < j ∧ lM[k]? = some y)) ∨ (x = h ∧ y = t)) → BestOk n b m c d v (fun x y => ((∃ k, k < i ∧ lL[k]? = some x) ∧ y ∈ lM) ∨ (x = h ∧ ∃ k, k < j + 1 ∧ lM[k]? = some y)) := fun v hv => best_cong hv fun x y hp => by
          rcases hp with hp | ⟨hp1, k, hk, hk2⟩
          · exact .inl (.inl hp)
          · by_cases e : k = j
            · subst e; rw [ht] at hk2; exact .inr ⟨hp1, (Option.some.inj hk2).symm⟩
            · exact .inl (.inr ⟨hp1, k, by omega, hk2⟩)
        walk_at "go"
        refine k_met (by omega) (by omega) (by omega) (by omega) (sm300 (sm41 (by omega) (by omega))) (sm300 (sm41 (by omega) (by omega))) (fun hno H5 s5 => ?_) (fun hyes p H5 x s5 hp hx0 hxL hxn hxm => ?_)
        · walk_at "go"
          with_reducible apply k_if
          walk_at "go"
          exact ⟨v, _, _, _, rfl, s4.trans s5, hcong v (best_none hB hn hm hno)⟩
        · have hat := atk_of (d := d) hn hm hhm.2.2 htm.2.2 hxn hxm
          have hLp := lcm_pos (a := (n : Int)) (b := (m : Int)) (by omega) (by omega)
          walk_at "go"
          with_reducible apply k_if
          walk_at "go"
          generalize d + (x - d) % lcmI n m = z at *
          rcases hB with ⟨rfl, hB1⟩ | ⟨y, rfl, hB1⟩
          · walk_at "run"
            exact ⟨.int z, _, _, _, rfl, s4.trans s5, hcong _ (best_new (.inl ⟨rfl, hB1⟩) hat)⟩
          · walk_at "run"
            refine if_dec (fun hlt => ?_) (fun hlt => ?_)
            · walk_at "go"
              exact ⟨.int z, _, _, _, rfl, s4.trans s5, hcong _ (best_less (.inr ⟨y, rfl, hB1⟩) hat hlt)⟩
            · walk_at "go"
              exact ⟨.int y, _, _, _, rfl, s4.trans s5, hcong _ (best_keep (.inr ⟨y, rfl, hB1⟩) hat hlt)⟩
      · obtain ⟨v, u2, u3, u4, rfl, s4, hB⟩ := hW
        refine ⟨v, _, _, _, _, rfl, s3.trans s4, best_cong hB fun x y hp => ?_⟩
        obtain ⟨⟨k, hk, hk2⟩, hy⟩ := hp
        by_cases e : k = i
        · subst e
          rw [hh] at hk2
          obtain ⟨k', hk', e'⟩ := List.mem_iff_getElem.mp hy
          exact .inr ⟨(Option.some.inj hk2).symm, k', by rw [List.length_map]; exact hk', by rw [List.getElem?_eq_getElem hk', e']⟩
        · exact .inl ⟨⟨k, by omega, hk2⟩, hy⟩
    · obtain ⟨v, u1, u2, u3, u4, rfl, s3, hB⟩ := hW
      have hall : ∀ e, hold n b e = true → hold m c e = true → (∃ k, k < (lL.map V.int).length ∧ lL[k]? = some (e % (n : Int))) ∧ e % (m : Int) ∈ lM := fun e h1 h2 => by
        have a1 := (row2.mem (e % (n : Int))).mpr ⟨Int.emod_nonneg _ (by omega), Int.emod_lt_of_pos _ (by omega), by rw [hold_per]; exact h1⟩
        have a2 := (row1.mem (e % (m : Int))).mpr ⟨Int.emod_nonneg _ (by omega), Int.emod_lt_of_pos _ (by omega), by rw [hold_per]; exact h2⟩
        obtain ⟨k', hk', e'⟩ := List.mem_iff_getElem.mp a1
        exact ⟨⟨k', by rw [List.length_map]; exact hk', by rw [List.getElem?_eq_getElem hk', e']⟩, a2⟩
      obtain ⟨e0, he1, he2⟩ := meets_of hn hm hna
      rcases hB with ⟨rfl, hB1⟩ | ⟨z, rfl, hB1, hB2, hB3, hB4⟩
      · exact absurd (hall e0 he1 he2) (hB1 e0 he1 he2)
      · walk_at "go"
        exact q z H3 ((s1.trans s2).trans s3) hB1 hB2 hB3 fun e a1 a2 a3 => hB4 e a1 a2 a3 (hall e a2 a3)
theorem k_first_by_pairs {K : PySem.W.Frag} {H : Hp} {Q : VK} {E : XK} {a a2 : Addr} {n b m c : Nat} {d : Int} (r : RT K H a n b) (r2 : RT K H a2 m c) (hna : ¬ Apart n b m c)
  (q : ∀ (z : Int) (H' : Hp), Same H H' → d ≤ z → hold n b z = true → hold m c z = true → (∀ e, d ≤ e → hold n b e = true → hold m c e = true → z ≤ e) → Q (.int z) H') : sp_first_by_pairs K [.ref a, .ref a2, .int d] H Q E := ⟨a, a2, n, b, m, c, d, rfl, r, r2, hna, q⟩

/-! ### ones -/
def sp_ones (K : PySem.W.Frag) : Sp := fun vs H Q _ => ∃ b : Nat, vs = [.int (b : Int)] ∧ Sm 400000 (b : Int) ∧ Q (.int (pop b : Nat)) H
theorem ok_ones (T : Txt K mg) : FnOk P w K mg base CX0 2 T.a_ones T.fd_ones ["bits"] (sp_ones K) := by
  refine T.F_ones.ok sc_ones (fun vs H Q E h => ?_) (fun cdv A outer s H vs Q E hr h => ?_)
  · obtain ⟨_, rfl, _⟩ := h; rfl
  · obtain ⟨b, rfl, hb, q⟩ := h
    have hu := hr.units
    refine ⟨_, (pss_cons (ps_set (i := 1) sc_ones.nd rfl (Or.inl rfl) pe_int)
        (pss_cons (ps_while PassesOwn.never (pt_cmpR op_gt (pv 0) pe_int (nomark _)) (pss_cons (ps_set (i := 2) sc_ones.nd rfl (Or.inl rfl) (pe_op op_and (pv 0) (pe_call (ok_mask T) (hr.mono (by decide)) (by rfl) T.g_mask T.F_mask.kp T.b_mask .nil pass0 (pa_cons (pe_glob (v := (.int 60)) rfl T.c_CHUNK ⟨_, rfl⟩) pa_nil))))
        (pss_cons (ps_while PassesOwn.never (pt_cmpR op_gt (pv 2) pe_int (nomark _)) (pss_cons (ps_set (i := 2) sc_ones.nd rfl (Or.inl rfl) (pe_op op_and (pv 2) (pe_op op_sub (pv 2) pe_int)))
        (pss_one (ps_set (i := 1) sc_ones.nd rfl (Or.inl rfl) (pe_op op_addA (pv 1) pe_int)))))
        (pss_one (ps_set (i := 0) sc_ones.nd rfl (Or.inl rfl) (pe_op op_shr (pv 0) (pe_glob (v := (.int 60)) rfl T.c_CHUNK ⟨_, rfl⟩)))))))
        (pss_one (ps_ret (pv 1))))), ?_⟩
    walk_at "go"
    apply k_seqW
    refine k_while (fun k σ' H' => ∃ (x m : Nat) (v : Option V), σ' = [some (.int (x : Int)), some (.int (m : Int)), v] ∧ H = H' ∧ x = k ∧ m + pop x = pop b) _ ⟨b, 0, none, rfl, rfl, rfl, by omega⟩ ?_
    rintro k _ _ ⟨x, m, v, rfl, rfl, rfl, hx⟩
    walk_at "go"
    refine if_dec (fun hbr => ?_) (fun hbr => ?_)
    · apply k_turn
      walk_at "go"
      apply k_seqW
      have hsp := pop_split x 60
      refine k_while (fun k σ' H' => ∃ (y m : Nat), σ' = [some (.int (x : Int)), some (.int (m : Int)), some (.int (y : Int))] ∧ H = H' ∧ y = k ∧ m + pop y + pop (x / 2 ^ 60) = pop b) _ ⟨x % 2 ^ 60, m, rfl, rfl, rfl, by omega⟩ ?_
      rintro k _ _ ⟨y, m, rfl, rfl, rfl, hy⟩
      walk_at "go"
      refine if_dec (fun hbr2 => ?_) (fun hbr2 => ?_)
      · apply k_turn
        walk_at "go"
        have hc := pop_clear (x := y) (by omega)
        rw [and_pred (show 0 < y by omega)]
        exact ⟨_, and_pred_lt (show 0 < y by omega), _, m + 1, rfl, rfl, rfl, by omega⟩
      · have : y = 0 := by omega
        subst this
        walk_at "go"
        rw [pop_zero] at hy
        exact ⟨_, Nat.div_lt_self (by omega) (by decide), _, m, _, rfl, rfl, rfl, by
          have e : pop (x / 2 ^ (Int.toNat 60)) = pop (x / 2 ^ 60) := rfl
          omega⟩
    · have : x = 0 := by omega
      subst this
      rw [pop_zero] at hx
      walk_at "go"
      rw [← hx] at q
      exact q
theorem k_ones {H : Hp} {Q : VK} {E : XK} {b : Nat} (hb : Sm 400000 (b : Int)) (q : Q (.int (pop b : Nat)) H) : sp_ones K [.int (b : Int)] H Q E := ⟨b, rfl, hb, q⟩

/-! ### allowed -/
def sp_allowed (K : PySem.W.Frag) : Sp := fun vs H Q _ => ∃ i, vs = [.int i] ∧ 1 ≤ i ∧ i ≤ 150000 ∧ Q .non H
theorem ok_allowed (T : Txt K mg) : FnOk P w K mg base CX0 1 T.a_allowed T.fd_allowed ["size"] (sp_allowed K) := by
  refine T.F_allowed.ok sc_allowed (fun vs H Q E h => ?_) (fun cdv A outer s H vs Q E hr h => ?_)
  · obtain ⟨i, rfl, _⟩ := h; rfl
  · obtain ⟨i, rfl, h1, h2, q⟩ := h
    refine ⟨_, (pss_cons (ps_if (pt_cmpR op_lt (pv 0) pe_int (nomark _)) (pss_one ps_never) pss_nil)
        (pss_one (ps_if (pt_cmpR op_gt (pv 0) (pe_glob (v := (.int 150000)) rfl T.c_LIMIT ⟨_, rfl⟩) (nomark _)) (pss_one ps_never) pss_nil))), ?_⟩
    walk_at "run"
    exact q
theorem k_allowed {H : Hp} {Q : VK} {E : XK} {i : Int} (h1 : 1 ≤ i) (h2 : i ≤ 150000) (q : Q .non H) : sp_allowed K [.int i] H Q E := ⟨i, rfl, h1, h2, q⟩
local macro_rules | `(tactic| walk_at "st") => `(tactic| first | ((with_reducible apply k_allowed); (· omega); (· omega)) | fail)

/-! ### common_size -/
def sp_common_size (K : PySem.W.Frag) : Sp := fun vs H Q _ => ∃ (a a2 : Addr) (n b m c : Nat), vs = [.ref a, .ref a2] ∧ RT K H a n b ∧ RT K H a2 m c ∧ Nat.lcm n m ≤ 150000 ∧ Q (.int (Nat.lcm n m : Nat)) H
theorem ok_common_size (T : Txt K mg) : FnOk P w K mg base CX0 3 T.a_common_size T.fd_common_size ["one", "other"] (sp_common_size K) := by
  refine T.F_common_size.ok sc_common_size (fun vs H Q E h => ?_) (fun cdv A outer s H vs Q E hr h => ?_)
  · obtain ⟨_, _, _, _, _, _, rfl, _⟩ := h; rfl
  · obtain ⟨a, a2, n, b, m, c, rfl, r, r2, hL, q⟩ := h
    have hu := hr.units
    have ht := r.t
    have ht2 := r2.t
    have hn := r.n1
    have hm := r2.n1
    have hn2 := r.n2
    have hm2 := r2.n2
    have hL1 := lcm1 hn hm
    have e := lcm_c (n := n) (m := m) hn
    refine ⟨_, (pss_cons (ps_set (i := 2) sc_common_size.nd rfl (Or.inl rfl) (pe_call (ok_common T) (hr.mono (by decide)) (by rfl) T.g_common T.F_common.kp T.b_common .nil pass0 (pa_cons (pe_ix (kb_ix K) (pv 0) pe_int (fun _ _ => rfl)) (pa_cons (pe_ix (kb_ix K) (pv 1) pe_int (fun _ _ => rfl)) pa_nil))))
        (pss_cons (ps_expr (pe_call (ok_allowed T) (hr.mono (by decide)) (by rfl) T.g_allowed T.F_allowed.kp T.b_allowed .nil pass0 (pa_cons (pv 2) pa_nil)))
        (pss_one (ps_ret (pv 2))))), ?_⟩
    walk_at "go"
    rw [e]
    exact q
theorem k_common_size {H : Hp} {Q : VK} {E : XK} {a a2 : Addr} {n b m c : Nat} (r : RT K H a n b) (r2 : RT K H a2 m c) (hL : Nat.lcm n m ≤ 150000) (q : Q (.int (Nat.lcm n m : Nat)) H) : sp_common_size K [.ref a, .ref a2] H Q E := ⟨a, a2, n, b, m, c, rfl, r, r2, hL, q⟩

/-! ### stretched -/
def sp_stretched (K : PySem.W.Frag) : Sp := fun vs H Q _ => ∃ (a : Addr) (n b m : Nat), vs = [.ref a, .int (m : Int)] ∧ RT K H a n b ∧ n ∣ m ∧ 1 ≤ m ∧ m ≤ 150000 ∧
  ∀ (p : Addr) (H' : Hp), Same H H' → SqT K H' p [.int (m : Int), .int (bitsOf m (hold n b) : Nat)] → Q (.ref p) H'
theorem ok_stretched (T : Txt K mg) : FnOk P w K mg base CX0 2 T.a_stretched T.fd_stretched ["turn", "size"] (sp_stretched K) := by
  refine T.F_stretched.ok sc_stretched (fun vs H Q E h => ?_) (fun cdv A outer s H vs Q E hr h => ?_)
  · obtain ⟨_, _, _, _, rfl, _⟩ := h; rfl
  · obtain ⟨a, n, b, m, rfl, r, hd, hm, hm', q⟩ := h
    have hu := hr.units
    have ht := r.t
    have hn := r.n1
    have hb := r.lt
    have e0 : (m : Int) % (n : Int) = 0 := Int.emod_eq_zero_of_dvd (Int.natCast_dvd_natCast.mpr hd)
    have hnm : n ≤ m := Nat.le_of_dvd (by omega) hd
    refine ⟨_, (pss_cons (ps_if (PW.pt (pw_or (pt_cmpR op_lt (pv 1) pe_int (nomark _)) (pw_or1 (pt_cmpR (kb_ne K (hu := hu)) (pe_op op_mod (pv 1) (pe_ix (kb_ix K) (pv 0) pe_int (fun _ _ => rfl))) pe_int (nomark _))))) (pss_one ps_never) pss_nil)
        (pss_cons (ps_expr (pe_call (ok_allowed T) (hr.mono (by decide)) (by rfl) T.g_allowed T.F_allowed.kp T.b_allowed .nil pass0 (pa_cons (pv 1) pa_nil)))
        (pss_cons (ps_set (i := 2) sc_stretched.nd rfl (Or.inl rfl) (pe_ix (kb_ix K) (pv 0) pe_int (fun _ _ => rfl)))
        (pss_cons (ps_set (i := 3) sc_stretched.nd rfl (Or.inl rfl) (pe_ix (kb_ix K) (pv 0) pe_int (fun _ _ => rfl)))
        (pss_cons (ps_while PassesOwn.never (pt_cmpR op_lt (pv 3) (pv 1) (nomark _)) (pss_cons (ps_set (i := 4) sc_stretched.nd rfl (Or.inl rfl) (pe_callB (cb_min2 rfl) (by rfl) T.n_min (by decide +kernel) (pa_cons (pv 3) (pa_cons (pe_op op_sub (pv 1) (pv 3)) pa_nil))))
        (pss_cons (ps_set (i := 2) sc_stretched.nd rfl (Or.inl rfl) (pe_op op_or (pv 2) (pe_op op_shlW (pe_op op_and (pv 2) (pe_call (ok_mask T) (hr.mono (by decide)) (by rfl) T.g_mask T.F_mask.kp T.b_mask .nil pass0 (pa_cons (pv 4) pa_nil))) (pv 3))))
        (pss_one (ps_set (i := 3) sc_stretched.nd rfl (Or.inl rfl) (pe_op op_addA (pv 3) (pv 4)))))))
        (pss_one (ps_ret (pe_tup (pa_cons (pv 1) (pa_cons (pv 2) pa_nil)))))))))), ?_⟩
    walk_at "run"
    apply k_seqW
    refine k_while (fun k σ' H' => ∃ (h x : Nat) (v : Option V), σ' = [some (.ref a), some (.int (m : Int)), some (.int (x : Int)), some (.int (h : Int)), v] ∧ H = H' ∧ x = ofB (fun i => b.testBit (i % n)) h ∧ n ∣ h ∧ 1 ≤ h ∧ h ≤ m ∧ k = m - h) _
      ⟨n, b, none, rfl, rfl, str_start hb, Nat.dvd_refl n, hn, hnm, rfl⟩ ?_
    rintro k _ _ ⟨h, x, v, rfl, rfl, rfl, hdh, h1, h2, rfl⟩
    walk_at "go"
    refine if_dec (fun hbr => ?_) (fun hbr => ?_)
    · apply k_turn
      walk_at "go"
      rename_i k hk1 hk2 hk3
      obtain ⟨k, rfl⟩ := Int.eq_ofNat_of_zero_le (show 0 ≤ k by omega)
      have hst := str_step (g := fun i => b.testBit (i % n)) (h := h) (k := k) (fun i => by show b.testBit (i % n % n) = _; rw [Nat.mod_mod]) hdh (by omega)
      refine ⟨_, ?_, h + k, _, _, rfl, rfl, hst, ?_, by omega, by omega, rfl⟩
      · omega
      · rcases hk1 with e | e
        · have : k = h := by omega
          subst this; exact Nat.dvd_add hdh hdh
        · have : h + k = m := by omega
          rw [this]; exact hd
    · have : h = m := by omega
      subst this
      walk_at "go"
      rename_i p H' _ _ _
      refine q p H' (by assumption) (SqT.of ?_)
      rw [← str_bits hn]; assumption
theorem k_stretched {H : Hp} {Q : VK} {E : XK} {a : Addr} {n b m : Nat} (r : RT K H a n b) (hd : n ∣ m) (hm : 1 ≤ m) (hm' : m ≤ 150000)
    (q : ∀ (p : Addr) (H' : Hp), Same H H' → SqT K H' p [.int (m : Int), .int (bitsOf m (hold n b) : Nat)] → Q (.ref p) H') : sp_stretched K [.ref a, .int (m : Int)] H Q E := ⟨a, n, b, m, rfl, r, hd, hm, hm', q⟩

/-! ### both -/
def sp_both (K : PySem.W.Frag) : Sp := fun vs H Q _ => ∃ (a a2 : Addr) (n b m c : Nat), vs = [.ref a, .ref a2] ∧ RT K H a n b ∧ RT K H a2 m c ∧ Nat.lcm n m ≤ 150000 ∧
  ∀ (p : Addr) (H' : Hp), Same H H' → RT K H' p (Nat.lcm n m) (bitsOf (Nat.lcm n m) (fun d => hold n b d && hold m c d)) → Q (.ref p) H'
theorem ok_both (T : Txt K mg) : FnOk P w K mg base CX0 4 T.a_both T.fd_both ["one", "other"] (sp_both K) := by
  refine T.F_both.ok sc_both (fun vs H Q E h => ?_) (fun cdv A outer s H vs Q E hr h => ?_)
  · obtain ⟨_, _, _, _, _, _, rfl, _⟩ := h; rfl
  · obtain ⟨a, a2, n, b, m, c, rfl, r, r2, hL, q⟩ := h
    have hu := hr.units
    have hL1 := lcm1 r.n1 r2.n1
    refine ⟨_, (pss_cons (ps_set (i := 2) sc_both.nd rfl (Or.inl rfl) (pe_call (ok_common_size T) (hr.mono (by decide)) (by rfl) T.g_common_size T.F_common_size.kp T.b_common_size .nil pass0 (pa_cons (pv 0) (pa_cons (pv 1) pa_nil))))
        (pss_one (ps_ret (pe_tup (pa_cons (pv 2) (pa_cons (pe_op op_and (pe_ix (kb_ix K) (pe_call (ok_stretched T) (hr.mono (by decide)) (by rfl) T.g_stretched T.F_stretched.kp T.b_stretched .nil pass0 (pa_cons (pv 0) (pa_cons (pv 2) pa_nil))) pe_int (fun _ _ => rfl)) (pe_ix (kb_ix K) (pe_call (ok_stretched T) (hr.mono (by decide)) (by rfl) T.g_stretched T.F_stretched.kp T.b_stretched .nil pass0 (pa_cons (pv 1) (pa_cons (pv 2) pa_nil))) pe_int (fun _ _ => rfl))) pa_nil)))))), ?_⟩
    walk_at "go"
    refine k_common_size r r2 hL ?_
    walk_at "go"
    refine k_stretched r (Nat.dvd_lcm_left n m) hL1 hL fun p1 H1 s1 t1 => ?_
    walk_at "go"
    refine k_stretched (r2.mono s1) (Nat.dvd_lcm_right n m) hL1 hL fun p2 H2 s2 t2 => ?_
    walk_at "go"
    rename_i p H' _ s3 t3
    rw [both_bits] at t3
    exact q p H' ((s1.trans s2).trans s3) ⟨SqT.of t3, hL1, hL, bitsOf_lt _ _⟩
theorem k_both {H : Hp} {Q : VK} {E : XK} {a a2 : Addr} {n b m c : Nat} (r : RT K H a n b) (r2 : RT K H a2 m c) (hL : Nat.lcm n m ≤ 150000)
    (q : ∀ (p : Addr) (H' : Hp), Same H H' → RT K H' p (Nat.lcm n m) (bitsOf (Nat.lcm n m) (fun d => hold n b d && hold m c d)) → Q (.ref p) H') : sp_both K [.ref a, .ref a2] H Q E := ⟨a, a2, n, b, m, c, rfl, r, r2, hL, q⟩

/-! ### meeting -/
def sp_meeting (K : PySem.W.Frag) (T : Txt K mg) : Sp := fun vs H Q E => ∃ (a a2 : Addr) (n b m c : Nat) (d : Int), vs = [.ref a, .ref a2, .int d] ∧ RT K H a n b ∧ RT K H a2 m c ∧ (¬ Apart n b m c → 150000 < Nat.lcm n m → 1000 < pop b * pop c → TL T.C_TooLong E H (Nat.lcm n m : Nat)) ∧
  (Apart n b m c → ∀ (p : Addr) (H' : Hp), Same H H' → H' p = some (.tup [.str "never", .int (Nat.gcd n m : Nat), .int (foldB (Nat.gcd n m) b (n / Nat.gcd n m) : Nat), .int (foldB (Nat.gcd n m) c (m / Nat.gcd n m) : Nat)]) → Q (.ref p) H') ∧
  (¬ Apart n b m c → (Nat.lcm n m ≤ 150000 ∨ pop b * pop c ≤ 1000) → ∀ (p : Addr) (H' : Hp) (z : Int), Same H H' → H' p = some (.tup [.str "meet", .int z]) → d ≤ z → hold n b z = true → hold m c z = true → (∀ e, d ≤ e → hold n b e = true → hold m c e = true → z ≤ e) → Q (.ref p) H')
theorem ok_meeting (T : Txt K mg) : FnOk P w K mg base (L2.CX P w) 6 T.a_meeting T.fd_meeting ["one", "other", "day"] (sp_meeting K T) := by
  refine T.F_meeting.okX sc_meeting (fun vs H Q E h => ?_) (fun cdv A outer s H vs Q E hr h => ?_)
  · obtain ⟨_, _, _, _, _, _, _, rfl, _⟩ := h; rfl
  · obtain ⟨a, a2, n, b, m, c, d, rfl, r, r2, hok, q1, q2⟩ := h
    have hu := hr.units
    have hn := r.n1
    have hn2 := r.n2
    have hm := r2.n1
    have hm2 := r2.n2
    have ht := r.t
    have ht2 := r2.t
    have hg : 0 < Nat.gcd n m := Nat.gcd_pos_of_pos_left _ hn
    refine ⟨_, (pss_cons (ps_set (i := 3) sc_meeting.nd rfl (Or.inl rfl) (pe_call (ok_divisor T) (hr.mono (by decide)) (by rfl) T.g_divisor T.F_divisor.kp T.b_divisor .nil pass0 (pa_cons (pe_ix (kb_ix K) (pv 0) pe_int (fun _ _ => rfl)) (pa_cons (pe_ix (kb_ix K) (pv 1) pe_int (fun _ _ => rfl)) pa_nil))))
        (pss_cons (ps_set (i := 4) sc_meeting.nd rfl (Or.inl rfl) (pe_ix (kb_ix K) (pe_call (ok_folded T) (hr.mono (by decide)) (by rfl) T.g_folded T.F_folded.kp T.b_folded .nil pass0 (pa_cons (pv 0) (pa_cons (pv 3) pa_nil))) pe_int (fun _ _ => rfl)))
        (pss_cons (ps_set (i := 5) sc_meeting.nd rfl (Or.inl rfl) (pe_ix (kb_ix K) (pe_call (ok_folded T) (hr.mono (by decide)) (by rfl) T.g_folded T.F_folded.kp T.b_folded .nil pass0 (pa_cons (pv 1) (pa_cons (pv 3) pa_nil))) pe_int (fun _ _ => rfl)))
        (pss_cons (ps_if (pt_cmpR (kb_eq K (hu := hu)) (pe_op op_and (pv 4) (pv 5)) pe_int (nomark _)) (pss_one (ps_ret (pe_tup (pa_cons pe_str (pa_cons (pv 3) (pa_cons (pv 4) (pa_cons (pv 5) pa_nil))))))) pss_nil)
        (pss_cons (ps_set (i := 6) sc_meeting.nd rfl (Or.inl rfl) (pe_call (ok_common T) (hr.mono (by decide)) (by rfl) T.g_common T.F_common.kp T.b_common .nil pass0 (pa_cons (pe_ix (kb_ix K) (pv 0) pe_int (fun _ _ => rfl)) (pa_cons (pe_ix (kb_ix K) (pv 1) pe_int (fun _ _ => rfl)) pa_nil))))
        (pss_cons (ps_if (pt_cmpR op_le (pv 6) (pe_glob (v := (.int 150000)) rfl T.c_LIMIT ⟨_, rfl⟩) (nomark _)) (pss_one (ps_ret (pe_tup (pa_cons pe_str (pa_cons (pe_call (ok_next_day T) (hr.mono (by decide)) (by rfl) T.g_next_day T.F_next_day.kp T.b_next_day .nil pass0 (pa_cons (pe_call (ok_both T) (hr.mono (by decide)) (by rfl) T.g_both T.F_both.kp T.b_both .nil pass0 (pa_cons (pv 0) (pa_cons (pv 1) pa_nil))) (pa_cons (pv 2) pa_nil))) pa_nil))))) pss_nil)
        (pss_cons (ps_if (pt_cmpR op_gt (pe_op op_mulX (pe_call (ok_ones T) (hr.mono (by decide)) (by rfl) T.g_ones T.F_ones.kp T.b_ones .nil pass0 (pa_cons (pe_ix (kb_ix K) (pv 0) pe_int (fun _ _ => rfl)) pa_nil)) (pe_call (ok_ones T) (hr.mono (by decide)) (by rfl) T.g_ones T.F_ones.kp T.b_ones .nil pass0 (pa_cons (pe_ix (kb_ix K) (pv 1) pe_int (fun _ _ => rfl)) pa_nil))) (pe_glob (v := (.int 1000)) rfl T.c_PAIRS ⟨_, rfl⟩) (nomark _)) (pss_one (ps_raise rfl (takes_of rfl rfl rfl rfl) (pmk_oex T.ox_TooLong T.in_TooLong_init T.ti_TooLong_init (ok_TooLong_init T) (hr.mono (by decide)) T.b_TooLong_init .nil pass0 rfl T.gc_TooLong (pa_cons (pv 6) pa_nil)))) pss_nil)
        (PSs.nox (pss_one (ps_ret (pe_tup (pa_cons pe_str (pa_cons (pe_call (ok_first_by_pairs T) (hr.mono (by decide)) (by rfl) T.g_first_by_pairs T.F_first_by_pairs.kp T.b_first_by_pairs .nil pass0 (pa_cons (pv 0) (pa_cons (pv 1) (pa_cons (pv 2) pa_nil)))) pa_nil))))))))))))), ?_⟩
    walk_at "go"
    have hfold := apart_fold hn hm r.lt r2.lt (g := Nat.gcd n m) rfl
    have hd1 := Nat.gcd_dvd_left n m
    have hd2 := Nat.gcd_dvd_right n m
    rw [show ((Int.gcd (n : Int) (m : Int) : Nat) : Int) = ((Nat.gcd n m : Nat) : Int) by rw [Int.gcd_natCast_natCast]]
    obtain ⟨g, eg⟩ : ∃ g, g = Nat.gcd n m := ⟨_, rfl⟩
    rw [← eg] at hg hfold hd1 hd2 q1 ⊢
    refine k_folded r hg hd1 fun p1 H1 s1 r1 => ?_
    have ht1 := r1.t
    have r21 := r2.mono s1
    walk_at "go"
    refine k_folded r21 hg hd2 fun p3 H3 s3 r3 => ?_
    have ht3 := r3.t
    have ra := (r.mono s1).mono s3
    have rb := r21.mono s3
    have hta := ra.t
    have htb := rb.t
    walk_at "go"
    with_reducible apply k_seqI
    walk_at "go"
    refine if_dec (fun h0 => ?_) (fun h0 => ?_)
    · walk_at "go"
      rename_i p4 H4 hn4 s4 t4
      exact q1 (hfold.mp (by omega)) p4 H4 ((s1.trans s3).trans s4) t4
    have hna : ¬ Apart n b m c := fun h => h0 (by have := hfold.mpr h; omega)
    have hq2 := q2 hna
    have hL1 := lcm1 hn hm
    walk_at "go"
    rw [lcm_c (n := n) (m := m) hn]
    with_reducible apply k_seqI
    walk_at "go"
    refine if_dec (fun hL => ?_) (fun hL => ?_)
    · have hq2 := hq2 (.inl (by omega))
      walk_at "go"
      refine k_both ra rb (by omega) fun p4 H4 s4 r4 => ?_
      have hh : ∀ e, hold (Nat.lcm n m) (bitsOf (Nat.lcm n m) fun d => hold n b d && hold m c d) e = (hold n b e && hold m c e) := fun e =>
        hold_mod (f := fun d => hold n b d && hold m c d) hL1 (fun d => by show (hold n b _ && hold m c _) = _; rw [hold_dvd (Nat.dvd_lcm_left n m), hold_dvd (Nat.dvd_lcm_right n m)]) e
      walk_at "go"
      obtain ⟨e0, he1, he2⟩ := meets_of hn hm hna
      refine k_next_day r4 (fun hall => ?_) fun k H5 hk g1 g2 s5 => ?_
      · have := hall e0
        rw [hh, he1, he2] at this; exact absurd this (by decide)
      walk_at "go"
      rename_i p6 H6 hn6 s6 t6
      have hN := next_of g1 g2
      rw [hh, Bool.and_eq_true] at g1
      exact hq2 p6 H6 _ ((((s1.trans s3).trans s4).trans s5).trans s6) t6 (by omega) g1.1 g1.2 fun e a1 a2 a3 => hN.ge (by rw [hh, a2, a3]; rfl) a1
    · walk_at "go"
      with_reducible apply k_seqI
      walk_at "go"
      refine k_ones ra.sm ?_
      walk_at "go"
      refine k_ones rb.sm ?_
      have hpa := pop_le ra.lt
      have hpb := pop_le rb.lt
      walk_at "go"
      refine if_dec (fun h => ?_) (fun h => ?_)
      · refine k_mkO ?_
        walk_at "go"
        exact k_mkTL ((hok hna (by omega) (by rw [← Int.natCast_mul] at h; omega)).mono (s1.trans s3))
      have hq2 := hq2 (.inr (by rw [← Int.natCast_mul] at h; omega))
      walk_at "go"
      refine k_first_by_pairs ra rb hna fun z H4 s4 a1 a2 a3 a4 => ?_
      walk_at "go"
      rename_i p6 H6 hn6 s6 t6
      exact hq2 p6 H6 z (((s1.trans s3).trans s4).trans s6) t6 a1 a2 a3 a4
theorem k_meeting {T : Txt K mg} {H : Hp} {Q : VK} {E : XK} {a a2 : Addr} {n b m c : Nat} {d : Int} (r : RT K H a n b) (r2 : RT K H a2 m c) (hok : ¬ Apart n b m c → 150000 < Nat.lcm n m → 1000 < pop b * pop c → TL T.C_TooLong E H (Nat.lcm n m : Nat))
  (q1 : Apart n b m c → ∀ (p : Addr) (H' : Hp), Same H H' → H' p = some (.tup [.str "never", .int (Nat.gcd n m : Nat), .int (foldB (Nat.gcd n m) b (n / Nat.gcd n m) : Nat), .int (foldB (Nat.gcd n m) c (m / Nat.gcd n m) : Nat)]) → Q (.ref p) H')
  (q2 : ¬ Apart n b m c → (Nat.lcm n m ≤ 150000 ∨ pop b * pop c ≤ 1000) → ∀ (p : Addr) (H' : Hp) (z : Int), Same H H' → H' p = some (.tup [.str "meet", .int z]) → d ≤ z → hold n b z = true → hold m c z = true → (∀ e, d ≤ e → hold n b e = true → hold m c e = true → z ≤ e) → Q (.ref p) H') : sp_meeting K T [.ref a, .ref a2, .int d] H Q E := ⟨a, a2, n, b, m, c, d, rfl, r, r2, hok, q1, q2⟩

/-! ### other_days -/
def sp_other_days (K : PySem.W.Frag) : Sp := fun vs H Q _ => ∃ (a : Addr) (n b : Nat), vs = [.ref a] ∧ RT K H a n b ∧
  ∀ (p : Addr) (H' : Hp), Same H H' → RT K H' p n (bitsOf n (fun d => !hold n b d)) → Q (.ref p) H'
theorem ok_other_days (T : Txt K mg) : FnOk P w K mg base CX0 2 T.a_other_days T.fd_other_days ["turn"] (sp_other_days K) := by
  refine T.F_other_days.ok sc_other_days (fun vs H Q E h => ?_) (fun cdv A outer s H vs Q E hr h => ?_)
  · obtain ⟨_, _, _, rfl, _⟩ := h; rfl
  · obtain ⟨a, n, b, rfl, r, q⟩ := h
    have hu := hr.units
    have ht := r.t
    have hn := r.n1
    have hn2 := r.n2
    refine ⟨_, (pss_one (ps_ret (pe_tup (pa_cons (pe_ix (kb_ix K) (pv 0) pe_int (fun _ _ => rfl)) (pa_cons (pe_op op_xor (pe_ix (kb_ix K) (pv 0) pe_int (fun _ _ => rfl)) (pe_call (ok_mask T) (hr.mono (by decide)) (by rfl) T.g_mask T.F_mask.kp T.b_mask .nil pass0 (pa_cons (pe_ix (kb_ix K) (pv 0) pe_int (fun _ _ => rfl)) pa_nil))) pa_nil))))), ?_⟩
    walk_at "go"
    rename_i p H' _ s3 t3
    rw [Int.toNat_natCast, other_bits r.lt] at t3
    exact q p H' s3 ⟨SqT.of t3, hn, hn2, bitsOf_lt _ _⟩
theorem k_other_days {H : Hp} {Q : VK} {E : XK} {a : Addr} {n b : Nat} (r : RT K H a n b)
    (q : ∀ (p : Addr) (H' : Hp), Same H H' → RT K H' p n (bitsOf n (fun d => !hold n b d)) → Q (.ref p) H') : sp_other_days K [.ref a] H Q E := ⟨a, n, b, rfl, r, q⟩

/-! ### within -/
def sp_within (K : PySem.W.Frag) (T : Txt K mg) : Sp := fun vs H Q E => ∃ (a a2 : Addr) (n b m c : Nat) (d : Int), vs = [.ref a, .ref a2, .int d] ∧ RT K H a n b ∧ RT K H a2 m c ∧ (¬ Apart n b m (compB m c) → 150000 < Nat.lcm n m → 1000 < pop b * pop (compB m c) → TL T.C_TooLong E H (Nat.lcm n m : Nat)) ∧
  (Apart n b m (compB m c) → ∀ (p : Addr) (H' : Hp), Same H H' → H' p = some (.tup [.str "within", .int (Nat.gcd n m : Nat), .int (foldB (Nat.gcd n m) b (n / Nat.gcd n m) : Nat), .int (foldB (Nat.gcd n m) (compB m c) (m / Nat.gcd n m) : Nat)]) → Q (.ref p) H') ∧
  (¬ Apart n b m (compB m c) → (Nat.lcm n m ≤ 150000 ∨ pop b * pop (compB m c) ≤ 1000) → ∀ (p : Addr) (H' : Hp) (z : Int), Same H H' → H' p = some (.tup [.str "outside", .int z]) → d ≤ z → hold n b z = true → hold m c z = false → (∀ e, d ≤ e → hold n b e = true → hold m c e = false → z ≤ e) → Q (.ref p) H')
theorem ok_within (T : Txt K mg) : FnOk P w K mg base (L2.CX P w) 7 T.a_within T.fd_within ["one", "other", "day"] (sp_within K T) := by
  refine T.F_within.okX sc_within (fun vs H Q E h => ?_) (fun cdv A outer s H vs Q E hr h => ?_)
  · obtain ⟨_, _, _, _, _, _, _, rfl, _⟩ := h; rfl
  · obtain ⟨a, a2, n, b, m, c, d, rfl, r, r2, hok, q1, q2⟩ := h
    have hu := hr.units
    have hm := r2.n1
    refine ⟨_, (pss_cons (ps_set (i := 3) sc_within.nd rfl (Or.inl rfl) (pe_callS (ok_meeting T) (hr.mono (by decide)) (by rfl) T.g_meeting T.F_meeting.kp T.b_meeting (fun σ => passAt (takes_of rfl rfl rfl rfl) σ) (pa_cons (pv 0) (pa_cons (pe_call (ok_other_days T) (hr.mono (by decide)) (by rfl) T.g_other_days T.F_other_days.kp T.b_other_days .nil pass0 (pa_cons (pv 1) pa_nil)) (pa_cons (pv 2) pa_nil)))))
        (PSs.nox (pss_cons (ps_if (pt_cmpR (kb_eq K (hu := hu)) (pe_ix (kb_ix K) (pv 3) pe_int (fun _ _ => rfl)) pe_str (nomark _)) (pss_one (ps_ret (pe_tup (pa_cons pe_str (pa_cons (pe_ix (kb_ix K) (pv 3) pe_int (fun _ _ => rfl)) (pa_cons (pe_ix (kb_ix K) (pv 3) pe_int (fun _ _ => rfl)) (pa_cons (pe_ix (kb_ix K) (pv 3) pe_int (fun _ _ => rfl)) pa_nil))))))) pss_nil)
        (pss_one (ps_ret (pe_tup (pa_cons pe_str (pa_cons (pe_ix (kb_ix K) (pv 3) pe_int (fun _ _ => rfl)) pa_nil)))))))), ?_⟩
    walk_at "go"
    refine k_other_days r2 fun p1 H1 s1 r1 => ?_
    have r1' : RT K H1 p1 m (compB m c) := r1
    walk_at "go"
    refine k_meeting (r.mono s1) r1' (fun h1 h2 h3 => (hok h1 h2 h3).mono s1) (fun hap p5 H5 s5 t5 => ?_) (fun hna hnb p5 H5 z s5 t5 hz1 hz2 hz3 hz4 => ?_)
    · walk_at "run"
      rename_i p6 H6 _ s6 t6
      exact q1 hap p6 H6 ((s1.trans s5).trans s6) t6
    · walk_at "run"
      rename_i p6 H6 _ s6 t6
      rw [comp_hold hm] at hz3
      exact q2 hna hnb p6 H6 z ((s1.trans s5).trans s6) t6 hz1 hz2 (by simpa using hz3) fun e a1 a2 a3 => hz4 e a1 a2 (by rw [comp_hold hm, a3]; rfl)
theorem k_within {T : Txt K mg} {H : Hp} {Q : VK} {E : XK} {a a2 : Addr} {n b m c : Nat} {d : Int} (r : RT K H a n b) (r2 : RT K H a2 m c) (hok : ¬ Apart n b m (compB m c) → 150000 < Nat.lcm n m → 1000 < pop b * pop (compB m c) → TL T.C_TooLong E H (Nat.lcm n m : Nat))
  (q1 : Apart n b m (compB m c) → ∀ (p : Addr) (H' : Hp), Same H H' → H' p = some (.tup [.str "within", .int (Nat.gcd n m : Nat), .int (foldB (Nat.gcd n m) b (n / Nat.gcd n m) : Nat), .int (foldB (Nat.gcd n m) (compB m c) (m / Nat.gcd n m) : Nat)]) → Q (.ref p) H')
  (q2 : ¬ Apart n b m (compB m c) → (Nat.lcm n m ≤ 150000 ∨ pop b * pop (compB m c) ≤ 1000) → ∀ (p : Addr) (H' : Hp) (z : Int), Same H H' → H' p = some (.tup [.str "outside", .int z]) → d ≤ z → hold n b z = true → hold m c z = false → (∀ e, d ≤ e → hold n b e = true → hold m c e = false → z ≤ e) → Q (.ref p) H') : sp_within K T [.ref a, .ref a2, .int d] H Q E := ⟨a, a2, n, b, m, c, d, rfl, r, r2, hok, q1, q2⟩

/-! ### _law_told -/
/-- what is due -/
def told58 (w : Bool) (L : Int) : List V := if w then [.str "long", .int L, .bl true] else [.str "told", .int 0, .bl true]
def far58 (n m p : Nat) (ap : Prop) : Prop := ¬ ap ∧ 150000 < Nat.lcm n m ∧ 1000 < p
def sp_Ltold (K : PySem.W.Frag) : Sp := fun vs H Q _ => ∃ (y : Bool) (a a2 : Addr) (n b m c : Nat) (d : Int), vs = [.bl y, .ref a, .ref a2, .int d] ∧ RT K H a n b ∧ RT K H a2 m c ∧
  (far58 n m (pop b * pop c) (Apart n b m c) → ∀ p H', Same H H' → SqT K H' p (told58 true (Nat.lcm n m : Nat)) → Q (.ref p) H') ∧ (¬ far58 n m (pop b * pop c) (Apart n b m c) → ∀ p H', Same H H' → SqT K H' p (told58 false 0) → Q (.ref p) H')
theorem ok_Ltold (T : Txt K mg) : FnOk P w K mg base CX0 8 T.a_Ltold T.fd_Ltold ["_law_inner", "_law_one", "_law_other", "_law_day"] (sp_Ltold K) := by
  refine T.F_Ltold.ok sc_Ltold (fun vs H Q E h => ?_) (fun cdv A outer s H vs Q E hr h => ?_)
  · obtain ⟨_, _, _, _, _, _, _, _, rfl, _⟩ := h; rfl
  · obtain ⟨y, a, a2, n, b, m, c, d, rfl, r, r2, q1, q0⟩ := h
    have hu := hr.units
    have ht2 := r2.t
    have hm2 := r2.n2
    refine ⟨_, (pss_cons (ps_set (i := 4) sc_Ltold.nd rfl (Or.inl rfl) pe_non)
        (pss_cons (ps_set (i := 5) sc_Ltold.nd rfl (Or.inl rfl) pe_non)
        (pss_cons (ps_try_as (i := 6) rfl rfl sc_Ltold.nd rfl rfl ⟨rfl, by decide, .inl T.gc_TooLong⟩ takes0 (fun W pn xe tk _ => (pss_one (ps_if (pt_val (pv 0)) (pss_one (ps_set (i := 4) sc_Ltold.nd rfl (Or.inl rfl) (pe_callS (ok_within T) (hr.mono (by decide)) (by rfl) T.g_within T.F_within.kp T.b_within (fun σ => passAt tk σ) (pa_cons (pv 1) (pa_cons (pe_tup (pa_cons (pe_ix (kb_ix K) (pv 2) pe_int (fun _ _ => rfl)) (pa_cons (pe_op op_sub (pe_op op_sub (pe_op op_shlW pe_int (pe_ix (kb_ix K) (pv 2) pe_int (fun _ _ => rfl))) pe_int) (pe_ix (kb_ix K) (pv 2) pe_int (fun _ _ => rfl))) pa_nil))) (pa_cons (pv 3) pa_nil)))))) (pss_one (ps_set (i := 4) sc_Ltold.nd rfl (Or.inl rfl) (pe_callS (ok_meeting T) (hr.mono (by decide)) (by rfl) T.g_meeting T.F_meeting.kp T.b_meeting (fun σ => passAt tk σ) (pa_cons (pv 1) (pa_cons (pv 2) (pa_cons (pv 3) pa_nil))))))))) (fun a oe cls d pn hz hf => (pss_one (ps_set (i := 5) sc_Ltold.nd rfl (Or.inl rfl) (pe_tup (pa_cons pe_str (pa_cons (pe_xf T.xf_TooLong T.no_TooLong_needed hz hf (pv 6)) (pa_cons (pe_callB (call_isC hz hf) (by rfl) T.n_isinstance (by decide +kernel) (pa_cons (pv 6) (pa_cons (pe_glob (v := .ref T.C_FeastError) rfl T.gc_FeastError rfl) pa_nil))) pa_nil))))))))
        (pss_cons (ps_if (pt_cmpR kb_isN (pv 5) pe_non (nomark _)) (pss_one (ps_set (i := 5) sc_Ltold.nd rfl (Or.inl rfl) (pe_tup (pa_cons pe_str (pa_cons pe_int (pa_cons (pe_callB (kb_isi K) (by rfl) T.n_isinstance (by decide +kernel) (pa_cons (pv 4) (pa_cons (pe_bltn (v := .ty "tuple") (by rfl) T.n_tuple (by decide +kernel) rfl) pa_nil))) pa_nil)))))) pss_nil)
        (pss_one (ps_ret (pv 5))))))), ?_⟩
    walk_at "go"
    with_reducible apply k_seq
    show tIfS _ _ _ _ _ _
    with_reducible apply k_if
    walk_at "go"
    refine if_b (fun h => ?_) (fun h => ?_)
    · walk_at "go"
      rename_i p1 H1 hn1 s1 t1
      have t1' : H1 p1 = some (.tup [.int (m : Int), .int ((compB m c : Nat) : Int)]) := by
        rw [t1, Int.toNat_natCast]
        have e := comp_sub r2.lt
        have := r2.lt
        have e2 : ((2 ^ m : Nat) : Int) - 1 - (c : Int) = ((compB m c : Nat) : Int) := by rw [← e]; omega
        rw [e2]
      have rc : RT K H1 p1 m (compB m c) := ⟨SqT.of t1', r2.n1, r2.n2, comp_lt⟩
      have r1 := r.mono s1
      refine k_within r1 rc (fun h1 h2 h3 => ?_) (fun hap p5 H5 s5 t5 => ?_) (fun hna hnb p5 H5 z s5 t5 hz1 hz2 hz3 hz4 => ?_)
      · rw [comp_comp r2.lt] at h1 h3
        intro d' H' s' e'
        refine ⟨true, exm_of T.bc_TooLong T.ic_TooLong T.tc_TooLong T.sc_TooLong, fun _ a0 _ => ?_, fun q => Bool.noConfusion q⟩
        walk_at "go"
        refine k_xf ?_
        walk_at "go"
        refine ⟨rfl, rfl, d', [("needed", .int ((Nat.lcm n m : Nat) : Int))], .int ((Nat.lcm n m : Nat) : Int), rfl, e', rfl, ?_⟩
        walk_at "go"
        refine k_isX T.xc_TooLong (.inr ⟨_, [("needed", .int ((Nat.lcm n m : Nat) : Int))], rfl, e'⟩) (fun _ h => h) (kit_of T.ic_FeastError T.tc_FeastError T.sc_FeastError T.sb_TooLong_FeastError) ?_
        walk_at "run"
        rename_i p9 H9 hn9 s9 t9
        exact q1 ⟨h1, h2, h3⟩ p9 H9 ((s1.trans s').trans s9) (SqT.of t9)
      · rw [comp_comp r2.lt] at hap
        have u5 := SqT.of (K := K) t5
        walk_at "run"
        rename_i p9 H9 hn9 s9 t9
        exact q0 (fun z => z.1 hap) p9 H9 ((s1.trans s5).trans s9) (SqT.of t9)
      · rw [comp_comp r2.lt] at hna hnb
        have u5 := SqT.of (K := K) t5
        walk_at "run"
        rename_i p9 H9 hn9 s9 t9
        exact q0 (fun z => by have := z.2; omega) p9 H9 ((s1.trans s5).trans s9) (SqT.of t9)
    · walk_at "go"
      refine k_meeting r r2 (fun h1 h2 h3 => ?_) (fun hap p5 H5 s5 t5 => ?_) (fun hna hnb p5 H5 z s5 t5 hz1 hz2 hz3 hz4 => ?_)
      · skip
        intro d' H' s' e'
        refine ⟨true, exm_of T.bc_TooLong T.ic_TooLong T.tc_TooLong T.sc_TooLong, fun _ a0 _ => ?_, fun q => Bool.noConfusion q⟩
        walk_at "go"
        refine k_xf ?_
        walk_at "go"
        refine ⟨rfl, rfl, d', [("needed", .int ((Nat.lcm n m : Nat) : Int))], .int ((Nat.lcm n m : Nat) : Int), rfl, e', rfl, ?_⟩
        walk_at "go"
        refine k_isX T.xc_TooLong (.inr ⟨_, [("needed", .int ((Nat.lcm n m : Nat) : Int))], rfl, e'⟩) (fun _ h => h) (kit_of T.ic_FeastError T.tc_FeastError T.sc_FeastError T.sb_TooLong_FeastError) ?_
        walk_at "run"
        rename_i p9 H9 hn9 s9 t9
        exact q1 ⟨h1, h2, h3⟩ p9 H9 (s'.trans s9) (SqT.of t9)
      · skip
        have u5 := SqT.of (K := K) t5
        walk_at "run"
        rename_i p9 H9 hn9 s9 t9
        exact q0 (fun z => z.1 hap) p9 H9 (s5.trans s9) (SqT.of t9)
      · skip
        have u5 := SqT.of (K := K) t5
        walk_at "run"
        rename_i p9 H9 hn9 s9 t9
        exact q0 (fun z => by have := z.2; omega) p9 H9 (s5.trans s9) (SqT.of t9)
theorem k_Ltold {K : PySem.W.Frag} {H : Hp} {Q : VK} {E : XK} {y : Bool} {a a2 : Addr} {n b m c : Nat} {d : Int} (r : RT K H a n b) (r2 : RT K H a2 m c)
  (q1 : far58 n m (pop b * pop c) (Apart n b m c) → ∀ p H', Same H H' → SqT K H' p (told58 true (Nat.lcm n m : Nat)) → Q (.ref p) H') (q0 : ¬ far58 n m (pop b * pop c) (Apart n b m c) → ∀ p H', Same H H' → SqT K H' p (told58 false 0) → Q (.ref p) H') : sp_Ltold K [.bl y, .ref a, .ref a2, .int d] H Q E := ⟨y, a, a2, n, b, m, c, d, rfl, r, r2, q1, q0⟩

/-! ### law -/
def sp_law (K : PySem.W.Frag) : Sp := fun vs H Q _ => ∃ (a : Addr) (ns : List Int), vs = [.ref a] ∧ SqL K H a (ns.map V.int) ∧ ns.length ≤ 63 ∧ (∀ z ∈ ns, Builtin.Int.intBits z ≤ 1048576) ∧ ∀ H', Q (.bl true) H'
set_option pp.maxSteps 400 in
theorem ok_law (T : Txt K mg) : FnOk P w K mg base CX0 9 T.a_law T.fd_law ["_law_script"] (sp_law K) := by
  refine T.F_law.ok sc_law (fun vs H Q E h => ?_) (fun cdv A outer s H vs Q E hr h => ?_)
  · obtain ⟨_, _, rfl, _⟩ := h; rfl
  · obtain ⟨a, ns, rfl, hS, hl, hb, q⟩ := h
    have hu := hr.units
    refine ⟨_, (pss_cons (ps_set (i := 1) sc_law.nd rfl (Or.inr rfl) (pe_call (ok_Lsizes T) (hr.mono (by decide)) (by rfl) T.g_Lsizes T.F_Lsizes.kp T.b_Lsizes .nil pass0 (pa_cons (pe_call (ok_Lcell_at T) (hr.mono (by decide)) (by rfl) T.g_Lcell_at T.F_Lcell_at.kp T.b_Lcell_at .nil pass0 (pa_cons (pv 0) (pa_cons pe_int pa_nil))) pa_nil)))
        (pss_cons (ps_set (i := 2) sc_law.nd rfl (Or.inl rfl) (pe_call (ok_Lcounts T) (hr.mono (by decide)) (by rfl) T.g_Lcounts T.F_Lcounts.kp T.b_Lcounts .nil pass0 (pa_cons (pe_call (ok_Lcell_at T) (hr.mono (by decide)) (by rfl) T.g_Lcell_at T.F_Lcell_at.kp T.b_Lcell_at .nil pass0 (pa_cons (pv 0) (pa_cons pe_int pa_nil))) pa_nil)))
        (pss_cons (ps_set (i := 3) sc_law.nd rfl (Or.inl rfl) (pe_call (ok_Ldays T) (hr.mono (by decide)) (by rfl) T.g_Ldays T.F_Ldays.kp T.b_Ldays .nil pass0 (pa_cons (pe_call (ok_Lcell_at T) (hr.mono (by decide)) (by rfl) T.g_Lcell_at T.F_Lcell_at.kp T.b_Lcell_at .nil pass0 (pa_cons (pv 0) (pa_cons pe_int pa_nil))) (pa_cons (pe_ix (kb_ix K) (pv 1) pe_int (fun _ _ => rfl)) (pa_cons (pe_ix (kb_ix K) (pv 2) pe_int (fun _ _ => rfl)) pa_nil)))))
        (pss_cons (ps_set (i := 4) sc_law.nd rfl (Or.inl rfl) (pe_call (ok_Ldays T) (hr.mono (by decide)) (by rfl) T.g_Ldays T.F_Ldays.kp T.b_Ldays .nil pass0 (pa_cons (pe_call (ok_Lcell_at T) (hr.mono (by decide)) (by rfl) T.g_Lcell_at T.F_Lcell_at.kp T.b_Lcell_at .nil pass0 (pa_cons (pv 0) (pa_cons pe_int pa_nil))) (pa_cons (pe_ix (kb_ix K) (pv 1) pe_int (fun _ _ => rfl)) (pa_cons (pe_ix (kb_ix K) (pv 2) pe_int (fun _ _ => rfl)) pa_nil)))))
        (pss_cons (ps_if (pt_cmpR (kb_eq K (hu := hu)) (pe_op op_mod (pe_op op_fdivW (pe_call (ok_Lcell_at T) (hr.mono (by decide)) (by rfl) T.g_Lcell_at T.F_Lcell_at.kp T.b_Lcell_at .nil pass0 (pa_cons (pv 0) (pa_cons pe_int pa_nil))) pe_int) pe_int) pe_int (nomark _)) (pss_cons (ps_set (i := 3) sc_law.nd rfl (Or.inl rfl) (pe_op op_addA (pv 3) (pe_lc (own := [("_law_day", 5)]) (g := gName 5) (tt := tYes) rfl sc_law.nd (pi_list (pv 3)) (blkOk_by (N := ["_law_script", "_law_sizes_here", "_law_counts_here", "_law_here", "_law_there", "_law_day", "_law_many", "_law_one", "_law_other", "_law_whole", "_law_shared", "_law_rests", "_law_meets", "_law_due"]) (sc := defScope s_law) (by decide +kernel)) (fun _ _ _ _ _ => pg_name (i := 5) sc_law.nd rfl (Or.inl rfl)) (fun _ _ _ _ _ => pts_nil) (fun _ _ _ _ _ => (pe_op op_addA (pv 5) (pe_ix (kb_ix K) (pv 1) pe_int (fun _ _ => rfl)))))))
        (pss_one (ps_set (i := 1) sc_law.nd rfl (Or.inr rfl) (pe_tup (pa_cons (pe_op op_mulX pe_int (pe_ix (kb_ix K) (pv 1) pe_int (fun _ _ => rfl))) (pa_cons (pe_ix (kb_ix K) (pv 1) pe_int (fun _ _ => rfl)) pa_nil)))))) pss_nil)
        (pss_cons (ps_set (i := 6) sc_law.nd rfl (Or.inl rfl) (pe_op op_mulX (RZ.pe_lenSetI (by rfl) T.n_len (by rfl) T.n_set (pv 3)) (RZ.pe_lenSetI (by rfl) T.n_len (by rfl) T.n_set (pv 4))))
        (pss_cons (ps_set (i := 7) sc_law.nd rfl (Or.inl rfl) (pe_call (ok_Lround T) (hr.mono (by decide)) (by rfl) T.g_Lround T.F_Lround.kp T.b_Lround .nil pass0 (pa_cons (pv 3) (pa_cons (pe_ix (kb_ix K) (pv 1) pe_int (fun _ _ => rfl)) pa_nil))))
        (pss_cons (ps_set (i := 8) sc_law.nd rfl (Or.inl rfl) (pe_call (ok_Lround T) (hr.mono (by decide)) (by rfl) T.g_Lround T.F_Lround.kp T.b_Lround .nil pass0 (pa_cons (pv 4) (pa_cons (pe_ix (kb_ix K) (pv 1) pe_int (fun _ _ => rfl)) pa_nil))))
        (pss_cons (ps_set (i := 9) sc_law.nd rfl (Or.inl rfl) (pe_call (ok_common T) (hr.mono (by decide)) (by rfl) T.g_common T.F_common.kp T.b_common .nil pass0 (pa_cons (pe_ix (kb_ix K) (pv 1) pe_int (fun _ _ => rfl)) (pa_cons (pe_ix (kb_ix K) (pv 1) pe_int (fun _ _ => rfl)) pa_nil))))
        (pss_cons (ps_set (i := 10) sc_law.nd rfl (Or.inr rfl) (pe_call (ok_divisor T) (hr.mono (by decide)) (by rfl) T.g_divisor T.F_divisor.kp T.b_divisor .nil pass0 (pa_cons (pe_ix (kb_ix K) (pv 1) pe_int (fun _ _ => rfl)) (pa_cons (pe_ix (kb_ix K) (pv 1) pe_int (fun _ _ => rfl)) pa_nil))))
        (pss_cons (ps_set (i := 11) sc_law.nd rfl (Or.inr rfl) (pe_lc (own := [("_law_day", 5)]) (g := gName 5) (tt := tYes) rfl sc_law.nd (pi_list (pv 3)) (blkOk_by (N := ["_law_script", "_law_sizes_here", "_law_counts_here", "_law_here", "_law_there", "_law_day", "_law_many", "_law_one", "_law_other", "_law_whole", "_law_shared", "_law_rests", "_law_meets", "_law_due"]) (sc := defScope s_law) (by decide +kernel)) (fun _ _ _ _ _ => pg_name (i := 5) sc_law.nd rfl (Or.inl rfl)) (fun _ _ _ _ _ => pts_nil) (fun _ _ _ _ _ => (pe_op op_mod (pv 5) (pv 10)))))
        (pss_cons (ps_set (i := 12) sc_law.nd rfl (Or.inl rfl) (pe_cmpR (kb_ne K (hu := hu)) (pe_lc (own := [("_law_day", 5)]) (g := gName 5) rfl sc_law.nd (pi_list (pv 4)) (blkOk_by (N := ["_law_script", "_law_sizes_here", "_law_counts_here", "_law_here", "_law_there", "_law_day", "_law_many", "_law_one", "_law_other", "_law_whole", "_law_shared", "_law_rests", "_law_meets", "_law_due"]) (sc := defScope s_law) (by decide +kernel)) (fun _ _ _ _ _ => pg_name (i := 5) sc_law.nd rfl (Or.inl rfl)) (fun _ _ _ _ _ => pts_one (pt_cmpR (kb_in K) (pe_op op_mod (pv 5) (pv 10)) (pv 11) (by rfl))) (fun _ _ _ _ _ => (pv 5))) (pe_lst pa_nil) (nomark _)))
        (pss_cons (ps_set (i := 13) sc_law.nd rfl (Or.inl rfl) (pe_tup (pa_cons pe_str (pa_cons pe_int (pa_cons pe_bl pa_nil)))))
        (pss_cons (ps_if (PW.pt (pw_and (pt_val (pv 12)) (pw_and (pt_cmpR op_gt (pv 9) pe_int (nomark _)) (pw_and1 (pt_cmpR op_gt (pv 6) pe_int (nomark _)))))) (pss_one (ps_set (i := 13) sc_law.nd rfl (Or.inl rfl) (pe_tup (pa_cons pe_str (pa_cons (pv 9) (pa_cons pe_bl pa_nil)))))) pss_nil)
        (pss_cons (ps_set (i := 5) sc_law.nd rfl (Or.inl rfl) (pe_op op_sub (pe_op op_mod (pe_call (ok_Lcell_at T) (hr.mono (by decide)) (by rfl) T.g_Lcell_at T.F_Lcell_at.kp T.b_Lcell_at .nil pass0 (pa_cons (pv 0) (pa_cons pe_int pa_nil))) (pe_powc (n := 10000000000000000000000000000000000000000) (by decide +kernel))) (pe_powc (n := 1000000000000000000000000000000000000000) (by decide +kernel))))
        (pss_one (ps_ret (pe_cmpR (kb_eq K (hu := hu)) (pe_call (ok_Ltold T) (hr.mono (by decide)) (by rfl) T.g_Ltold T.F_Ltold.kp T.b_Ltold .nil pass0 (pa_cons (pe_cmpR (kb_eq K (hu := hu)) (pe_op op_mod (pe_call (ok_Lcell_at T) (hr.mono (by decide)) (by rfl) T.g_Lcell_at T.F_Lcell_at.kp T.b_Lcell_at .nil pass0 (pa_cons (pv 0) (pa_cons pe_int pa_nil))) pe_int) pe_int (nomark _)) (pa_cons (pv 7) (pa_cons (pv 8) (pa_cons (pv 5) pa_nil))))) (pv 13) (nomark _))))))))))))))))))), ?_⟩
    walk_at "go"
    rename_i c0 _ sc0
    refine k_Lsizes sc0 fun pz H1 n0 m s1 t1 hn0 hn1 hm0 hm1 => ?_
    have hS1 := same_l s1 hS
    walk_at "go"
    rename_i c1 _ sc1
    refine k_Lcounts sc1 fun pc H2 x y s2 t2 hx hy => ?_
    have hS2 := same_l s2 hS1
    have t1b := s2 _ _ t1
    walk_at "go"
    rename_i c2 _ sc2
    refine k_Ldays sc2 (by omega) (by omega) (by omega) (by omega) fun pl H3 l s3 hpl t3 hl1 hl2 hl3 => ?_
    have hS3 := same_l s3 hS2
    have t1c := s3 _ _ t1b
    have t2c := s3 _ _ t2
    walk_at "go"
    rename_i c3 _ sc3
    refine k_Ldays sc3 (by omega) (by omega) (by omega) (by omega) fun pk H4 k s4 hpk t4 hk1 hk2 hk3 => ?_
    have hS4 := same_l s4 hS3
    have t1d := s4 _ _ t1c
    have t2d := s4 _ _ t2c
    have t3d := s4 _ _ t3
    walk_at "go"
    with_reducible refine k_cutI (fun σ' H' => ∃ (pz' pl' : Addr) (n : Nat) (l' : List Int) (v : Option V), σ' = [some (.ref a), some (.ref pz'), some (.ref pc), some (.ref pl'), some (.ref pk), v, none, none, none, none, none, none, none, none] ∧ Same H4 H' ∧ H' pz' = some (.tup [.int (n : Int), .int (m : Int)]) ∧ H' pl' = some (.lst (l'.map V.int)) ∧ l'.length ≤ 100 ∧ l'.Nodup ∧ (∀ x ∈ l', 0 ≤ x ∧ x < n) ∧ 300 ≤ n ∧ n ≤ 2600) (fun N hN => ?_) ?_
    · walk_at "go"
      refine if_dec (fun h => ?_) (fun h => ?_)
      · walk_at "go"
        refine k_lcl (SqL.of t3d) ((l.map fun x => x + (n0 : Int)).map V.int) (by simp) (by rw [List.length_map]; omega) (fun i v0 v H6 R hx hv s6 hR => ?_) fun D H6 hD s6 t6 => ?_
        · rw [List.getElem?_map] at hx
          obtain ⟨e0, he, rfl⟩ := Option.map_eq_some_iff.mp hx
          rw [List.getElem?_map, List.getElem?_map, he] at hv
          cases hv
          have t1f := s6 _ _ t1d
          walk_at "go"
          exact hR _ (Same.refl _)
        · walk_at "go"
          refine k_cat (s6 _ _ t3d) t6 (by simp; omega) fun p7 H7 hp7 s7 t7 => ?_
          have t1g := s7 _ _ (s6 _ _ t1d)
          walk_at "go"
          rename_i p8 H8 hn8 s8 t8
          refine hN _ _ ⟨p8, p7, 2 * n0, l ++ l.map fun x => x + (n0 : Int), _, rfl, (s6.trans s7).trans s8, ?_, ?_, by simp; omega, ?_, fun x hx => ?_, by omega, by omega⟩
          · rw [t8, Int.natCast_mul]; rfl
          · rw [s8 _ _ t7, List.map_append]
          · rw [List.nodup_append]
            refine ⟨hl2, ?_, fun x hx y hy e => ?_⟩
            · unfold List.Nodup at hl2 ⊢
              rw [List.pairwise_map]
              exact hl2.imp fun h e => h (by omega)
            · obtain ⟨z, hz, rfl⟩ := List.mem_map.mp hy
              have := hl3 x hx
              have := hl3 z hz
              omega
          · rcases List.mem_append.mp hx with h | h
            · have := hl3 x h; omega
            · obtain ⟨z, hz, rfl⟩ := List.mem_map.mp h
              have := hl3 z hz; omega
      · walk_at "go"
        exact hN _ _ ⟨pz, pl, n0, l, _, rfl, Same.refl _, t1d, t3d, by omega, hl2, hl3, hn0, by omega⟩
    rintro _ H5 ⟨pz', pl', n, l', v, rfl, s5, t1e, t3e, hl1', hl2', hl3', hn, hn'⟩
    have hS5 := same_l s5 hS4
    have t4e : H5 pk = some (.lst (k.map V.int)) := s5 _ _ t4
    have uz : SqT K H5 pz' [.int (n : Int), .int (m : Int)] := SqT.of t1e
    walk_at "go"
    refine k_lenSet ?_
    walk_at "go"
    refine ⟨_, l', rfl, SqL.of t3e, hl2', by omega, ?_⟩
    refine k_lenSet ?_
    walk_at "go"
    refine ⟨_, k, rfl, SqL.of t4e, hk2, by omega, ?_⟩
    walk_at "go"
    refine k_Lround (SqL.of t3e) hl2' hl3' (by omega) (by omega) (by omega) fun p6 H6 b s6 r6 hb6 pb6 => ?_
    have u6 := same_t s6 uz
    have t4f := s6 _ _ t4e
    walk_at "go"
    refine k_Lround (SqL.of t4f) hk2 hk3 (by omega) (by omega) (by omega) fun p7 H7 c s7 r7 hb7 pb7 => ?_
    have u7 := same_t s7 u6
    have t4g := s7 _ _ t4f
    have t3g := s7 _ _ (s6 _ _ t3e)
    have rA := r6.mono s7
    walk_at "go"
    have hg : 0 < Nat.gcd n m := Nat.gcd_pos_of_pos_left _ (by omega)
    rw [show ((Int.gcd (n : Int) (m : Int) : Nat) : Int) = ((Nat.gcd n m : Nat) : Int) by rw [Int.gcd_natCast_natCast]]
    have hap := apart_days (n := n) (b := b) (m := m) (c := c) (by omega) (by omega) hl3' hk3 hb6 hb7
    have hgs : (Nat.gcd n m : Nat) ≤ 150000 := Nat.le_trans (Nat.le_of_dvd (by omega) (Nat.gcd_dvd_left n m)) (by omega)
    generalize hgg : Nat.gcd n m = g at *
    refine k_lcl (SqL.of t3g) ((l'.map fun x => x % (g : Int)).map V.int) (by simp) (by rw [List.length_map]; omega) (fun i v0 v1 H8 R hx hv s8 hR => ?_) fun D H8 hD s8 t8 => ?_
    · rw [List.getElem?_map] at hx
      obtain ⟨e0, he, rfl⟩ := Option.map_eq_some_iff.mp hx
      rw [List.getElem?_map, List.getElem?_map, he] at hv
      cases hv
      walk_at "go"
      exact hR _ (Same.refl _)
    have t4h := s8 _ _ t4g
    have hgk : ∀ i, i < k.length → (k.map V.int).getD i .non = V.int (k.getD i 0) := fun i hi => by
      rw [List.getD_eq_getElem?_getD, List.getElem?_map, List.getD_eq_getElem?_getD, List.getElem?_eq_getElem hi]; rfl
    walk_at "go"
    refine k_lclf (SqL.of t4h) (fun i => decide (k.getD i 0 % (g : Int) ∈ l'.map fun x => x % (g : Int))) (fun i => V.int (k.getD i 0)) (by rw [List.length_map]; omega) (fun i H9 R hi s9 hR => ?_) (fun i H9 R hi _ s9 hR => ?_) fun D2 H9 hD2 s9 t9 => ?_
    · rw [List.length_map] at hi
      have t8b := s9 _ _ t8
      rw [hgk i hi]
      walk_at "go"
      exact hR _ (Same.refl _)
    · rw [List.length_map] at hi
      rw [hgk i hi]
      walk_at "go"
      exact hR _ (Same.refl _)
    rw [List.length_map] at t9
    have t9' : H9 D2 = some (.lst ((((List.range k.length).filter fun i => decide (k.getD i 0 % (g : Int) ∈ l'.map fun x => x % (g : Int))).map fun i => k.getD i 0).map V.int)) := by rw [t9, List.map_map]; rfl
    have hL : (((List.range k.length).filter fun i => decide (k.getD i 0 % (g : Int) ∈ l'.map fun x => x % (g : Int))).map fun i => k.getD i 0) = [] ↔ Apart n b m c := by
      rw [List.map_eq_nil_iff, List.filter_eq_nil_iff]
      constructor
      · intro h
        refine Classical.not_not.mp fun hna => ?_
        obtain ⟨y, hy, hm⟩ := hap.mp hna
        obtain ⟨i, hi⟩ := List.mem_iff_getElem?.mp hy
        have hil := (List.getElem?_eq_some_iff.mp hi).1
        refine h i (List.mem_range.mpr hil) (decide_eq_true ?_)
        rw [List.getD_eq_getElem?_getD, hi]; exact hm
      · intro h i hi hd
        rw [List.mem_range] at hi
        refine hap.mpr ⟨k.getD i 0, ?_, of_decide_eq_true hd⟩ h
        rw [List.getD_eq_getElem?_getD, List.getElem?_eq_getElem hi]; exact List.getElem_mem hi
    generalize hLL : (((List.range k.length).filter fun i => decide (k.getD i 0 % (g : Int) ∈ l'.map fun x => x % (g : Int))).map fun i => k.getD i 0) = L at *
    have eB : ∀ {x : Bool}, x = !decide (L = []) → (x = true ↔ ¬ Apart n b m c) := fun {x} e => by
      rw [e, Bool.not_eq_true', decide_eq_false_iff_not, hL]
    walk_at "go"
    rename_i p10 H10 hn10 s10 t10 p11 H11 hn11 s11 t11
    have eB := eB (x := !decide (L = [])) rfl
    generalize (!decide (L = [])) = B at *
    have eL : lcmI (n : Int) (m : Int) = ((Nat.lcm n m : Nat) : Int) := lcm_c (by omega)
    have eP : ((l'.length : Nat) : Int) * ((k.length : Nat) : Int) = ((pop b * pop c : Nat) : Int) := by rw [pb6, pb7, Int.natCast_mul]
    rw [eL, eP]
    have s711 := ((s8.trans s9).trans s10).trans s11
    have rA11 := rA.mono s711
    have rB11 := r7.mono s711
    have hS11 := same_l s711 (same_l s7 (same_l s6 hS5))
    with_reducible refine k_cutI (fun σ' H' => ∃ (pd : Addr) (v5 : Option V), σ' = [some (.ref a), some (.ref pz'), some (.ref pc), some (.ref pl'), some (.ref pk), v5, some (.int ((pop b * pop c : Nat) : Int)), some (.ref p6), some (.ref p7), some (.int ((Nat.lcm n m : Nat) : Int)), some (.int (g : Int)), some (.ref D), some (.bl B), some (.ref pd)] ∧ Same H11 H' ∧
        (far58 n m (pop b * pop c) (Apart n b m c) → SqT K H' pd (told58 true (Nat.lcm n m : Nat))) ∧ (¬ far58 n m (pop b * pop c) (Apart n b m c) → SqT K H' pd (told58 false 0))) (fun N hN => ?_) ?_
    · refine and_split (far58 n m (pop b * pop c) (Apart n b m c)) (fun h => ?_) (fun h => ?_) fun R' h1 h2 => ?_
      · walk_at "go"
        rename_i p12 H12 hn12 s12 t12
        exact hN _ _ ⟨p12, _, rfl, s12, fun _ => SqT.of t12, fun z => absurd h z⟩
      · walk_at "go"
        exact hN _ _ ⟨p11, _, rfl, Same.refl _, fun z => absurd z h, fun _ => SqT.of t11⟩
      · walk_at "go"
        refine if_b (fun e1 => ?_) (fun e1 => ?_)
        · walk_at "go"
          refine if_dec (fun e2 => ?_) (fun e2 => ?_)
          · walk_at "go"
            exact dec_two (R := fun b => R' b H11) (fun e3 => h1 ⟨eB.mp e1, by omega, by omega⟩) (fun e3 => h2 fun z => by have := z.2; omega)
          · walk_at "go"
            exact h2 fun z => by have := z.2; omega
        · exact h2 fun z => by rw [eB.mpr z.1] at e1; cases e1
    rintro _ H12 ⟨pd, v5, rfl, s12, d1, d0⟩
    have rA12 := rA11.mono s12
    have rB12 := rB11.mono s12
    have hS12 := same_l s12 hS11
    walk_at "go"
    have sh : ∀ (w : Str) (i : Int), PyData.strOk w = true → SeqAt.shaped (.tuple [.str w, .int i, .bool true]) = true := fun w i h => by simp [SeqAt.shaped, PyData.canLay0, PyData.canLayAll0, PyData.depth, PyData.depthAll, h]
    refine k_Ltold rA12 rB12 (fun hf p13 H13 s13 t13 => ?_) (fun hf p13 H13 s13 t13 => ?_)
    · walk_at "go"
      have d2 := same_t s13 (d1 hf)
      exact k_nevS (.tup t13 (.cons (.str _) (.cons (.int _) (.cons (.bl _) .nil)))) (.tup d2 (.cons (.str _) (.cons (.int _) (.cons (.bl _) .nil)))) (sh _ _ (by decide +kernel)) (q _)
    · walk_at "go"
      have d2 := same_t s13 (d0 hf)
      exact k_nevS (.tup t13 (.cons (.str _) (.cons (.int _) (.cons (.bl _) .nil)))) (.tup d2 (.cons (.str _) (.cons (.int _) (.cons (.bl _) .nil)))) (sh _ _ (by decide +kernel)) (q _)

end
theorem all_mk {l : PySem.W.OpenLaw} {w : World} {K : PySem.W.Frag} {h : Heap} {mg : Str → Option Value} {fa : Addr} (X : K.In h) (G : h.Ns mainGlobals mg) (hfa : mg "law" = some (.ref fa))
    {f_Lsizes : Addr} {od_Lsizes an_Lsizes : Option Addr} {sl_Lsizes : Array (Option Value)} {oc_Lsizes kV_Lsizes dc_Lsizes pm_Lsizes cd_Lsizes ct_Lsizes : Value}
    {f_Lcounts : Addr} {od_Lcounts an_Lcounts : Option Addr} {sl_Lcounts : Array (Option Value)} {oc_Lcounts kV_Lcounts dc_Lcounts pm_Lcounts cd_Lcounts ct_Lcounts : Value}
    {f_Ldays : Addr} {od_Ldays an_Ldays : Option Addr} {sl_Ldays : Array (Option Value)} {oc_Ldays kV_Ldays dc_Ldays pm_Ldays cd_Ldays ct_Ldays : Value}
    {f_Lround : Addr} {od_Lround an_Lround : Option Addr} {sl_Lround : Array (Option Value)} {oc_Lround kV_Lround dc_Lround pm_Lround cd_Lround ct_Lround : Value}
    {f_sized : Addr} {od_sized an_sized : Option Addr} {sl_sized : Array (Option Value)} {oc_sized kV_sized dc_sized pm_sized cd_sized ct_sized : Value}
    {f_divisor : Addr} {od_divisor an_divisor : Option Addr} {sl_divisor : Array (Option Value)} {oc_divisor kV_divisor dc_divisor pm_divisor cd_divisor ct_divisor : Value}
    {f_common : Addr} {od_common an_common : Option Addr} {sl_common : Array (Option Value)} {oc_common kV_common dc_common pm_common cd_common ct_common : Value}
    {f_Lcell_at : Addr} {od_Lcell_at an_Lcell_at : Option Addr} {sl_Lcell_at : Array (Option Value)} {oc_Lcell_at kV_Lcell_at dc_Lcell_at pm_Lcell_at cd_Lcell_at ct_Lcell_at : Value}
    {f_TooLong_init : Addr} {od_TooLong_init an_TooLong_init : Option Addr} {sl_TooLong_init : Array (Option Value)} {oc_TooLong_init kV_TooLong_init dc_TooLong_init pm_TooLong_init cd_TooLong_init ct_TooLong_init : Value}
    {f_mask : Addr} {od_mask an_mask : Option Addr} {sl_mask : Array (Option Value)} {oc_mask kV_mask dc_mask pm_mask cd_mask ct_mask : Value}
    {f_folded : Addr} {od_folded an_folded : Option Addr} {sl_folded : Array (Option Value)} {oc_folded kV_folded dc_folded pm_folded cd_folded ct_folded : Value}
    {f_later : Addr} {od_later an_later : Option Addr} {sl_later : Array (Option Value)} {oc_later kV_later dc_later pm_later cd_later ct_later : Value}
    {f_next_day : Addr} {od_next_day an_next_day : Option Addr} {sl_next_day : Array (Option Value)} {oc_next_day kV_next_day dc_next_day pm_next_day cd_next_day ct_next_day : Value}
    {f_days_of : Addr} {od_days_of an_days_of : Option Addr} {sl_days_of : Array (Option Value)} {oc_days_of kV_days_of dc_days_of pm_days_of cd_days_of ct_days_of : Value}
    {f_equation : Addr} {od_equation an_equation : Option Addr} {sl_equation : Array (Option Value)} {oc_equation kV_equation dc_equation pm_equation cd_equation ct_equation : Value}
    {f_met : Addr} {od_met an_met : Option Addr} {sl_met : Array (Option Value)} {oc_met kV_met dc_met pm_met cd_met ct_met : Value}
    {f_ahead : Addr} {od_ahead an_ahead : Option Addr} {sl_ahead : Array (Option Value)} {oc_ahead kV_ahead dc_ahead pm_ahead cd_ahead ct_ahead : Value}
    {f_first_by_pairs : Addr} {od_first_by_pairs an_first_by_pairs : Option Addr} {sl_first_by_pairs : Array (Option Value)} {oc_first_by_pairs kV_first_by_pairs dc_first_by_pairs pm_first_by_pairs cd_first_by_pairs ct_first_by_pairs : Value}
    {f_ones : Addr} {od_ones an_ones : Option Addr} {sl_ones : Array (Option Value)} {oc_ones kV_ones dc_ones pm_ones cd_ones ct_ones : Value}
    {f_allowed : Addr} {od_allowed an_allowed : Option Addr} {sl_allowed : Array (Option Value)} {oc_allowed kV_allowed dc_allowed pm_allowed cd_allowed ct_allowed : Value}
    {f_common_size : Addr} {od_common_size an_common_size : Option Addr} {sl_common_size : Array (Option Value)} {oc_common_size kV_common_size dc_common_size pm_common_size cd_common_size ct_common_size : Value}
    {f_stretched : Addr} {od_stretched an_stretched : Option Addr} {sl_stretched : Array (Option Value)} {oc_stretched kV_stretched dc_stretched pm_stretched cd_stretched ct_stretched : Value}
    {f_both : Addr} {od_both an_both : Option Addr} {sl_both : Array (Option Value)} {oc_both kV_both dc_both pm_both cd_both ct_both : Value}
    {f_meeting : Addr} {od_meeting an_meeting : Option Addr} {sl_meeting : Array (Option Value)} {oc_meeting kV_meeting dc_meeting pm_meeting cd_meeting ct_meeting : Value}
    {f_other_days : Addr} {od_other_days an_other_days : Option Addr} {sl_other_days : Array (Option Value)} {oc_other_days kV_other_days dc_other_days pm_other_days cd_other_days ct_other_days : Value}
    {f_within : Addr} {od_within an_within : Option Addr} {sl_within : Array (Option Value)} {oc_within kV_within dc_within pm_within cd_within ct_within : Value}
    {f_Ltold : Addr} {od_Ltold an_Ltold : Option Addr} {sl_Ltold : Array (Option Value)} {oc_Ltold kV_Ltold dc_Ltold pm_Ltold cd_Ltold ct_Ltold : Value}
    {f_law : Addr} {od_law an_law : Option Addr} {sl_law : Array (Option Value)} {oc_law kV_law dc_law pm_law cd_law ct_law : Value}
    {t_CHUNK : Tok}
    {t_LIMIT : Tok}
    {t_PAIRS : Tok}
    {C_FeastError : Addr}
    {C_TooLong : Addr}
    {nm_TooLong q_TooLong : Str} {N_TooLong : Addr} {bs_TooLong sub_TooLong : List Value} {sn_TooLong : List Str} {ab_TooLong : Bool} {col_TooLong : Option Bool} {dd_TooLong : Option Addr} {m0_TooLong m1_TooLong m2_TooLong m3_TooLong m5_TooLong : Option Value}
    (gc_FeastError : PySem.W.nsIn K mainGlobals "FeastError" = some (some (.ref C_FeastError)))
    (gc_TooLong : PySem.W.nsIn K mainGlobals "TooLong" = some (some (.ref C_TooLong)))
    (in_TooLong_init : PySem.W.findIn K (.ref C_TooLong) "__init__" = some (some (.ref f_TooLong_init)))
    (a_Lsizes : PySem.W.nsIn K mainGlobals "_law_sizes" = some (some (.ref f_Lsizes)))
    (a_Lcounts : PySem.W.nsIn K mainGlobals "_law_counts" = some (some (.ref f_Lcounts)))
    (a_Ldays : PySem.W.nsIn K mainGlobals "_law_days" = some (some (.ref f_Ldays)))
    (a_Lround : PySem.W.nsIn K mainGlobals "_law_round" = some (some (.ref f_Lround)))
    (a_sized : PySem.W.nsIn K mainGlobals "sized" = some (some (.ref f_sized)))
    (a_divisor : PySem.W.nsIn K mainGlobals "divisor" = some (some (.ref f_divisor)))
    (a_common : PySem.W.nsIn K mainGlobals "common" = some (some (.ref f_common)))
    (a_Lcell_at : PySem.W.nsIn K mainGlobals "_law_cell_at" = some (some (.ref f_Lcell_at)))
    (a_mask : PySem.W.nsIn K mainGlobals "mask" = some (some (.ref f_mask)))
    (a_folded : PySem.W.nsIn K mainGlobals "folded" = some (some (.ref f_folded)))
    (a_later : PySem.W.nsIn K mainGlobals "later" = some (some (.ref f_later)))
    (a_next_day : PySem.W.nsIn K mainGlobals "next_day" = some (some (.ref f_next_day)))
    (a_days_of : PySem.W.nsIn K mainGlobals "days_of" = some (some (.ref f_days_of)))
    (a_equation : PySem.W.nsIn K mainGlobals "equation" = some (some (.ref f_equation)))
    (a_met : PySem.W.nsIn K mainGlobals "met" = some (some (.ref f_met)))
    (a_ahead : PySem.W.nsIn K mainGlobals "ahead" = some (some (.ref f_ahead)))
    (a_first_by_pairs : PySem.W.nsIn K mainGlobals "first_by_pairs" = some (some (.ref f_first_by_pairs)))
    (a_ones : PySem.W.nsIn K mainGlobals "ones" = some (some (.ref f_ones)))
    (a_allowed : PySem.W.nsIn K mainGlobals "allowed" = some (some (.ref f_allowed)))
    (a_common_size : PySem.W.nsIn K mainGlobals "common_size" = some (some (.ref f_common_size)))
    (a_stretched : PySem.W.nsIn K mainGlobals "stretched" = some (some (.ref f_stretched)))
    (a_both : PySem.W.nsIn K mainGlobals "both" = some (some (.ref f_both)))
    (a_meeting : PySem.W.nsIn K mainGlobals "meeting" = some (some (.ref f_meeting)))
    (a_other_days : PySem.W.nsIn K mainGlobals "other_days" = some (some (.ref f_other_days)))
    (a_within : PySem.W.nsIn K mainGlobals "within" = some (some (.ref f_within)))
    (a_Ltold : PySem.W.nsIn K mainGlobals "_law_told" = some (some (.ref f_Ltold)))
    (a_law : PySem.W.nsIn K mainGlobals "law" = some (some (.ref f_law)))
    (l_Lsizes : K.lookup f_Lsizes = some ⟨oc_Lsizes, od_Lsizes, .func (PySem.W.fnOf "_law_sizes" "_law_sizes" (defArgs s_Lsizes) (defBody s_Lsizes) (defScope s_Lsizes) .none kV_Lsizes dc_Lsizes pm_Lsizes an_Lsizes cd_Lsizes ct_Lsizes), sl_Lsizes⟩)
    (l_Lcounts : K.lookup f_Lcounts = some ⟨oc_Lcounts, od_Lcounts, .func (PySem.W.fnOf "_law_counts" "_law_counts" (defArgs s_Lcounts) (defBody s_Lcounts) (defScope s_Lcounts) .none kV_Lcounts dc_Lcounts pm_Lcounts an_Lcounts cd_Lcounts ct_Lcounts), sl_Lcounts⟩)
    (l_Ldays : K.lookup f_Ldays = some ⟨oc_Ldays, od_Ldays, .func (PySem.W.fnOf "_law_days" "_law_days" (defArgs s_Ldays) (defBody s_Ldays) (defScope s_Ldays) .none kV_Ldays dc_Ldays pm_Ldays an_Ldays cd_Ldays ct_Ldays), sl_Ldays⟩)
    (l_Lround : K.lookup f_Lround = some ⟨oc_Lround, od_Lround, .func (PySem.W.fnOf "_law_round" "_law_round" (defArgs s_Lround) (defBody s_Lround) (defScope s_Lround) .none kV_Lround dc_Lround pm_Lround an_Lround cd_Lround ct_Lround), sl_Lround⟩)
    (l_sized : K.lookup f_sized = some ⟨oc_sized, od_sized, .func (PySem.W.fnOf "sized" "sized" (defArgs s_sized) (defBody s_sized) (defScope s_sized) .none kV_sized dc_sized pm_sized an_sized cd_sized ct_sized), sl_sized⟩)
    (l_divisor : K.lookup f_divisor = some ⟨oc_divisor, od_divisor, .func (PySem.W.fnOf "divisor" "divisor" (defArgs s_divisor) (defBody s_divisor) (defScope s_divisor) .none kV_divisor dc_divisor pm_divisor an_divisor cd_divisor ct_divisor), sl_divisor⟩)
    (l_common : K.lookup f_common = some ⟨oc_common, od_common, .func (PySem.W.fnOf "common" "common" (defArgs s_common) (defBody s_common) (defScope s_common) .none kV_common dc_common pm_common an_common cd_common ct_common), sl_common⟩)
    (l_Lcell_at : K.lookup f_Lcell_at = some ⟨oc_Lcell_at, od_Lcell_at, .func (PySem.W.fnOf "_law_cell_at" "_law_cell_at" (defArgs s_Lcell_at) (defBody s_Lcell_at) (defScope s_Lcell_at) .none kV_Lcell_at dc_Lcell_at pm_Lcell_at an_Lcell_at cd_Lcell_at ct_Lcell_at), sl_Lcell_at⟩)
    (l_TooLong_init : K.lookup f_TooLong_init = some ⟨oc_TooLong_init, od_TooLong_init, .func (PySem.W.fnOf "__init__" "TooLong.__init__" (defArgs s_TooLong_init) (defBody s_TooLong_init) (defScope s_TooLong_init) .none kV_TooLong_init dc_TooLong_init pm_TooLong_init an_TooLong_init cd_TooLong_init ct_TooLong_init), sl_TooLong_init⟩)
    (l_mask : K.lookup f_mask = some ⟨oc_mask, od_mask, .func (PySem.W.fnOf "mask" "mask" (defArgs s_mask) (defBody s_mask) (defScope s_mask) .none kV_mask dc_mask pm_mask an_mask cd_mask ct_mask), sl_mask⟩)
    (l_folded : K.lookup f_folded = some ⟨oc_folded, od_folded, .func (PySem.W.fnOf "folded" "folded" (defArgs s_folded) (defBody s_folded) (defScope s_folded) .none kV_folded dc_folded pm_folded an_folded cd_folded ct_folded), sl_folded⟩)
    (l_later : K.lookup f_later = some ⟨oc_later, od_later, .func (PySem.W.fnOf "later" "later" (defArgs s_later) (defBody s_later) (defScope s_later) .none kV_later dc_later pm_later an_later cd_later ct_later), sl_later⟩)
    (l_next_day : K.lookup f_next_day = some ⟨oc_next_day, od_next_day, .func (PySem.W.fnOf "next_day" "next_day" (defArgs s_next_day) (defBody s_next_day) (defScope s_next_day) .none kV_next_day dc_next_day pm_next_day an_next_day cd_next_day ct_next_day), sl_next_day⟩)
    (l_days_of : K.lookup f_days_of = some ⟨oc_days_of, od_days_of, .func (PySem.W.fnOf "days_of" "days_of" (defArgs s_days_of) (defBody s_days_of) (defScope s_days_of) .none kV_days_of dc_days_of pm_days_of an_days_of cd_days_of ct_days_of), sl_days_of⟩)
    (l_equation : K.lookup f_equation = some ⟨oc_equation, od_equation, .func (PySem.W.fnOf "equation" "equation" (defArgs s_equation) (defBody s_equation) (defScope s_equation) .none kV_equation dc_equation pm_equation an_equation cd_equation ct_equation), sl_equation⟩)
    (l_met : K.lookup f_met = some ⟨oc_met, od_met, .func (PySem.W.fnOf "met" "met" (defArgs s_met) (defBody s_met) (defScope s_met) .none kV_met dc_met pm_met an_met cd_met ct_met), sl_met⟩)
    (l_ahead : K.lookup f_ahead = some ⟨oc_ahead, od_ahead, .func (PySem.W.fnOf "ahead" "ahead" (defArgs s_ahead) (defBody s_ahead) (defScope s_ahead) .none kV_ahead dc_ahead pm_ahead an_ahead cd_ahead ct_ahead), sl_ahead⟩)
    (l_first_by_pairs : K.lookup f_first_by_pairs = some ⟨oc_first_by_pairs, od_first_by_pairs, .func (PySem.W.fnOf "first_by_pairs" "first_by_pairs" (defArgs s_first_by_pairs) (defBody s_first_by_pairs) (defScope s_first_by_pairs) .none kV_first_by_pairs dc_first_by_pairs pm_first_by_pairs an_first_by_pairs cd_first_by_pairs ct_first_by_pairs), sl_first_by_pairs⟩)
    (l_ones : K.lookup f_ones = some ⟨oc_ones, od_ones, .func (PySem.W.fnOf "ones" "ones" (defArgs s_ones) (defBody s_ones) (defScope s_ones) .none kV_ones dc_ones pm_ones an_ones cd_ones ct_ones), sl_ones⟩)
    (l_allowed : K.lookup f_allowed = some ⟨oc_allowed, od_allowed, .func (PySem.W.fnOf "allowed" "allowed" (defArgs s_allowed) (defBody s_allowed) (defScope s_allowed) .none kV_allowed dc_allowed pm_allowed an_allowed cd_allowed ct_allowed), sl_allowed⟩)
    (l_common_size : K.lookup f_common_size = some ⟨oc_common_size, od_common_size, .func (PySem.W.fnOf "common_size" "common_size" (defArgs s_common_size) (defBody s_common_size) (defScope s_common_size) .none kV_common_size dc_common_size pm_common_size an_common_size cd_common_size ct_common_size), sl_common_size⟩)
    (l_stretched : K.lookup f_stretched = some ⟨oc_stretched, od_stretched, .func (PySem.W.fnOf "stretched" "stretched" (defArgs s_stretched) (defBody s_stretched) (defScope s_stretched) .none kV_stretched dc_stretched pm_stretched an_stretched cd_stretched ct_stretched), sl_stretched⟩)
    (l_both : K.lookup f_both = some ⟨oc_both, od_both, .func (PySem.W.fnOf "both" "both" (defArgs s_both) (defBody s_both) (defScope s_both) .none kV_both dc_both pm_both an_both cd_both ct_both), sl_both⟩)
    (l_meeting : K.lookup f_meeting = some ⟨oc_meeting, od_meeting, .func (PySem.W.fnOf "meeting" "meeting" (defArgs s_meeting) (defBody s_meeting) (defScope s_meeting) .none kV_meeting dc_meeting pm_meeting an_meeting cd_meeting ct_meeting), sl_meeting⟩)
    (l_other_days : K.lookup f_other_days = some ⟨oc_other_days, od_other_days, .func (PySem.W.fnOf "other_days" "other_days" (defArgs s_other_days) (defBody s_other_days) (defScope s_other_days) .none kV_other_days dc_other_days pm_other_days an_other_days cd_other_days ct_other_days), sl_other_days⟩)
    (l_within : K.lookup f_within = some ⟨oc_within, od_within, .func (PySem.W.fnOf "within" "within" (defArgs s_within) (defBody s_within) (defScope s_within) .none kV_within dc_within pm_within an_within cd_within ct_within), sl_within⟩)
    (l_Ltold : K.lookup f_Ltold = some ⟨oc_Ltold, od_Ltold, .func (PySem.W.fnOf "_law_told" "_law_told" (defArgs s_Ltold) (defBody s_Ltold) (defScope s_Ltold) .none kV_Ltold dc_Ltold pm_Ltold an_Ltold cd_Ltold ct_Ltold), sl_Ltold⟩)
    (l_law : K.lookup f_law = some ⟨oc_law, od_law, .func (PySem.W.fnOf "law" "law" (defArgs s_law) (defBody s_law) (defScope s_law) .none kV_law dc_law pm_law an_law cd_law ct_law), sl_law⟩)
    (c_Lsizes : PySem.W.codeIn K cd_Lsizes "_law_sizes" = true)
    (k_Lsizes : PySem.W.keepIn K (.ref f_Lsizes) = true)
    (c_Lcounts : PySem.W.codeIn K cd_Lcounts "_law_counts" = true)
    (k_Lcounts : PySem.W.keepIn K (.ref f_Lcounts) = true)
    (c_Ldays : PySem.W.codeIn K cd_Ldays "_law_days" = true)
    (k_Ldays : PySem.W.keepIn K (.ref f_Ldays) = true)
    (c_Lround : PySem.W.codeIn K cd_Lround "_law_round" = true)
    (k_Lround : PySem.W.keepIn K (.ref f_Lround) = true)
    (c_sized : PySem.W.codeIn K cd_sized "sized" = true)
    (k_sized : PySem.W.keepIn K (.ref f_sized) = true)
    (c_divisor : PySem.W.codeIn K cd_divisor "divisor" = true)
    (k_divisor : PySem.W.keepIn K (.ref f_divisor) = true)
    (c_common : PySem.W.codeIn K cd_common "common" = true)
    (k_common : PySem.W.keepIn K (.ref f_common) = true)
    (c_Lcell_at : PySem.W.codeIn K cd_Lcell_at "_law_cell_at" = true)
    (k_Lcell_at : PySem.W.keepIn K (.ref f_Lcell_at) = true)
    (c_TooLong_init : PySem.W.codeIn K cd_TooLong_init "TooLong.__init__" = true)
    (k_TooLong_init : PySem.W.keepIn K (.ref f_TooLong_init) = true)
    (c_mask : PySem.W.codeIn K cd_mask "mask" = true)
    (k_mask : PySem.W.keepIn K (.ref f_mask) = true)
    (c_folded : PySem.W.codeIn K cd_folded "folded" = true)
    (k_folded : PySem.W.keepIn K (.ref f_folded) = true)
    (c_later : PySem.W.codeIn K cd_later "later" = true)
    (k_later : PySem.W.keepIn K (.ref f_later) = true)
    (c_next_day : PySem.W.codeIn K cd_next_day "next_day" = true)
    (k_next_day : PySem.W.keepIn K (.ref f_next_day) = true)
    (c_days_of : PySem.W.codeIn K cd_days_of "days_of" = true)
    (k_days_of : PySem.W.keepIn K (.ref f_days_of) = true)
    (c_equation : PySem.W.codeIn K cd_equation "equation" = true)
    (k_equation : PySem.W.keepIn K (.ref f_equation) = true)
    (c_met : PySem.W.codeIn K cd_met "met" = true)
    (k_met : PySem.W.keepIn K (.ref f_met) = true)
    (c_ahead : PySem.W.codeIn K cd_ahead "ahead" = true)
    (k_ahead : PySem.W.keepIn K (.ref f_ahead) = true)
    (c_first_by_pairs : PySem.W.codeIn K cd_first_by_pairs "first_by_pairs" = true)
    (k_first_by_pairs : PySem.W.keepIn K (.ref f_first_by_pairs) = true)
    (c_ones : PySem.W.codeIn K cd_ones "ones" = true)
    (k_ones : PySem.W.keepIn K (.ref f_ones) = true)
    (c_allowed : PySem.W.codeIn K cd_allowed "allowed" = true)
    (k_allowed : PySem.W.keepIn K (.ref f_allowed) = true)
    (c_common_size : PySem.W.codeIn K cd_common_size "common_size" = true)
    (k_common_size : PySem.W.keepIn K (.ref f_common_size) = true)
    (c_stretched : PySem.W.codeIn K cd_stretched "stretched" = true)
    (k_stretched : PySem.W.keepIn K (.ref f_stretched) = true)
    (c_both : PySem.W.codeIn K cd_both "both" = true)
    (k_both : PySem.W.keepIn K (.ref f_both) = true)
    (c_meeting : PySem.W.codeIn K cd_meeting "meeting" = true)
    (k_meeting : PySem.W.keepIn K (.ref f_meeting) = true)
    (c_other_days : PySem.W.codeIn K cd_other_days "other_days" = true)
    (k_other_days : PySem.W.keepIn K (.ref f_other_days) = true)
    (c_within : PySem.W.codeIn K cd_within "within" = true)
    (k_within : PySem.W.keepIn K (.ref f_within) = true)
    (c_Ltold : PySem.W.codeIn K cd_Ltold "_law_told" = true)
    (k_Ltold : PySem.W.keepIn K (.ref f_Ltold) = true)
    (c_law : PySem.W.codeIn K cd_law "law" = true)
    (k_law : PySem.W.keepIn K (.ref f_law) = true)
    (q_CHUNK : PySem.W.nsIn K mainGlobals "CHUNK" = some (some (.int 60 t_CHUNK)))
    (q_LIMIT : PySem.W.nsIn K mainGlobals "LIMIT" = some (some (.int 150000 t_LIMIT)))
    (q_PAIRS : PySem.W.nsIn K mainGlobals "PAIRS" = some (some (.int 1000 t_PAIRS)))
    (z_abs : PySem.W.nsIn K mainGlobals "abs" = some none)
    (z_isinstance : PySem.W.nsIn K mainGlobals "isinstance" = some none)
    (z_len : PySem.W.nsIn K mainGlobals "len" = some none)
    (z_min : PySem.W.nsIn K mainGlobals "min" = some none)
    (z_range : PySem.W.nsIn K mainGlobals "range" = some none)
    (z_set : PySem.W.nsIn K mainGlobals "set" = some none)
    (z_tuple : PySem.W.nsIn K mainGlobals "tuple" = some none)
    (kc_FeastError : PySem.W.keepIn K (.ref C_FeastError) = true)
    (bc_FeastError : PySem.W.subIn K (.ref C_FeastError) (.type "BaseException") = some true)
    (tc_FeastError : PySem.W.typeIn K (.ref C_FeastError) = some (.type "type"))
    (ic_FeastError : PySem.W.isClsIn K C_FeastError = true)
    (sc_FeastError : PySem.W.subIn K (.ref C_FeastError) (.ref C_FeastError) = some true)
    (kc_TooLong : PySem.W.keepIn K (.ref C_TooLong) = true)
    (bc_TooLong : PySem.W.subIn K (.ref C_TooLong) (.type "BaseException") = some true)
    (tc_TooLong : PySem.W.typeIn K (.ref C_TooLong) = some (.type "type"))
    (ic_TooLong : PySem.W.isClsIn K C_TooLong = true)
    (sc_TooLong : PySem.W.subIn K (.ref C_TooLong) (.ref C_TooLong) = some true)
    (sb_TooLong_FeastError : PySem.W.subIn K (.ref C_TooLong) (.ref C_FeastError) = some true)
    (xc_TooLong : ExcC K C_TooLong)
    (sv_TooLong : PySem.W.subIn K (.ref C_TooLong) (.type "ValueError") = some true)
    (xl_TooLong : K.lookup C_TooLong = some (excClassObj nm_TooLong q_TooLong C_TooLong N_TooLong bs_TooLong [.ref C_FeastError, .type "ValueError", .type "Exception", .type "BaseException", .type "object"] true sn_TooLong sub_TooLong ab_TooLong col_TooLong dd_TooLong m0_TooLong m1_TooLong m2_TooLong m3_TooLong m5_TooLong "ValueError.__new__"))
    (sa_TooLong : PySem.W.findIn K (.ref C_TooLong) "__setattr__" = some (some (.builtin "object.__setattr__")))
    (ti_TooLong_init : PySem.W.typeIn K (.ref f_TooLong_init) = some (.type "function"))
    (xf_TooLong : XfC K C_TooLong)
    (no_TooLong_needed : PySem.W.findIn K (.ref C_TooLong) "needed" = some none)
    (cr_FeastError : ClX.CRead K C_FeastError (.type "type"))
    (vi_FeastError : PySem.W.findCls K (.ref C_FeastError) (.type "type") "__init__" = some (.val (.builtin "ValueError.__init__"))) :
    ∃ fd : FuncData, (∀ (s : Shared) (v : Value), BindsTo s fd ⟨[v], []⟩ [("_law_script", v)]) ∧ ∀ base : Heap, K.In base → base.Ns mainGlobals mg → FnOk l.prog w K mg base CX0 9 fa fd ["_law_script"] (sp_law K) := by
  have e := hfa.symm.trans (PySem.W.mg_of X G a_law)
  cases e
  have F_Lsizes := fun_mk (st := s_Lsizes) l_Lsizes c_Lsizes k_Lsizes
  have b_Lsizes := F_Lsizes.binds (ps := ["_law_cell"]) fun _ _ _ _ _ _ us hl => match us, hl with | [_], _ => rfl
  have F_Lcounts := fun_mk (st := s_Lcounts) l_Lcounts c_Lcounts k_Lcounts
  have b_Lcounts := F_Lcounts.binds (ps := ["_law_cell"]) fun _ _ _ _ _ _ us hl => match us, hl with | [_], _ => rfl
  have F_Ldays := fun_mk (st := s_Ldays) l_Ldays c_Ldays k_Ldays
  have b_Ldays := F_Ldays.binds (ps := ["_law_cell", "_law_size", "_law_many"]) fun _ _ _ _ _ _ us hl => match us, hl with | [_, _, _], _ => rfl
  have F_Lround := fun_mk (st := s_Lround) l_Lround c_Lround k_Lround
  have b_Lround := F_Lround.binds (ps := ["_law_days_here", "_law_size"]) fun _ _ _ _ _ _ us hl => match us, hl with | [_, _], _ => rfl
  have F_sized := fun_mk (st := s_sized) l_sized c_sized k_sized
  have b_sized := F_sized.binds (ps := ["size"]) fun _ _ _ _ _ _ us hl => match us, hl with | [_], _ => rfl
  have F_divisor := fun_mk (st := s_divisor) l_divisor c_divisor k_divisor
  have b_divisor := F_divisor.binds (ps := ["one", "other"]) fun _ _ _ _ _ _ us hl => match us, hl with | [_, _], _ => rfl
  have F_common := fun_mk (st := s_common) l_common c_common k_common
  have b_common := F_common.binds (ps := ["one", "other"]) fun _ _ _ _ _ _ us hl => match us, hl with | [_, _], _ => rfl
  have F_Lcell_at := fun_mk (st := s_Lcell_at) l_Lcell_at c_Lcell_at k_Lcell_at
  have b_Lcell_at := F_Lcell_at.binds (ps := ["_law_script", "_law_k"]) fun _ _ _ _ _ _ us hl => match us, hl with | [_, _], _ => rfl
  have F_TooLong_init := fun_mk (st := s_TooLong_init) l_TooLong_init c_TooLong_init k_TooLong_init
  have b_TooLong_init := F_TooLong_init.binds (ps := ["self", "needed"]) fun _ _ _ _ _ _ us hl => match us, hl with | [_, _], _ => rfl
  have F_mask := fun_mk (st := s_mask) l_mask c_mask k_mask
  have b_mask := F_mask.binds (ps := ["size"]) fun _ _ _ _ _ _ us hl => match us, hl with | [_], _ => rfl
  have F_folded := fun_mk (st := s_folded) l_folded c_folded k_folded
  have b_folded := F_folded.binds (ps := ["turn", "size"]) fun _ _ _ _ _ _ us hl => match us, hl with | [_, _], _ => rfl
  have F_later := fun_mk (st := s_later) l_later c_later k_later
  have b_later := F_later.binds (ps := ["turn", "number"]) fun _ _ _ _ _ _ us hl => match us, hl with | [_, _], _ => rfl
  have F_next_day := fun_mk (st := s_next_day) l_next_day c_next_day k_next_day
  have b_next_day := F_next_day.binds (ps := ["turn", "day"]) fun _ _ _ _ _ _ us hl => match us, hl with | [_, _], _ => rfl
  have F_days_of := fun_mk (st := s_days_of) l_days_of c_days_of k_days_of
  have b_days_of := F_days_of.binds (ps := ["turn"]) fun _ _ _ _ _ _ us hl => match us, hl with | [_], _ => rfl
  have F_equation := fun_mk (st := s_equation) l_equation c_equation k_equation
  have b_equation := F_equation.binds (ps := ["one", "other"]) fun _ _ _ _ _ _ us hl => match us, hl with | [_, _], _ => rfl
  have F_met := fun_mk (st := s_met) l_met c_met k_met
  have b_met := F_met.binds (ps := ["rest", "size", "other_rest", "other_size"]) fun _ _ _ _ _ _ us hl => match us, hl with | [_, _, _, _], _ => rfl
  have F_ahead := fun_mk (st := s_ahead) l_ahead c_ahead k_ahead
  have b_ahead := F_ahead.binds (ps := ["rest", "size", "day"]) fun _ _ _ _ _ _ us hl => match us, hl with | [_, _, _], _ => rfl
  have F_first_by_pairs := fun_mk (st := s_first_by_pairs) l_first_by_pairs c_first_by_pairs k_first_by_pairs
  have b_first_by_pairs := F_first_by_pairs.binds (ps := ["one", "other", "day"]) fun _ _ _ _ _ _ us hl => match us, hl with | [_, _, _], _ => rfl
  have F_ones := fun_mk (st := s_ones) l_ones c_ones k_ones
  have b_ones := F_ones.binds (ps := ["bits"]) fun _ _ _ _ _ _ us hl => match us, hl with | [_], _ => rfl
  have F_allowed := fun_mk (st := s_allowed) l_allowed c_allowed k_allowed
  have b_allowed := F_allowed.binds (ps := ["size"]) fun _ _ _ _ _ _ us hl => match us, hl with | [_], _ => rfl
  have F_common_size := fun_mk (st := s_common_size) l_common_size c_common_size k_common_size
  have b_common_size := F_common_size.binds (ps := ["one", "other"]) fun _ _ _ _ _ _ us hl => match us, hl with | [_, _], _ => rfl
  have F_stretched := fun_mk (st := s_stretched) l_stretched c_stretched k_stretched
  have b_stretched := F_stretched.binds (ps := ["turn", "size"]) fun _ _ _ _ _ _ us hl => match us, hl with | [_, _], _ => rfl
  have F_both := fun_mk (st := s_both) l_both c_both k_both
  have b_both := F_both.binds (ps := ["one", "other"]) fun _ _ _ _ _ _ us hl => match us, hl with | [_, _], _ => rfl
  have F_meeting := fun_mk (st := s_meeting) l_meeting c_meeting k_meeting
  have b_meeting := F_meeting.binds (ps := ["one", "other", "day"]) fun _ _ _ _ _ _ us hl => match us, hl with | [_, _, _], _ => rfl
  have F_other_days := fun_mk (st := s_other_days) l_other_days c_other_days k_other_days
  have b_other_days := F_other_days.binds (ps := ["turn"]) fun _ _ _ _ _ _ us hl => match us, hl with | [_], _ => rfl
  have F_within := fun_mk (st := s_within) l_within c_within k_within
  have b_within := F_within.binds (ps := ["one", "other", "day"]) fun _ _ _ _ _ _ us hl => match us, hl with | [_, _, _], _ => rfl
  have F_Ltold := fun_mk (st := s_Ltold) l_Ltold c_Ltold k_Ltold
  have b_Ltold := F_Ltold.binds (ps := ["_law_inner", "_law_one", "_law_other", "_law_day"]) fun _ _ _ _ _ _ us hl => match us, hl with | [_, _, _, _], _ => rfl
  have F_law := fun_mk (st := s_law) l_law c_law k_law
  have b_law := F_law.binds (ps := ["_law_script"]) fun _ _ _ _ _ _ us hl => match us, hl with | [_], _ => rfl
  exact ⟨_, fun s v => .of_eq rfl, fun base _ _ => ok_law (⟨_, _, F_Lsizes, (PySem.W.mg_of X G a_Lsizes), b_Lsizes, _, _, F_Lcounts, (PySem.W.mg_of X G a_Lcounts), b_Lcounts, _, _, F_Ldays, (PySem.W.mg_of X G a_Ldays), b_Ldays, _, _, F_Lround, (PySem.W.mg_of X G a_Lround), b_Lround, _, _, F_sized, (PySem.W.mg_of X G a_sized), b_sized, _, _, F_divisor, (PySem.W.mg_of X G a_divisor), b_divisor, _, _, F_common, (PySem.W.mg_of X G a_common), b_common, _, _, F_Lcell_at, (PySem.W.mg_of X G a_Lcell_at), b_Lcell_at, _, _, F_TooLong_init, b_TooLong_init, _, _, F_mask, (PySem.W.mg_of X G a_mask), b_mask, _, _, F_folded, (PySem.W.mg_of X G a_folded), b_folded, _, _, F_later, (PySem.W.mg_of X G a_later), b_later, _, _, F_next_day, (PySem.W.mg_of X G a_next_day), b_next_day, _, _, F_days_of, (PySem.W.mg_of X G a_days_of), b_days_of, _, _, F_equation, (PySem.W.mg_of X G a_equation), b_equation, _, _, F_met, (PySem.W.mg_of X G a_met), b_met, _, _, F_ahead, (PySem.W.mg_of X G a_ahead), b_ahead, _, _, F_first_by_pairs, (PySem.W.mg_of X G a_first_by_pairs), b_first_by_pairs, _, _, F_ones, (PySem.W.mg_of X G a_ones), b_ones, _, _, F_allowed, (PySem.W.mg_of X G a_allowed), b_allowed, _, _, F_common_size, (PySem.W.mg_of X G a_common_size), b_common_size, _, _, F_stretched, (PySem.W.mg_of X G a_stretched), b_stretched, _, _, F_both, (PySem.W.mg_of X G a_both), b_both, _, _, F_meeting, (PySem.W.mg_of X G a_meeting), b_meeting, _, _, F_other_days, (PySem.W.mg_of X G a_other_days), b_other_days, _, _, F_within, (PySem.W.mg_of X G a_within), b_within, _, _, F_Ltold, (PySem.W.mg_of X G a_Ltold), b_Ltold, _, _, F_law, (PySem.W.mg_of X G a_law), b_law, _, (PySem.W.mg_of X G q_CHUNK), _, (PySem.W.mg_of X G q_LIMIT), _, (PySem.W.mg_of X G q_PAIRS), (PySem.W.mg_none_of X G z_abs), (PySem.W.mg_none_of X G z_isinstance), (PySem.W.mg_none_of X G z_len), (PySem.W.mg_none_of X G z_min), (PySem.W.mg_none_of X G z_range), (PySem.W.mg_none_of X G z_set), (PySem.W.mg_none_of X G z_tuple), _, (PySem.W.mg_of X G gc_FeastError), kc_FeastError, bc_FeastError, tc_FeastError, ic_FeastError, sc_FeastError, _, (PySem.W.mg_of X G gc_TooLong), kc_TooLong, bc_TooLong, tc_TooLong, ic_TooLong, sc_TooLong, sb_TooLong_FeastError, xc_TooLong, sv_TooLong, in_TooLong_init, ti_TooLong_init, xf_TooLong, no_TooLong_needed, ⟨⟨_, _, _, _, _, _, _, _, _, _, _, _, _, _, _, xl_TooLong, by first | rfl | decide +kernel⟩, sa_TooLong, bc_TooLong, tc_TooLong, kc_TooLong⟩, cr_FeastError, vi_FeastError⟩ : Txt K mg)⟩
end FW
open PySem PySem.W PyProof.Rows
set_option pp.maxSteps 300 in
set_option maxRecDepth 100000 in
set_option maxHeartbeats 0 in
theorem PySem.Challenge.cw_feastwheel_k58_too_long_to_meet_holds : PySem.Challenge.rw_feastwheel_k58_too_long_to_meet.Holds := by
  w_on; o_law; k_head; (case hw => w_witness2)
  k_fill
  refine L2.walk_ofB (l := PySem.Challenge.rw_feastwheel_k58_too_long_to_meet) (n := 63) (k := 9) (x := "_law_script") (CX := fun _ => L2.CX0) (sp := fun w => FW.sp_law _) rfl (by decide) rfl ⟨rfl, by decide, by decide⟩ (fun w h Y => PySem.W.kIn_of Y) ?F (fun _ _ a ns hl hb _ hS => ⟨a, ns, rfl, hS, hl, hb, fun _ => rfl⟩) (fun _ _ _ _ _ h => h)
  case F =>
    intro w mg fa h KX G hmg
    refine' FW.all_mk KX G hmg ?gc_FeastError ?gc_TooLong ?in_TooLong_init ?a_Lsizes ?a_Lcounts ?a_Ldays ?a_Lround ?a_sized ?a_divisor ?a_common ?a_Lcell_at ?a_mask ?a_folded ?a_later ?a_next_day ?a_days_of ?a_equation ?a_met ?a_ahead ?a_first_by_pairs ?a_ones ?a_allowed ?a_common_size ?a_stretched ?a_both ?a_meeting ?a_other_days ?a_within ?a_Ltold ?a_law ?l_Lsizes ?l_Lcounts ?l_Ldays ?l_Lround ?l_sized ?l_divisor ?l_common ?l_Lcell_at ?l_TooLong_init ?l_mask ?l_folded ?l_later ?l_next_day ?l_days_of ?l_equation ?l_met ?l_ahead ?l_first_by_pairs ?l_ones ?l_allowed ?l_common_size ?l_stretched ?l_both ?l_meeting ?l_other_days ?l_within ?l_Ltold ?l_law ?c_Lsizes ?k_Lsizes ?c_Lcounts ?k_Lcounts ?c_Ldays ?k_Ldays ?c_Lround ?k_Lround ?c_sized ?k_sized ?c_divisor ?k_divisor ?c_common ?k_common ?c_Lcell_at ?k_Lcell_at ?c_TooLong_init ?k_TooLong_init ?c_mask ?k_mask ?c_folded ?k_folded ?c_later ?k_later ?c_next_day ?k_next_day ?c_days_of ?k_days_of ?c_equation ?k_equation ?c_met ?k_met ?c_ahead ?k_ahead ?c_first_by_pairs ?k_first_by_pairs ?c_ones ?k_ones ?c_allowed ?k_allowed ?c_common_size ?k_common_size ?c_stretched ?k_stretched ?c_both ?k_both ?c_meeting ?k_meeting ?c_other_days ?k_other_days ?c_within ?k_within ?c_Ltold ?k_Ltold ?c_law ?k_law ?q_CHUNK ?q_LIMIT ?q_PAIRS ?z_abs ?z_isinstance ?z_len ?z_min ?z_range ?z_set ?z_tuple ?kc_FeastError ?bc_FeastError ?tc_FeastError ?ic_FeastError ?sc_FeastError ?kc_TooLong ?bc_TooLong ?tc_TooLong ?ic_TooLong ?sc_TooLong ?sb_TooLong_FeastError ?xc_TooLong ?sv_TooLong ?xl_TooLong ?sa_TooLong ?ti_TooLong_init ?xf_TooLong ?no_TooLong_needed ?cr_FeastError ?vi_FeastError
    (case gc_FeastError => first | k_is | rfl)
    (case gc_TooLong => first | k_is | rfl)
    (case in_TooLong_init => first | k_is | rfl)
    (case a_Lsizes => first | k_is | rfl)
    (case a_Lcounts => first | k_is | rfl)
    (case a_Ldays => first | k_is | rfl)
    (case a_Lround => first | k_is | rfl)
    (case a_sized => first | k_is | rfl)
    (case a_divisor => first | k_is | rfl)
    (case a_common => first | k_is | rfl)
    (case a_Lcell_at => first | k_is | rfl)
    (case a_mask => first | k_is | rfl)
    (case a_folded => first | k_is | rfl)
    (case a_later => first | k_is | rfl)
    (case a_next_day => first | k_is | rfl)
    (case a_days_of => first | k_is | rfl)
    (case a_equation => first | k_is | rfl)
    (case a_met => first | k_is | rfl)
    (case a_ahead => first | k_is | rfl)
    (case a_first_by_pairs => first | k_is | rfl)
    (case a_ones => first | k_is | rfl)
    (case a_allowed => first | k_is | rfl)
    (case a_common_size => first | k_is | rfl)
    (case a_stretched => first | k_is | rfl)
    (case a_both => first | k_is | rfl)
    (case a_meeting => first | k_is | rfl)
    (case a_other_days => first | k_is | rfl)
    (case a_within => first | k_is | rfl)
    (case a_Ltold => first | k_is | rfl)
    (case a_law => first | k_is | rfl)
    (case l_Lsizes => first | k_is | rfl)
    (case l_Lcounts => first | k_is | rfl)
    (case l_Ldays => first | k_is | rfl)
    (case l_Lround => first | k_is | rfl)
    (case l_sized => first | k_is | rfl)
    (case l_divisor => first | k_is | rfl)
    (case l_common => first | k_is | rfl)
    (case l_Lcell_at => first | k_is | rfl)
    (case l_TooLong_init => first | k_is | rfl)
    (case l_mask => first | k_is | rfl)
    (case l_folded => first | k_is | rfl)
    (case l_later => first | k_is | rfl)
    (case l_next_day => first | k_is | rfl)
    (case l_days_of => first | k_is | rfl)
    (case l_equation => first | k_is | rfl)
    (case l_met => first | k_is | rfl)
    (case l_ahead => first | k_is | rfl)
    (case l_first_by_pairs => first | k_is | rfl)
    (case l_ones => first | k_is | rfl)
    (case l_allowed => first | k_is | rfl)
    (case l_common_size => first | k_is | rfl)
    (case l_stretched => first | k_is | rfl)
    (case l_both => first | k_is | rfl)
    (case l_meeting => first | k_is | rfl)
    (case l_other_days => first | k_is | rfl)
    (case l_within => first | k_is | rfl)
    (case l_Ltold => first | k_is | rfl)
    (case l_law => first | k_is | rfl)
    (case c_Lsizes => first | k_is | rfl)
    (case k_Lsizes => first | k_is | rfl)
    (case c_Lcounts => first | k_is | rfl)
    (case k_Lcounts => first | k_is | rfl)
    (case c_Ldays => first | k_is | rfl)
    (case k_Ldays => first | k_is | rfl)
    (case c_Lround => first | k_is | rfl)
    (case k_Lround => first | k_is | rfl)
    (case c_sized => first | k_is | rfl)
    (case k_sized => first | k_is | rfl)
    (case c_divisor => first | k_is | rfl)
    (case k_divisor => first | k_is | rfl)
    (case c_common => first | k_is | rfl)
    (case k_common => first | k_is | rfl)
    (case c_Lcell_at => first | k_is | rfl)
    (case k_Lcell_at => first | k_is | rfl)
    (case c_TooLong_init => first | k_is | rfl)
    (case k_TooLong_init => first | k_is | rfl)
    (case c_mask => first | k_is | rfl)
    (case k_mask => first | k_is | rfl)
    (case c_folded => first | k_is | rfl)
    (case k_folded => first | k_is | rfl)
    (case c_later => first | k_is | rfl)
    (case k_later => first | k_is | rfl)
    (case c_next_day => first | k_is | rfl)
    (case k_next_day => first | k_is | rfl)
    (case c_days_of => first | k_is | rfl)
    (case k_days_of => first | k_is | rfl)
    (case c_equation => first | k_is | rfl)
    (case k_equation => first | k_is | rfl)
    (case c_met => first | k_is | rfl)
    (case k_met => first | k_is | rfl)
    (case c_ahead => first | k_is | rfl)
    (case k_ahead => first | k_is | rfl)
    (case c_first_by_pairs => first | k_is | rfl)
    (case k_first_by_pairs => first | k_is | rfl)
    (case c_ones => first | k_is | rfl)
    (case k_ones => first | k_is | rfl)
    (case c_allowed => first | k_is | rfl)
    (case k_allowed => first | k_is | rfl)
    (case c_common_size => first | k_is | rfl)
    (case k_common_size => first | k_is | rfl)
    (case c_stretched => first | k_is | rfl)
    (case k_stretched => first | k_is | rfl)
    (case c_both => first | k_is | rfl)
    (case k_both => first | k_is | rfl)
    (case c_meeting => first | k_is | rfl)
    (case k_meeting => first | k_is | rfl)
    (case c_other_days => first | k_is | rfl)
    (case k_other_days => first | k_is | rfl)
    (case c_within => first | k_is | rfl)
    (case k_within => first | k_is | rfl)
    (case c_Ltold => first | k_is | rfl)
    (case k_Ltold => first | k_is | rfl)
    (case c_law => first | k_is | rfl)
    (case k_law => first | k_is | rfl)
    (case q_CHUNK => first | k_is | rfl)
    (case q_LIMIT => first | k_is | rfl)
    (case q_PAIRS => first | k_is | rfl)
    (case z_abs => first | k_is | rfl)
    (case z_isinstance => first | k_is | rfl)
    (case z_len => first | k_is | rfl)
    (case z_min => first | k_is | rfl)
    (case z_range => first | k_is | rfl)
    (case z_set => first | k_is | rfl)
    (case z_tuple => first | k_is | rfl)
    (case kc_FeastError => first | k_is | rfl)
    (case bc_FeastError => first | k_is | rfl)
    (case tc_FeastError => first | k_is | rfl)
    (case ic_FeastError => first | k_is | rfl)
    (case sc_FeastError => first | k_is | rfl)
    (case kc_TooLong => first | k_is | rfl)
    (case bc_TooLong => first | k_is | rfl)
    (case tc_TooLong => first | k_is | rfl)
    (case ic_TooLong => first | k_is | rfl)
    (case sc_TooLong => first | k_is | rfl)
    (case sb_TooLong_FeastError => first | k_is | rfl)
    (case xc_TooLong => constructor <;> first | k_is | rfl)
    (case sv_TooLong => first | k_is | rfl)
    (case xl_TooLong => first | k_is | rfl)
    (case sa_TooLong => first | k_is | rfl)
    (case ti_TooLong_init => first | k_is | rfl)
    (case xf_TooLong => constructor <;> first | k_is | rfl)
    (case no_TooLong_needed => first | k_is | rfl)
    (case cr_FeastError => constructor <;> first | k_is | rfl)
    (case vi_FeastError => first | k_is | rfl)
